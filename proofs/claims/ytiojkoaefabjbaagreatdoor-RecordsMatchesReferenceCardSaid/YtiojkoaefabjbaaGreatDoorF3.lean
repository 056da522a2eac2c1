/-
  records.different: labels that are met once (a map); complete, Valid.
-/
import Derived.Test.YtiojkoaefabjbaaGreatDoorF2
set_option linter.unusedVariables false
set_option linter.unusedSimpArgs false
namespace Go.Proofs.YtiojkoaefabjbaaGreatDoor
open Go.Av Go.Shelf Pl
/-- The labels that were met, and the variable that holds the map. -/
def Hm (seen : List Bs) : List HO := [.map (strs seen) (seen.map fun _ => .lit true), .cells [.om 0]]
theorem like_strs (s : Bs) (seen : List Bs) : ∀ a ∈ strs seen, keyLike (.str s) a = true := by
  intro a ha; obtain ⟨x, _, rfl⟩ := List.mem_map.1 ha; rfl
theorem midx_strs (s : Bs) : ∀ seen : List Bs, (midx (.str s) (strs seen)).isSome = seen.contains s
  | [] => rfl
  | x :: seen => by
    have ih := midx_strs s seen
    unfold strs at *
    simp only [List.map_cons, midx, keyEq, List.contains_cons]
    cases h : (s == x) with
    | true => simp
    | false => simp [ih]
theorem mget_strs (s : Bs) (seen : List Bs) : (mget (.str s) (strs seen) (seen.map fun _ => AV.lit true) = none ∧ seen.contains s = false) ∨ (mget (.str s) (strs seen) (seen.map fun _ => AV.lit true) = some (.lit true) ∧ seen.contains s = true) := by
  have h := midx_strs s seen
  unfold mget
  cases hm : midx (.str s) (strs seen) with
  | none => rw [hm] at h; exact .inl ⟨rfl, h.symm⟩
  | some i =>
    rw [hm] at h
    refine .inr ⟨?_, h.symm⟩
    have hi : i < seen.length := by
      have : ∀ (l : List Bs) (i : Nat), midx (.str s) (strs l) = some i → i < l.length := by
        intro l
        induction l with
        | nil => intro i h; cases h
        | cons x l ih =>
          intro i h
          unfold strs at *
          simp only [List.map_cons, midx] at h
          cases hk : keyEq (.str s) (.str x) with
          | true => rw [hk] at h; simp at h; subst h; simp
          | false =>
            rw [hk] at h
            simp only [cond_false, Option.map_eq_some_iff] at h
            obtain ⟨j, hj, rfl⟩ := h
            have := ih j hj
            simp; omega
      exact this seen i hm
    simp [hi]
theorem put_strs (s : Bs) (seen : List Bs) (h : seen.contains s = false) : mkeys (.str s) (strs seen) = strs (seen ++ [s]) ∧ mvals (.str s) (.lit true) (strs seen) (seen.map fun _ => AV.lit true) = (seen ++ [s]).map fun _ => AV.lit true := by
  have hm : midx (.str s) (strs seen) = none := by
    have := midx_strs s seen
    rw [h] at this
    cases hh : midx (.str s) (strs seen) with
    | none => rfl
    | some i => rw [hh] at this; cases this
  unfold mkeys mvals
  rw [hm]
  simp [strs]
theorem _root_.Go.Av.HCtr.lits {P : Go.Program} {f : Go.FuncId} {args : List AV} {H0 : List HO} {R' : Bool → List HO → Prop} {X : AV → List HO → Prop} (h : HCtr P f args H0 (fun r H => ∃ b, (r = .lit b ∨ r = .bool b) ∧ R' b H) X) :
    HCtr P f args H0 (fun r H => ∃ b, r = .bool b ∧ R' b H) X :=
  ⟨h.good, fun C mu w vs h1 h2 h3 => (h.out C mu w vs h1 h2 h3).mono fun e w' hp => by
    obtain ⟨r, v, H1, C', mu', ho, hp, hh, hr, rest⟩ := hp
    rcases ho with ⟨he, b, hb, hR⟩ | ⟨he, hX⟩
    · refine ⟨.bool b, v, H1, C', mu', .inl ⟨he, b, rfl, hR⟩, hp, hh, ?_, rest⟩
      rcases hb with rfl | rfl <;> (unfold Rep at *; exact hr)
    · exact ⟨r, v, H1, C', mu', .inr ⟨he, hX⟩, hp, hh, hr, rest⟩⟩
set_option maxRecDepth 20000 in
theorem met_spec (s : Bs) (seen : List Bs) (hs : s.length ≤ 9223372036854775807) : HCtr Tryz.prog 77 [.str s, .ptr 1 0] (Hm seen)
    (fun r H1 => ∃ b, r = .bool b ∧ b = !(labelB s && !seen.contains s) ∧ H1 = Hm (bif b then seen else seen ++ [s])) (fun _ _ => False) := by
  refine HCtr.lits ?_
  refine HCtr.of_body Tryz.func77 rfl tys_ok (by kernel_rfl) rfl ?_
  conv => whnf
  repeat (first | refine ACode.seq ?_ | (refine ACode.s_reg tys_ok ?_; conv => whnf) | refine ACode.s_block ?_ | refine ACode.s_scope ?_ | (refine ACode.s_cond ?_; conv => whnf) | (refine ACode.s_exit ?_; conv => whnf) | (refine ACode.s_ret ?_; conv => whnf) | (refine ACode.s_skip ?_; conv => whnf) | (refine ACode.s_label ?_; conv => whnf))
  repeat (first | (refine ACall.of_spec (isLabel_spec s hs) rfl fun r hr => ?_; subst hr; conv => whnf) | refine ACode.seq ?_ | (refine ACode.s_reg tys_ok ?_; conv => whnf) | refine ACode.s_block ?_ | refine ACode.s_scope ?_ | (refine ACode.s_cond ?_; conv => whnf) | (refine ACode.s_exit ?_; conv => whnf) | (refine ACode.s_ret ?_; conv => whnf) | (refine ACode.s_skip ?_; conv => whnf) | (refine ACode.s_label ?_; conv => whnf))
  refine ⟨fun h => ?_, fun h => ?_⟩
  · have h : labelB s = true := by simpa using h
    conv => whnf
    repeat (first | refine ACode.seq ?_ | (refine ACode.s_reg tys_ok ?_; conv => whnf) | refine ACode.s_block ?_ | refine ACode.s_scope ?_ | (refine ACode.s_cond ?_; conv => whnf) | (refine ACode.s_exit ?_; conv => whnf) | (refine ACode.s_ret ?_; conv => whnf) | (refine ACode.s_skip ?_; conv => whnf) | (refine ACode.s_label ?_; conv => whnf))
    refine ⟨like_strs s seen, fun hg => ?_, fun v hv => ?_⟩
    · have hc : seen.contains s = false := by
        rcases mget_strs s seen with k | k
        · exact k.2
        · rw [k.1] at hg; cases hg
      conv => whnf
      repeat (first | refine ACode.seq ?_ | (refine ACode.s_reg tys_ok ?_; conv => whnf) | refine ACode.s_block ?_ | refine ACode.s_scope ?_ | (refine ACode.s_cond ?_; conv => whnf) | (refine ACode.s_exit ?_; conv => whnf) | (refine ACode.s_ret ?_; conv => whnf) | (refine ACode.s_skip ?_; conv => whnf) | (refine ACode.s_label ?_; conv => whnf))
      refine ⟨like_strs s seen, ?_⟩
      rw [(put_strs s seen hc).1, (put_strs s seen hc).2]
      conv => whnf
      repeat (first | refine ACode.seq ?_ | (refine ACode.s_reg tys_ok ?_; conv => whnf) | refine ACode.s_block ?_ | refine ACode.s_scope ?_ | (refine ACode.s_cond ?_; conv => whnf) | (refine ACode.s_exit ?_; conv => whnf) | (refine ACode.s_ret ?_; conv => whnf) | (refine ACode.s_skip ?_; conv => whnf) | (refine ACode.s_label ?_; conv => whnf))
      exact ⟨false, .inl rfl, by rw [h, hc]; rfl, rfl⟩
    · have hc : seen.contains s = true ∧ v = .lit true := by
        rcases mget_strs s seen with k | k
        · rw [k.1] at hv; cases hv
        · rw [k.1] at hv; cases hv; exact ⟨k.2, rfl⟩
      obtain ⟨hc, rfl⟩ := hc
      conv => whnf
      repeat (first | refine ACode.seq ?_ | (refine ACode.s_reg tys_ok ?_; conv => whnf) | refine ACode.s_block ?_ | refine ACode.s_scope ?_ | (refine ACode.s_cond ?_; conv => whnf) | (refine ACode.s_exit ?_; conv => whnf) | (refine ACode.s_ret ?_; conv => whnf) | (refine ACode.s_skip ?_; conv => whnf) | (refine ACode.s_label ?_; conv => whnf))
      exact ⟨true, .inl rfl, by rw [h, hc]; rfl, rfl⟩
  · have h : labelB s = false := by simpa using h
    conv => whnf
    repeat (first | refine ACode.seq ?_ | (refine ACode.s_reg tys_ok ?_; conv => whnf) | refine ACode.s_block ?_ | refine ACode.s_scope ?_ | (refine ACode.s_cond ?_; conv => whnf) | (refine ACode.s_exit ?_; conv => whnf) | (refine ACode.s_ret ?_; conv => whnf) | (refine ACode.s_skip ?_; conv => whnf) | (refine ACode.s_label ?_; conv => whnf))
    exact ⟨true, .inl rfl, by rw [h]; rfl, rfl⟩
theorem freshB_cons (seen : List Bs) (x : Bs) (r : List Bs) : freshB seen (x :: r) = ((labelB x && !seen.contains x) && freshB (seen ++ [x]) r) := rfl
theorem indexF_spec (l seen : List Bs) (hl : l.length ≤ 100000) (hx : ∀ x ∈ l, x.length ≤ 9223372036854775807) : HCtr Tryz.prog 103 [.sl 1 (strs l), .fn 77 [.ptr 1 0]] (Hm seen)
    (fun r H1 => ∃ (i : Int) (seen' : List Bs), r = .int .i64 i ∧ (0 ≤ i ↔ freshB seen l = false) ∧ H1 = Hm seen') (fun _ _ => False) := by
  refine HCtr.of_body Tryz.func103 rfl tys_ok (by kernel_rfl) rfl ?_
  conv => whnf
  repeat (first | refine ACode.seq ?_ | (refine ACode.s_reg tys_ok ?_; conv => whnf) | refine ACode.s_block ?_ | refine ACode.s_scope ?_ | (refine ACode.s_cond ?_; conv => whnf) | (refine ACode.s_exit ?_; conv => whnf) | (refine ACode.s_ret ?_; conv => whnf) | (refine ACode.s_skip ?_; conv => whnf) | (refine ACode.s_label ?_; conv => whnf))
  refine ACode.loopT (fun k : Nat => mk 19 [(0, .sl 1 (strs l)), (1, .fn 77 [.ptr 1 0]), (6, .sl 1 (strs l)), (7, .int .i64 (strs l).length), (8, .int .i64 k)]) (fun k => Hm (seen ++ l.take k)) (fun k => k ≤ l.length ∧ freshB seen l = freshB (seen ++ l.take k) (l.drop k)) (fun k => l.length - k) ⟨0, ?_⟩ fun k hk => ?_
  · conv => whnf
    repeat (refine And.intro ?_ ?_; (focus (first | rfl | (simp; done))); conv => whnf)
    simp
  · obtain ⟨hk, hp⟩ := hk
    repeat (first | refine ACode.seq ?_ | (refine ACode.s_reg tys_ok ?_; conv => whnf) | refine ACode.s_block ?_ | refine ACode.s_scope ?_ | (refine ACode.s_cond ?_; conv => whnf) | (refine ACode.s_exit ?_; conv => whnf) | (refine ACode.s_ret ?_; conv => whnf) | (refine ACode.s_skip ?_; conv => whnf) | (refine ACode.s_label ?_; conv => whnf))
    refine ⟨fun h => ?_, fun h => ?_⟩
    · have h : k < l.length := by simp [strs] at h; omega
      have hd : l.drop k = l[k] :: l.drop (k + 1) := List.drop_eq_getElem_cons h
      have ht : l.take (k + 1) = l.take k ++ [l[k]] := by rw [List.take_succ_eq_append_getElem h]
      rw [hd, freshB_cons] at hp
      conv => whnf
      repeat (first | refine ACode.seq ?_ | (refine ACode.s_reg tys_ok ?_; conv => whnf) | refine ACode.s_block ?_ | refine ACode.s_scope ?_ | (refine ACode.s_cond ?_; conv => whnf) | (refine ACode.s_exit ?_; conv => whnf) | (refine ACode.s_ret ?_; conv => whnf) | (refine ACode.s_skip ?_; conv => whnf) | (refine ACode.s_label ?_; conv => whnf))
      repeat (first | (refine ⟨by omega, .str l[k], (by exact strs_get l k h), ?_⟩; conv => whnf) | refine ACode.seq ?_ | (refine ACode.s_reg tys_ok ?_; conv => whnf) | refine ACode.s_block ?_ | refine ACode.s_scope ?_ | (refine ACode.s_cond ?_; conv => whnf) | (refine ACode.s_exit ?_; conv => whnf) | (refine ACode.s_ret ?_; conv => whnf) | (refine ACode.s_skip ?_; conv => whnf) | (refine ACode.s_label ?_; conv => whnf))
      refine ACall.of_h (met_spec l[k] (seen ++ l.take k) (hx _ (List.getElem_mem h))) rfl ⟨rfl, rfl, rfl, trivial⟩ ?_ (fun r H1 h => h.elim)
      rintro r H1 ⟨b, rfl, hb, rfl⟩
      cases b with
      | true =>
        have hb : (labelB l[k] && !(seen ++ l.take k).contains l[k]) = false := by have := hb; cases hq : (labelB l[k] && !(seen ++ l.take k).contains l[k]) with | false => rfl | true => rw [hq] at this; cases this
        conv => whnf
        repeat (first | refine ACode.seq ?_ | (refine ACode.s_reg tys_ok ?_; conv => whnf) | refine ACode.s_block ?_ | refine ACode.s_scope ?_ | (refine ACode.s_cond ?_; conv => whnf) | (refine ACode.s_exit ?_; conv => whnf) | (refine ACode.s_ret ?_; conv => whnf) | (refine ACode.s_skip ?_; conv => whnf) | (refine ACode.s_label ?_; conv => whnf))
        refine ⟨fun _ => ?_, fun h => by cases h⟩
        conv => whnf
        repeat (first | refine ACode.seq ?_ | (refine ACode.s_reg tys_ok ?_; conv => whnf) | refine ACode.s_block ?_ | refine ACode.s_scope ?_ | (refine ACode.s_cond ?_; conv => whnf) | (refine ACode.s_exit ?_; conv => whnf) | (refine ACode.s_ret ?_; conv => whnf) | (refine ACode.s_skip ?_; conv => whnf) | (refine ACode.s_label ?_; conv => whnf))
        exact ⟨k, _, rfl, by rw [hp, hb]; simp, rfl⟩
      | false =>
        have hb : (labelB l[k] && !(seen ++ l.take k).contains l[k]) = true := by have := hb; cases hq : (labelB l[k] && !(seen ++ l.take k).contains l[k]) with | true => rfl | false => rw [hq] at this; cases this
        conv => whnf
        repeat (first | refine ACode.seq ?_ | (refine ACode.s_reg tys_ok ?_; conv => whnf) | refine ACode.s_block ?_ | refine ACode.s_scope ?_ | (refine ACode.s_cond ?_; conv => whnf) | (refine ACode.s_exit ?_; conv => whnf) | (refine ACode.s_ret ?_; conv => whnf) | (refine ACode.s_skip ?_; conv => whnf) | (refine ACode.s_label ?_; conv => whnf))
        refine ⟨fun h => (by cases h), fun _ => ?_⟩
        conv => whnf
        repeat (first | refine ACode.seq ?_ | (refine ACode.s_reg tys_ok ?_; conv => whnf) | refine ACode.s_block ?_ | refine ACode.s_scope ?_ | (refine ACode.s_cond ?_; conv => whnf) | (refine ACode.s_exit ?_; conv => whnf) | (refine ACode.s_ret ?_; conv => whnf) | (refine ACode.s_skip ?_; conv => whnf) | (refine ACode.s_label ?_; conv => whnf))
        refine ⟨k + 1, ?_⟩
        conv => whnf
        repeat (refine And.intro ?_ ?_; (focus (first | rfl | (simp; done) | (first | (rw [Wr64 _ (by omega) (by omega)]; done) | (rw [Wr64 _ (by omega) (by omega)]; omega); done))); conv => whnf)
        rw [ht, ← List.append_assoc]
        exact ⟨rfl, ⟨by omega, by rw [hp, hb]; rfl⟩, by omega⟩
    · have h : k = l.length := by simp [strs] at h; omega
      conv => whnf
      repeat (first | refine ACode.seq ?_ | (refine ACode.s_reg tys_ok ?_; conv => whnf) | refine ACode.s_block ?_ | refine ACode.s_scope ?_ | (refine ACode.s_cond ?_; conv => whnf) | (refine ACode.s_exit ?_; conv => whnf) | (refine ACode.s_ret ?_; conv => whnf) | (refine ACode.s_skip ?_; conv => whnf) | (refine ACode.s_label ?_; conv => whnf))
      refine ⟨-1, _, rfl, ?_, rfl⟩
      rw [hp, h, List.drop_length]
      simp [freshB]
theorem containsF_spec (l seen : List Bs) (hl : l.length ≤ 100000) (hx : ∀ x ∈ l, x.length ≤ 9223372036854775807) : HCtr Tryz.prog 76 [.sl 1 (strs l), .fn 77 [.ptr 1 0]] (Hm seen)
    (fun r H1 => ∃ seen', r = .bool (!freshB seen l) ∧ H1 = Hm seen') (fun _ _ => False) := by
  refine HCtr.of_body Tryz.func76 rfl tys_ok (by kernel_rfl) rfl ?_
  conv => whnf
  repeat (first | refine ACode.seq ?_ | (refine ACode.s_reg tys_ok ?_; conv => whnf) | refine ACode.s_block ?_ | refine ACode.s_scope ?_ | (refine ACode.s_cond ?_; conv => whnf) | (refine ACode.s_exit ?_; conv => whnf) | (refine ACode.s_ret ?_; conv => whnf) | (refine ACode.s_skip ?_; conv => whnf) | (refine ACode.s_label ?_; conv => whnf))
  refine ACall.of_h (indexF_spec l seen hl hx) rfl ⟨rfl, rfl, rfl, trivial⟩ ?_ (fun r H1 h => h.elim)
  rintro r H1 ⟨i, seen', rfl, hi, rfl⟩
  conv => whnf
  repeat (first | refine ACode.seq ?_ | (refine ACode.s_reg tys_ok ?_; conv => whnf) | refine ACode.s_block ?_ | refine ACode.s_scope ?_ | (refine ACode.s_cond ?_; conv => whnf) | (refine ACode.s_exit ?_; conv => whnf) | (refine ACode.s_ret ?_; conv => whnf) | (refine ACode.s_skip ?_; conv => whnf) | (refine ACode.s_label ?_; conv => whnf))
  refine ⟨seen', ?_, rfl⟩
  refine congrArg AV.bool ?_
  cases hf : freshB seen l with
  | false => simp [hi.2 hf]
  | true =>
    have : ¬ 0 ≤ i := fun h => by rw [hi.1 h] at hf; cases hf
    simp; omega
theorem different_spec (la : Bs) (co : List Bs) (hl : co.length ≤ 100000) (hx : ∀ x ∈ co, x.length ≤ 9223372036854775807) : Ctr Tryz.prog 48 [.str la, .sl 1 (strs co)] (fun r => r = .bool (freshB [la] co)) := by
  refine Ctr.of_body Tryz.func48 rfl tys_ok (by kernel_rfl) ?_
  conv => whnf
  repeat (first | refine ACode.seq ?_ | (refine ACode.s_reg tys_ok ?_; conv => whnf) | refine ACode.s_block ?_ | refine ACode.s_scope ?_ | (refine ACode.s_cond ?_; conv => whnf) | (refine ACode.s_exit ?_; conv => whnf) | (refine ACode.s_ret ?_; conv => whnf) | (refine ACode.s_skip ?_; conv => whnf) | (refine ACode.s_label ?_; conv => whnf))
  refine ⟨fun a h => (by cases h), ?_⟩
  rw [show mkeys (.str la) [] = strs [la] from rfl, show mvals (.str la) (.lit true) [] [] = ([la] : List Bs).map fun _ => AV.lit true from rfl]
  conv => whnf
  repeat (first | refine ACode.seq ?_ | (refine ACode.s_reg tys_ok ?_; conv => whnf) | refine ACode.s_block ?_ | refine ACode.s_scope ?_ | (refine ACode.s_cond ?_; conv => whnf) | (refine ACode.s_exit ?_; conv => whnf) | (refine ACode.s_ret ?_; conv => whnf) | (refine ACode.s_skip ?_; conv => whnf) | (refine ACode.s_label ?_; conv => whnf))
  refine ACall.of_h (containsF_spec co [la] hl hx) rfl ⟨rfl, rfl, rfl, trivial⟩ ?_ (fun r H1 h => h.elim)
  rintro r H1 ⟨seen', rfl, rfl⟩
  conv => whnf
  repeat (first | refine ACode.seq ?_ | (refine ACode.s_reg tys_ok ?_; conv => whnf) | refine ACode.s_block ?_ | refine ACode.s_scope ?_ | (refine ACode.s_cond ?_; conv => whnf) | (refine ACode.s_exit ?_; conv => whnf) | (refine ACode.s_ret ?_; conv => whnf) | (refine ACode.s_skip ?_; conv => whnf) | (refine ACode.s_label ?_; conv => whnf))
  simp
def fromB (n m : Int) : Bool := decide (0 ≤ n) && decide (n ≤ m)
theorem from_spec (n m : Int) : Ctr Tryz.prog 46 [.int .i64 n, .int .i64 m] (fun r => r = .bool (fromB n m)) := by
  refine Ctr.lits ?_
  refine Ctr.of_body Tryz.func46 rfl tys_ok (by kernel_rfl) ?_
  conv => whnf
  repeat (first | refine ACode.seq ?_ | (refine ACode.s_reg tys_ok ?_; conv => whnf) | refine ACode.s_block ?_ | refine ACode.s_scope ?_ | (refine ACode.s_cond ?_; conv => whnf) | (refine ACode.s_exit ?_; conv => whnf) | (refine ACode.s_ret ?_; conv => whnf) | (refine ACode.s_skip ?_; conv => whnf) | (refine ACode.s_label ?_; conv => whnf))
  repeat' (first | (refine And.intro (fun _ => ?_) (fun _ => ?_) <;> conv => whnf) | refine ACode.seq ?_ | (refine ACode.s_reg tys_ok ?_; conv => whnf) | refine ACode.s_block ?_ | refine ACode.s_scope ?_ | (refine ACode.s_cond ?_; conv => whnf) | (refine ACode.s_exit ?_; conv => whnf) | (refine ACode.s_ret ?_; conv => whnf) | (refine ACode.s_skip ?_; conv => whnf) | (refine ACode.s_label ?_; conv => whnf))
  all_goals (simp_all [fromB] <;> omega)
theorem completeB_eq (r : Rc) : completeB r = (fromB r.sc 1000000 && fromB r.nu 1000000 && fromB r.ti 1000000 && labelB r.la && (if r.ki = 1 then decide (r.co.length = 0) else if r.ki = 2 then decide (r.co.length ≤ 40) && freshB [r.la] r.co else false)) := by
  unfold completeB fromB; rfl
set_option maxRecDepth 100000 in
theorem complete_spec (r : Rc) (h1 : r.la.length ≤ 9223372036854775807) (hl : r.co.length ≤ 100000) (hx : ∀ x ∈ r.co, x.length ≤ 9223372036854775807) : Ctr Tryz.prog 27 [r.v] (fun x => x = .bool (completeB r)) := by
  refine Ctr.lits ?_
  rw [completeB_eq]
  refine Ctr.of_body Tryz.func27 rfl tys_ok (by kernel_rfl) ?_
  conv => whnf
  repeat (first | refine ACode.seq ?_ | (refine ACode.s_reg tys_ok ?_; conv => whnf) | refine ACode.s_block ?_ | refine ACode.s_scope ?_ | (refine ACode.s_cond ?_; conv => whnf) | (refine ACode.s_exit ?_; conv => whnf) | (refine ACode.s_ret ?_; conv => whnf) | (refine ACode.s_skip ?_; conv => whnf) | (refine ACode.s_label ?_; conv => whnf))
  repeat' (first | (refine And.intro (fun _ => ?_) (fun _ => ?_) <;> conv => whnf) | (refine ACall.of_spec (from_spec r.sc 1000000) rfl fun r hr => ?_; subst hr; conv => whnf) | (refine ACall.of_spec (from_spec r.nu 1000000) rfl fun r hr => ?_; subst hr; conv => whnf) | (refine ACall.of_spec (from_spec r.ti 1000000) rfl fun r hr => ?_; subst hr; conv => whnf) | (refine ACall.of_spec (isLabel_spec r.la h1) rfl fun r hr => ?_; subst hr; conv => whnf) | (refine ACall.of_spec (different_spec r.la r.co hl hx) rfl fun r hr => ?_; subst hr; conv => whnf) | refine ACode.seq ?_ | (refine ACode.s_reg tys_ok ?_; conv => whnf) | refine ACode.s_block ?_ | refine ACode.s_scope ?_ | (refine ACode.s_cond ?_; conv => whnf) | (refine ACode.s_exit ?_; conv => whnf) | (refine ACode.s_ret ?_; conv => whnf) | (refine ACode.s_skip ?_; conv => whnf) | (refine ACode.s_label ?_; conv => whnf))
  all_goals first | exact .inr (congrArg AV.bool (by simp_all [strs_len] <;> intros <;> omega)) | exact .inl (congrArg AV.lit (by simp_all [strs_len] <;> intros <;> omega))
/-- The fields of a record that a law may hand are of a size that Go has. -/
structure RcOK (r : Rc) : Prop where
  la : r.la.length ≤ 9223372036854775807
  co : r.co.length ≤ 100000
  cx : ∀ x ∈ r.co, x.length ≤ 9223372036854775807
theorem sns_get (l : List Sn) (i : Nat) (h : i < l.length) : (l.map Sn.v)[i]? = some l[i].v := by simp [h]
set_option maxRecDepth 100000 in
theorem valid_spec (l : List Sn) (r : Rc) (hr : RcOK r) : Ctr Tryz.prog 13 [sns l, r.v] (fun x => x = .bool (validB l r)) := by
  refine Ctr.lits ?_
  refine Ctr.of_body Tryz.func13 rfl tys_ok (by kernel_rfl) ?_
  conv => whnf
  repeat (first | refine ACode.seq ?_ | (refine ACode.s_reg tys_ok ?_; conv => whnf) | refine ACode.s_block ?_ | refine ACode.s_scope ?_ | (refine ACode.s_cond ?_; conv => whnf) | (refine ACode.s_exit ?_; conv => whnf) | (refine ACode.s_ret ?_; conv => whnf) | (refine ACode.s_skip ?_; conv => whnf) | (refine ACode.s_label ?_; conv => whnf))
  refine ⟨fun h => ?_, fun h => ?_⟩
  · have h : l.length ≤ 24 := by simp at h; omega
    conv => whnf
    repeat (first | refine ACode.seq ?_ | (refine ACode.s_reg tys_ok ?_; conv => whnf) | refine ACode.s_block ?_ | refine ACode.s_scope ?_ | (refine ACode.s_cond ?_; conv => whnf) | (refine ACode.s_exit ?_; conv => whnf) | (refine ACode.s_ret ?_; conv => whnf) | (refine ACode.s_skip ?_; conv => whnf) | (refine ACode.s_label ?_; conv => whnf))
    refine ⟨fun h2 => ?_, fun h2 => ?_⟩
    · have h2 : 0 ≤ r.sc := by simpa using h2
      conv => whnf
      repeat (first | refine ACode.seq ?_ | (refine ACode.s_reg tys_ok ?_; conv => whnf) | refine ACode.s_block ?_ | refine ACode.s_scope ?_ | (refine ACode.s_cond ?_; conv => whnf) | (refine ACode.s_exit ?_; conv => whnf) | (refine ACode.s_ret ?_; conv => whnf) | (refine ACode.s_skip ?_; conv => whnf) | (refine ACode.s_label ?_; conv => whnf))
      refine ⟨fun h3 => ?_, fun h3 => ?_⟩
      · have h3 : r.sc ≥ l.length := by simpa using h3
        conv => whnf
        repeat (first | refine ACode.seq ?_ | (refine ACode.s_reg tys_ok ?_; conv => whnf) | refine ACode.s_block ?_ | refine ACode.s_scope ?_ | (refine ACode.s_cond ?_; conv => whnf) | (refine ACode.s_exit ?_; conv => whnf) | (refine ACode.s_ret ?_; conv => whnf) | (refine ACode.s_skip ?_; conv => whnf) | (refine ACode.s_label ?_; conv => whnf))
        refine .inr (congrArg AV.bool ?_)
        have : l[r.sc.toNat]? = none := List.getElem?_eq_none (by omega)
        simp [validB, this]
      · have h3 : r.sc.toNat < l.length := by simp at h3; omega
        conv => whnf
        repeat (first | refine ACode.seq ?_ | (refine ACode.s_reg tys_ok ?_; conv => whnf) | refine ACode.s_block ?_ | refine ACode.s_scope ?_ | (refine ACode.s_cond ?_; conv => whnf) | (refine ACode.s_exit ?_; conv => whnf) | (refine ACode.s_ret ?_; conv => whnf) | (refine ACode.s_skip ?_; conv => whnf) | (refine ACode.s_label ?_; conv => whnf))
        refine ⟨by omega, _, sns_get l _ h3, ?_⟩
        have hv : validB l r = (scannerB l[r.sc.toNat] && completeB r) := by
          unfold validB
          rw [List.getElem?_eq_getElem h3]
          simp [h, h2]
        rw [hv]
        generalize l[r.sc.toNat] = s at *
        conv => whnf
        repeat (first | refine ACode.seq ?_ | (refine ACode.s_reg tys_ok ?_; conv => whnf) | refine ACode.s_block ?_ | refine ACode.s_scope ?_ | (refine ACode.s_cond ?_; conv => whnf) | (refine ACode.s_exit ?_; conv => whnf) | (refine ACode.s_ret ?_; conv => whnf) | (refine ACode.s_skip ?_; conv => whnf) | (refine ACode.s_label ?_; conv => whnf))
        repeat' (first | (refine And.intro (fun _ => ?_) (fun _ => ?_) <;> conv => whnf) | (refine ACall.of_spec (complete_spec r hr.la hr.co hr.cx) rfl fun r hr => ?_; subst hr; conv => whnf) | refine ACode.seq ?_ | (refine ACode.s_reg tys_ok ?_; conv => whnf) | refine ACode.s_block ?_ | refine ACode.s_scope ?_ | (refine ACode.s_cond ?_; conv => whnf) | (refine ACode.s_exit ?_; conv => whnf) | (refine ACode.s_ret ?_; conv => whnf) | (refine ACode.s_skip ?_; conv => whnf) | (refine ACode.s_label ?_; conv => whnf))
        all_goals first | exact .inr (congrArg AV.bool (by simp_all [scannerB] <;> intros <;> omega)) | exact .inl (congrArg AV.lit (by simp_all [scannerB] <;> intros <;> omega))
    · have h2 : ¬ 0 ≤ r.sc := by simpa using h2
      conv => whnf
      repeat (first | refine ACode.seq ?_ | (refine ACode.s_reg tys_ok ?_; conv => whnf) | refine ACode.s_block ?_ | refine ACode.s_scope ?_ | (refine ACode.s_cond ?_; conv => whnf) | (refine ACode.s_exit ?_; conv => whnf) | (refine ACode.s_ret ?_; conv => whnf) | (refine ACode.s_skip ?_; conv => whnf) | (refine ACode.s_label ?_; conv => whnf))
      exact .inr (congrArg AV.bool (by simp [validB, h2]))
  · have h : ¬ l.length ≤ 24 := by simp at h; omega
    conv => whnf
    repeat (first | refine ACode.seq ?_ | (refine ACode.s_reg tys_ok ?_; conv => whnf) | refine ACode.s_block ?_ | refine ACode.s_scope ?_ | (refine ACode.s_cond ?_; conv => whnf) | (refine ACode.s_exit ?_; conv => whnf) | (refine ACode.s_ret ?_; conv => whnf) | (refine ACode.s_skip ?_; conv => whnf) | (refine ACode.s_label ?_; conv => whnf))
    exact .inr (congrArg AV.bool (by simp [validB, h]))
end Go.Proofs.YtiojkoaefabjbaaGreatDoor
