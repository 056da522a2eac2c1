import Derived.Test.YtmhlneeboefkgaaDoorRc
import Derived.Test.YtmhlneeboefkgaaDoorP10
set_option linter.unusedVariables false
set_option linter.unusedSimpArgs false
namespace Go.Proofs.YtmhlneeboefkgaaDoor
open Go.Av Go.Av.Net Pl
theorem gaps_spec : Ctr Tryd.prog 29 [] (fun r => r = .sl 1 (strs gapsL)) := by
  refine Ctr.of_body Tryd.func29 rfl tys_ok (by kernel_rfl) ?_
  conv => whnf
  repeat (first | refine ACode.seq ?_ | (refine ACode.s_reg tys_ok ?_; conv => whnf) | refine ACode.s_block ?_ | refine ACode.s_scope ?_ | (refine ACode.s_cond ?_; conv => whnf) | (refine ACode.s_exit ?_; conv => whnf) | (refine ACode.s_ret ?_; conv => whnf) | (refine ACode.s_skip ?_; conv => whnf) | (refine ACode.s_label ?_; conv => whnf))
  exact ⟨⟨rfl, closed_strs gapsL⟩, rfl⟩
def ints (l : List Int) : List AV := l.map (.int .i64)
@[simp] theorem ints_length (l : List Int) : (ints l).length = l.length := by simp [ints]
theorem ints_get (l : List Int) (k : Nat) (h : k < l.length) : (ints l)[k]? = some (.int .i64 l[k]) := by simp [ints, h]
theorem closed_ints (l : List Int) : ∀ e ∈ ints l, closed e = true := by
  intro e he; obtain ⟨s, _, rfl⟩ := List.mem_map.1 he; rfl
theorem spr_snoc (gaps : List UInt8) (t : KT) : ∀ (xs : List KT) (i : Nat), spr gaps i (xs ++ [t]) = spr gaps i xs ++ (gapAt gaps (i + xs.length) ++ srcT t.1 t.2)
  | [], i => by simp [spr]
  | x :: xs, i => by
    simp only [List.cons_append, spr, spr_snoc gaps t xs (i + 1), List.length_cons, List.append_assoc]
    rw [show i + 1 + xs.length = i + (xs.length + 1) by omega]
theorem sprAt_snoc (gaps : List UInt8) (t : KT) : ∀ (xs : List KT) (i p : Nat), sprAt gaps i p (xs ++ [t]) = sprAt gaps i p xs ++ [p + (spr gaps i xs).length + (gapAt gaps (i + xs.length)).length]
  | [], i, p => by simp [spr, sprAt]
  | x :: xs, i, p => by
    simp only [List.cons_append, spr, sprAt, sprAt_snoc gaps t xs (i + 1), List.length_cons, List.length_append]
    rw [show i + 1 + xs.length = i + (xs.length + 1) by omega]
    congr 3
    omega
theorem gapAt_len (gaps : List UInt8) (i : Nat) : (gapAt gaps i).length ≤ 14 := by
  have : ∀ G ∈ gapsL, G.length ≤ 14 := by decide
  exact this _ (gapAt_mem gaps i)
theorem spr_len (gaps : List UInt8) : ∀ (xs : List KT) (i : Nat), (∀ t ∈ xs, t.2.length ≤ 8000) → (spr gaps i xs).length ≤ xs.length * 8100
  | [], i, _ => by simp [spr]
  | t :: xs, i, h => by
    have h1 := spr_len gaps xs (i + 1) fun x hx => h x (List.mem_cons_of_mem _ hx)
    have h2 := gapAt_len gaps i
    have h3 := srcT_len t.1 t.2
    have h4 := h t (List.mem_cons_self ..)
    simp only [spr, List.length_append, List.length_cons]
    omega
theorem closed_byts (l : List UInt8) : ∀ e ∈ byts l, closed e = true := by
  intro e he; obtain ⟨s, _, rfl⟩ := List.mem_map.1 he; rfl
set_option maxRecDepth 20000 in
theorem spread_spec (l : List Tok) (gaps : List UInt8) (hl : l.length ≤ 3000) (ht : ∀ t ∈ l, t.text.length ≤ 8000) (hg : gaps.length ≤ 9223372036854775807) :
    Ctr Tryd.prog 12 [.sl 3 (toksA l), .sl 1 (byts gaps)] (fun r => r = .tuple [.str (spr gaps 0 (kts l)), .sl 1 (ints ((sprAt gaps 0 0 (kts l)).map (fun x : Nat => (x : Int)) ++ [((spr gaps 0 (kts l)).length : Int)]))]) := by
  refine Ctr.of_body Tryd.func12 rfl tys_ok (by kernel_rfl) ?_
  conv => whnf
  repeat (first | refine ACode.seq ?_ | (refine ACode.s_reg tys_ok ?_; conv => whnf) | refine ACode.s_block ?_ | refine ACode.s_scope ?_ | (refine ACode.s_cond ?_; conv => whnf) | (refine ACode.s_exit ?_; conv => whnf) | (refine ACode.s_ret ?_; conv => whnf) | (refine ACode.s_skip ?_; conv => whnf) | (refine ACode.s_label ?_; conv => whnf))
  refine ACall.of_spec (gaps_spec) rfl fun r hr => ?_
  subst hr
  conv => whnf
  repeat (first | refine ACode.seq ?_ | (refine ACode.s_reg tys_ok ?_; conv => whnf) | refine ACode.s_block ?_ | refine ACode.s_scope ?_ | (refine ACode.s_cond ?_; conv => whnf) | (refine ACode.s_exit ?_; conv => whnf) | (refine ACode.s_ret ?_; conv => whnf) | (refine ACode.s_skip ?_; conv => whnf) | (refine ACode.s_label ?_; conv => whnf))
  have hK : (kts l).length = l.length := by simp [kts]
  have hAl : ∀ (xs : List KT) (i p : Nat), (sprAt gaps i p xs).length = xs.length := fun xs => by
    induction xs with
    | nil => intro i p; rfl
    | cons t r ih => intro i p; simp only [sprAt, List.length_cons, ih]
  have hT : ∀ i, ∀ t ∈ (kts l).take i, t.2.length ≤ 8000 := fun i t h => by
    obtain ⟨x, hx, rfl⟩ := List.mem_map.1 (List.mem_of_mem_take h)
    exact ht x hx
  have hS : ∀ i, (spr gaps 0 ((kts l).take i)).length ≤ 24300000 := fun i => by
    have := spr_len gaps ((kts l).take i) 0 (hT i)
    simp only [List.length_take] at this
    omega
  refine ACode.nilArr 8 3 1 rfl ?_
  refine ACode.loopD (fun i : Nat => mk 55 [(0, .sl 3 (toksA l)), (1, .sl 1 (byts gaps)), (6, .sl 1 (strs gapsL)), (7, .str (spr gaps 0 ((kts l).take i))), (8, .own 0 1 0 i), (9, .int .i64 i)]) (fun i => [.arr 3 1 (ints ((sprAt gaps 0 0 ((kts l).take i)).map (fun x : Nat => (x : Int))))])
    (fun i => i ≤ l.length) (fun i => l.length - i) (fun i hi => ⟨rfl, ?_⟩) ⟨0, ?_⟩ (fun _ => rfl) fun i hi => ?_
  · (conv => whnf)
    exact ⟨closed_ints _, trivial⟩
  · conv => whnf
    repeat (refine And.intro ?_ ?_; (focus (first | rfl | (simp; done))); conv => whnf)
    simp
  · repeat (first | refine ACode.seq ?_ | (refine ACode.s_reg tys_ok ?_; conv => whnf) | refine ACode.s_block ?_ | refine ACode.s_scope ?_ | (refine ACode.s_cond ?_; conv => whnf) | (refine ACode.s_exit ?_; conv => whnf) | (refine ACode.s_ret ?_; conv => whnf) | (refine ACode.s_skip ?_; conv => whnf) | (refine ACode.s_label ?_; conv => whnf))
    refine ⟨fun h => ?_, fun h => ?_⟩
    · have h : i < l.length := by simp at h; omega
      have hs1 := kts_succ l i h
      have hl1 : ((kts l).take i).length = i := by simp [hK]; omega
      have hsp := spr_snoc gaps (l[i].kind, l[i].text) ((kts l).take i) 0
      have hsa := sprAt_snoc gaps (l[i].kind, l[i].text) ((kts l).take i) 0 0
      rw [hl1, Nat.zero_add, ← hs1] at hsp hsa
      rw [Nat.zero_add] at hsa
      have hSi := hS i
      have hSi1 := hS (i + 1)
      have hli := hAl ((kts l).take i) 0 0
      rw [hl1] at hli
      simp only at hsp hsa
      have hgl := gapAt_len gaps i
      have hsl := srcT_len l[i].kind l[i].text
      have htl := ht _ (List.getElem_mem h)
      rw [hsp] at hSi1
      simp only [List.length_append] at hSi1
      generalize hS0 : spr gaps 0 ((kts l).take i) = S at *
      generalize hA0 : sprAt gaps 0 0 ((kts l).take i) = A at *
      repeat (first | refine ACode.seq ?_ | (refine ACode.s_reg tys_ok ?_; conv => whnf) | refine ACode.s_block ?_ | refine ACode.s_scope ?_ | (refine ACode.s_cond ?_; conv => whnf) | (refine ACode.s_exit ?_; conv => whnf) | (refine ACode.s_ret ?_; conv => whnf) | (refine ACode.s_skip ?_; conv => whnf) | (refine ACode.s_label ?_; conv => whnf))
      have htm : ∀ m : Nat, ((m : Int)).tmod ((strs gapsL).length : Int) = ((m % 6 : Nat) : Int) := fun m => by
        rw [show ((strs gapsL).length : Int) = ((6 : Nat) : Int) from rfl, Int.ofNat_tmod]
      have hG : ∀ m : Nat, gapAt gaps i = gapsL.getD (m % 6) [] → (strs gapsL)[(((m % 6 : Nat) : Int)).toNat]? = some (.str (gapAt gaps i)) := fun m hm => by
        have h6 : m % 6 < gapsL.length := by show m % 6 < 6; omega
        rw [hm, Int.toNat_natCast, strs_get _ _ h6, List.getD, List.getElem?_eq_getElem h6]
        rfl
      by_cases hgi : i < gaps.length
      · have hgv : gapAt gaps i = gapsL.getD (gaps[i].toNat % 6) [] := by unfold gapAt; rw [List.getElem?_eq_getElem hgi]
        repeat (first | (refine no_br ?_ (fun _ => ?_); (focus (simp; omega; done)); conv => whnf) | refine ACode.seq ?_ | (refine ACode.s_reg tys_ok ?_; conv => whnf) | refine ACode.s_block ?_ | refine ACode.s_scope ?_ | (refine ACode.s_cond ?_; conv => whnf) | (refine ACode.s_exit ?_; conv => whnf) | (refine ACode.s_ret ?_; conv => whnf) | (refine ACode.s_skip ?_; conv => whnf) | (refine ACode.s_label ?_; conv => whnf))
        repeat (first | (refine ⟨by omega, .int .u8 gaps[i].toNat, (by exact byts_get gaps i hgi), ?_⟩; conv => whnf) | refine ACode.seq ?_ | (refine ACode.s_reg tys_ok ?_; conv => whnf) | refine ACode.s_block ?_ | refine ACode.s_scope ?_ | (refine ACode.s_cond ?_; conv => whnf) | (refine ACode.s_exit ?_; conv => whnf) | (refine ACode.s_ret ?_; conv => whnf) | (refine ACode.s_skip ?_; conv => whnf) | (refine ACode.s_label ?_; conv => whnf))
        refine ⟨by decide, ?_⟩
        conv => whnf
        repeat (first | refine ACode.seq ?_ | (refine ACode.s_reg tys_ok ?_; conv => whnf) | refine ACode.s_block ?_ | refine ACode.s_scope ?_ | (refine ACode.s_cond ?_; conv => whnf) | (refine ACode.s_exit ?_; conv => whnf) | (refine ACode.s_ret ?_; conv => whnf) | (refine ACode.s_skip ?_; conv => whnf) | (refine ACode.s_label ?_; conv => whnf))
        rw [Wr64 _ (by have := gaps[i].toNat_lt; omega) (by have := gaps[i].toNat_lt; omega)]
        rw [htm _]
        refine ⟨by omega, .str (gapAt gaps i), hG _ hgv, ?_⟩
        conv => whnf
        repeat (first | refine ACode.seq ?_ | (refine ACode.s_reg tys_ok ?_; conv => whnf) | refine ACode.s_block ?_ | refine ACode.s_scope ?_ | (refine ACode.s_cond ?_; conv => whnf) | (refine ACode.s_exit ?_; conv => whnf) | (refine ACode.s_ret ?_; conv => whnf) | (refine ACode.s_skip ?_; conv => whnf) | (refine ACode.s_label ?_; conv => whnf))
        refine ⟨by omega, ?_⟩
        conv => whnf
        repeat (first | refine ACode.seq ?_ | (refine ACode.s_reg tys_ok ?_; conv => whnf) | refine ACode.s_block ?_ | refine ACode.s_scope ?_ | (refine ACode.s_cond ?_; conv => whnf) | (refine ACode.s_exit ?_; conv => whnf) | (refine ACode.s_ret ?_; conv => whnf) | (refine ACode.s_skip ?_; conv => whnf) | (refine ACode.s_label ?_; conv => whnf))
        refine ⟨rfl, ?_⟩
        conv => whnf
        refine ⟨⟨by simp [hli], by simp; omega⟩, ?_⟩
        conv => whnf
        repeat (first | refine ACode.seq ?_ | (refine ACode.s_reg tys_ok ?_; conv => whnf) | refine ACode.s_block ?_ | refine ACode.s_scope ?_ | (refine ACode.s_cond ?_; conv => whnf) | (refine ACode.s_exit ?_; conv => whnf) | (refine ACode.s_ret ?_; conv => whnf) | (refine ACode.s_skip ?_; conv => whnf) | (refine ACode.s_label ?_; conv => whnf))
        repeat (first | (refine ⟨by omega, tokA l[i], (by exact toks_get l i h), ?_⟩; conv => whnf) | (refine ACall.of_spec (source_t l[i] htl) rfl fun r hr => ?_; subst hr; conv => whnf) | refine ACode.seq ?_ | (refine ACode.s_reg tys_ok ?_; conv => whnf) | refine ACode.s_block ?_ | refine ACode.s_scope ?_ | (refine ACode.s_cond ?_; conv => whnf) | (refine ACode.s_exit ?_; conv => whnf) | (refine ACode.s_ret ?_; conv => whnf) | (refine ACode.s_skip ?_; conv => whnf) | (refine ACode.s_label ?_; conv => whnf))
        refine ⟨by simp; omega, ?_⟩
        conv => whnf
        repeat (first | refine ACode.seq ?_ | (refine ACode.s_reg tys_ok ?_; conv => whnf) | refine ACode.s_block ?_ | refine ACode.s_scope ?_ | (refine ACode.s_cond ?_; conv => whnf) | (refine ACode.s_exit ?_; conv => whnf) | (refine ACode.s_ret ?_; conv => whnf) | (refine ACode.s_skip ?_; conv => whnf) | (refine ACode.s_label ?_; conv => whnf))
        refine ⟨i + 1, ?_⟩
        conv => whnf
        repeat (refine And.intro ?_ ?_; (focus (first | rfl | (simp; done) | (first | (rw [Wr64 _ (by omega) (by omega)]; omega) | (rw [hsp]; simp [List.append_assoc]; done) | (simp [hli]; done); done))); conv => whnf)
        refine ⟨by rw [hsa]; simp [ints], ?_⟩
        (conv => whnf)
        exact ⟨by omega, by omega⟩
      · have hgv : gapAt gaps i = gapsL.getD (i % 6) [] := by unfold gapAt; rw [List.getElem?_eq_none (by omega)]
        repeat (first | (refine yes_br ?_ (fun _ => ?_); (focus (simp; omega; done)); conv => whnf) | (refine no_br ?_ (fun _ => ?_); (focus (simp; omega; done)); conv => whnf) | refine ACode.seq ?_ | (refine ACode.s_reg tys_ok ?_; conv => whnf) | refine ACode.s_block ?_ | refine ACode.s_scope ?_ | (refine ACode.s_cond ?_; conv => whnf) | (refine ACode.s_exit ?_; conv => whnf) | (refine ACode.s_ret ?_; conv => whnf) | (refine ACode.s_skip ?_; conv => whnf) | (refine ACode.s_label ?_; conv => whnf))
        refine ⟨by decide, ?_⟩
        conv => whnf
        repeat (first | refine ACode.seq ?_ | (refine ACode.s_reg tys_ok ?_; conv => whnf) | refine ACode.s_block ?_ | refine ACode.s_scope ?_ | (refine ACode.s_cond ?_; conv => whnf) | (refine ACode.s_exit ?_; conv => whnf) | (refine ACode.s_ret ?_; conv => whnf) | (refine ACode.s_skip ?_; conv => whnf) | (refine ACode.s_label ?_; conv => whnf))
        rw [htm _]
        refine ⟨by omega, .str (gapAt gaps i), hG _ hgv, ?_⟩
        conv => whnf
        repeat (first | refine ACode.seq ?_ | (refine ACode.s_reg tys_ok ?_; conv => whnf) | refine ACode.s_block ?_ | refine ACode.s_scope ?_ | (refine ACode.s_cond ?_; conv => whnf) | (refine ACode.s_exit ?_; conv => whnf) | (refine ACode.s_ret ?_; conv => whnf) | (refine ACode.s_skip ?_; conv => whnf) | (refine ACode.s_label ?_; conv => whnf))
        refine ⟨by omega, ?_⟩
        conv => whnf
        repeat (first | refine ACode.seq ?_ | (refine ACode.s_reg tys_ok ?_; conv => whnf) | refine ACode.s_block ?_ | refine ACode.s_scope ?_ | (refine ACode.s_cond ?_; conv => whnf) | (refine ACode.s_exit ?_; conv => whnf) | (refine ACode.s_ret ?_; conv => whnf) | (refine ACode.s_skip ?_; conv => whnf) | (refine ACode.s_label ?_; conv => whnf))
        refine ⟨rfl, ?_⟩
        conv => whnf
        refine ⟨⟨by simp [hli], by simp; omega⟩, ?_⟩
        conv => whnf
        repeat (first | refine ACode.seq ?_ | (refine ACode.s_reg tys_ok ?_; conv => whnf) | refine ACode.s_block ?_ | refine ACode.s_scope ?_ | (refine ACode.s_cond ?_; conv => whnf) | (refine ACode.s_exit ?_; conv => whnf) | (refine ACode.s_ret ?_; conv => whnf) | (refine ACode.s_skip ?_; conv => whnf) | (refine ACode.s_label ?_; conv => whnf))
        repeat (first | (refine ⟨by omega, tokA l[i], (by exact toks_get l i h), ?_⟩; conv => whnf) | (refine ACall.of_spec (source_t l[i] htl) rfl fun r hr => ?_; subst hr; conv => whnf) | refine ACode.seq ?_ | (refine ACode.s_reg tys_ok ?_; conv => whnf) | refine ACode.s_block ?_ | refine ACode.s_scope ?_ | (refine ACode.s_cond ?_; conv => whnf) | (refine ACode.s_exit ?_; conv => whnf) | (refine ACode.s_ret ?_; conv => whnf) | (refine ACode.s_skip ?_; conv => whnf) | (refine ACode.s_label ?_; conv => whnf))
        refine ⟨by simp; omega, ?_⟩
        conv => whnf
        repeat (first | refine ACode.seq ?_ | (refine ACode.s_reg tys_ok ?_; conv => whnf) | refine ACode.s_block ?_ | refine ACode.s_scope ?_ | (refine ACode.s_cond ?_; conv => whnf) | (refine ACode.s_exit ?_; conv => whnf) | (refine ACode.s_ret ?_; conv => whnf) | (refine ACode.s_skip ?_; conv => whnf) | (refine ACode.s_label ?_; conv => whnf))
        refine ⟨i + 1, ?_⟩
        conv => whnf
        repeat (refine And.intro ?_ ?_; (focus (first | rfl | (simp; done) | (first | (rw [Wr64 _ (by omega) (by omega)]; omega) | (rw [hsp]; simp [List.append_assoc]; done) | (simp [hli]; done); done))); conv => whnf)
        refine ⟨by rw [hsa]; simp [ints], ?_⟩
        (conv => whnf)
        exact ⟨by omega, by omega⟩
    · have h : i = l.length := by simp at h; omega
      subst h
      have e1 : (kts l).take l.length = kts l := by rw [← hK, List.take_length]
      rw [e1] at *
      repeat (first | refine ACode.seq ?_ | (refine ACode.s_reg tys_ok ?_; conv => whnf) | refine ACode.s_block ?_ | refine ACode.s_scope ?_ | (refine ACode.s_cond ?_; conv => whnf) | (refine ACode.s_exit ?_; conv => whnf) | (refine ACode.s_ret ?_; conv => whnf) | (refine ACode.s_skip ?_; conv => whnf) | (refine ACode.s_label ?_; conv => whnf))
      refine ⟨rfl, ?_⟩
      conv => whnf
      refine ⟨⟨by simp [hAl, hK], by simp [hAl, hK]; omega⟩, ?_⟩
      conv => whnf
      repeat (first | refine ACode.seq ?_ | (refine ACode.s_reg tys_ok ?_; conv => whnf) | refine ACode.s_block ?_ | refine ACode.s_scope ?_ | (refine ACode.s_cond ?_; conv => whnf) | (refine ACode.s_exit ?_; conv => whnf) | (refine ACode.s_ret ?_; conv => whnf) | (refine ACode.s_skip ?_; conv => whnf) | (refine ACode.s_label ?_; conv => whnf))
      have ea : ints ((sprAt gaps 0 0 (kts l)).map (fun x : Nat => (x : Int))) ++ [AV.int IntKind.i64 ((spr gaps 0 (kts l)).length : Int)] = ints ((sprAt gaps 0 0 (kts l)).map (fun x : Nat => (x : Int)) ++ [((spr gaps 0 (kts l)).length : Int)]) := by simp [ints]
      rw [ea]
      refine ⟨⟨rfl, closed_ints _⟩, ?_⟩
      (conv => whnf)
set_option maxRecDepth 20000 in
theorem place_spec (l : List Int) (x : Int) (hl : l.length ≤ 9223372036854775807) : Ctr Tryd.prog 15 [.sl 1 (ints l), .int .i64 x] (fun r => r = .int .i64 (placeI l x)) := by
  refine Ctr.of_body Tryd.func15 rfl tys_ok (by kernel_rfl) ?_
  conv => whnf
  repeat (first | refine ACode.seq ?_ | (refine ACode.s_reg tys_ok ?_; conv => whnf) | refine ACode.s_block ?_ | refine ACode.s_scope ?_ | (refine ACode.s_cond ?_; conv => whnf) | (refine ACode.s_exit ?_; conv => whnf) | (refine ACode.s_ret ?_; conv => whnf) | (refine ACode.s_skip ?_; conv => whnf) | (refine ACode.s_label ?_; conv => whnf))
  refine ACode.loopD (fun i : Nat => mk 21 [(0, .sl 1 (ints l)), (1, .int .i64 x), (5, .int .i64 i)]) (fun _ => []) (fun i => i ≤ l.length ∧ ∀ (j : Nat) (hj : j < l.length), j < i → l[j] ≠ x) (fun i => l.length - i) (fun i hi => ⟨rfl, trivial⟩) ⟨0, ?_⟩ (fun _ => rfl) fun i hi => ?_
  · conv => whnf
    repeat (refine And.intro ?_ ?_; (focus (first | rfl | (simp; done))); conv => whnf)
    exact fun j _ h => absurd h (by omega)
  · obtain ⟨hi, hp⟩ := hi
    repeat (first | refine ACode.seq ?_ | (refine ACode.s_reg tys_ok ?_; conv => whnf) | refine ACode.s_block ?_ | refine ACode.s_scope ?_ | (refine ACode.s_cond ?_; conv => whnf) | (refine ACode.s_exit ?_; conv => whnf) | (refine ACode.s_ret ?_; conv => whnf) | (refine ACode.s_skip ?_; conv => whnf) | (refine ACode.s_label ?_; conv => whnf))
    refine ⟨fun h => ?_, fun h => ?_⟩
    · have h : i < l.length := by simp at h; omega
      repeat (first | refine ACode.seq ?_ | (refine ACode.s_reg tys_ok ?_; conv => whnf) | refine ACode.s_block ?_ | refine ACode.s_scope ?_ | (refine ACode.s_cond ?_; conv => whnf) | (refine ACode.s_exit ?_; conv => whnf) | (refine ACode.s_ret ?_; conv => whnf) | (refine ACode.s_skip ?_; conv => whnf) | (refine ACode.s_label ?_; conv => whnf))
      refine ⟨by omega, .int .i64 l[i], ints_get l i h, ?_⟩
      conv => whnf
      repeat (first | refine ACode.seq ?_ | (refine ACode.s_reg tys_ok ?_; conv => whnf) | refine ACode.s_block ?_ | refine ACode.s_scope ?_ | (refine ACode.s_cond ?_; conv => whnf) | (refine ACode.s_exit ?_; conv => whnf) | (refine ACode.s_ret ?_; conv => whnf) | (refine ACode.s_skip ?_; conv => whnf) | (refine ACode.s_label ?_; conv => whnf))
      refine ⟨fun q => ?_, fun q => ?_⟩
      · have q : l[i] = x := by simpa using q
        conv => whnf
        repeat (first | refine ACode.seq ?_ | (refine ACode.s_reg tys_ok ?_; conv => whnf) | refine ACode.s_block ?_ | refine ACode.s_scope ?_ | (refine ACode.s_cond ?_; conv => whnf) | (refine ACode.s_exit ?_; conv => whnf) | (refine ACode.s_ret ?_; conv => whnf) | (refine ACode.s_skip ?_; conv => whnf) | (refine ACode.s_label ?_; conv => whnf))
        have : l.findIdx? (fun y => decide (y = x)) = some i := by
          rw [List.findIdx?_eq_some_iff_getElem]
          exact ⟨h, by simp [q], fun j hj => by simpa using hp j (by omega) hj⟩
        unfold placeI; rw [this]
      · have q : ¬ l[i] = x := by simpa using q
        conv => whnf
        repeat (first | refine ACode.seq ?_ | (refine ACode.s_reg tys_ok ?_; conv => whnf) | refine ACode.s_block ?_ | refine ACode.s_scope ?_ | (refine ACode.s_cond ?_; conv => whnf) | (refine ACode.s_exit ?_; conv => whnf) | (refine ACode.s_ret ?_; conv => whnf) | (refine ACode.s_skip ?_; conv => whnf) | (refine ACode.s_label ?_; conv => whnf))
        refine ⟨i + 1, ?_⟩
        conv => whnf
        repeat (refine And.intro ?_ ?_; (focus (first | rfl | (simp; done) | (rw [Wr64 _ (by omega) (by omega)]; omega; done))); conv => whnf)
        refine ⟨⟨by omega, fun j hj hji => ?_⟩, by omega⟩
        by_cases c : j = i
        · subst c; exact q
        · exact hp j hj (by omega)
    · have h : i = l.length := by simp at h; omega
      subst h
      have hn : l.findIdx? (fun y => decide (y = x)) = none := by
        rw [List.findIdx?_eq_none_iff]
        intro y hy
        obtain ⟨j, hj, rfl⟩ := List.mem_iff_getElem.1 hy
        simpa using hp j hj hj
      unfold placeI
      rw [hn]
      repeat (first | refine ACode.seq ?_ | (refine ACode.s_reg tys_ok ?_; conv => whnf) | refine ACode.s_block ?_ | refine ACode.s_scope ?_ | (refine ACode.s_cond ?_; conv => whnf) | (refine ACode.s_exit ?_; conv => whnf) | (refine ACode.s_ret ?_; conv => whnf) | (refine ACode.s_skip ?_; conv => whnf) | (refine ACode.s_label ?_; conv => whnf))
      refine ⟨fun q => ?_, fun q => ?_⟩
      · have q : x = -1 := by simpa using q
        conv => whnf
        repeat (first | refine ACode.seq ?_ | (refine ACode.s_reg tys_ok ?_; conv => whnf) | refine ACode.s_block ?_ | refine ACode.s_scope ?_ | (refine ACode.s_cond ?_; conv => whnf) | (refine ACode.s_exit ?_; conv => whnf) | (refine ACode.s_ret ?_; conv => whnf) | (refine ACode.s_skip ?_; conv => whnf) | (refine ACode.s_label ?_; conv => whnf))
        rw [if_pos q]
      · have q : ¬ x = -1 := by simpa using q
        conv => whnf
        repeat (first | refine ACode.seq ?_ | (refine ACode.s_reg tys_ok ?_; conv => whnf) | refine ACode.s_block ?_ | refine ACode.s_scope ?_ | (refine ACode.s_cond ?_; conv => whnf) | (refine ACode.s_exit ?_; conv => whnf) | (refine ACode.s_ret ?_; conv => whnf) | (refine ACode.s_skip ?_; conv => whnf) | (refine ACode.s_label ?_; conv => whnf))
        rw [if_neg q]
theorem ints_snoc (l : List Int) (x : Int) : ints l ++ [AV.int IntKind.i64 x] = ints (l ++ [x]) := by simp [ints]
theorem offL_take (l : List Tok) (len : Nat) : offL l len = l.map (fun t => (t.pos : Int)) ++ [(len : Int)] := rfl
set_option maxRecDepth 20000 in
set_option maxHeartbeats 4000000 in
theorem gaps_law (s : Bs) (gaps : List UInt8) (hs : s.length ≤ 9223372036854775807) (hg : gaps.length ≤ 9223372036854775807) : Ctr Tryd.prog 3 [.str s, .sl 1 (byts gaps)] (fun r => r = .bool true) := by
  refine Ctr.lits ?_
  refine Ctr.of_body Tryd.func3 rfl tys_ok (by kernel_rfl) ?_
  conv => whnf
  repeat (first | refine ACode.seq ?_ | (refine ACode.s_reg tys_ok ?_; conv => whnf) | refine ACode.s_block ?_ | refine ACode.s_scope ?_ | (refine ACode.s_cond ?_; conv => whnf) | (refine ACode.s_exit ?_; conv => whnf) | (refine ACode.s_ret ?_; conv => whnf) | (refine ACode.s_skip ?_; conv => whnf) | (refine ACode.s_label ?_; conv => whnf))
  refine ACall.of_spec (head_spec) rfl fun r hr => ?_
  subst hr
  conv => whnf
  repeat (first | refine ACode.seq ?_ | (refine ACode.s_reg tys_ok ?_; conv => whnf) | refine ACode.s_block ?_ | refine ACode.s_scope ?_ | (refine ACode.s_cond ?_; conv => whnf) | (refine ACode.s_exit ?_; conv => whnf) | (refine ACode.s_ret ?_; conv => whnf) | (refine ACode.s_skip ?_; conv => whnf) | (refine ACode.s_label ?_; conv => whnf))
  by_cases h8 : s.length ≤ 8000
  · repeat (first | (refine no_br ?_ (fun _ => ?_); (focus (simp; omega; done)); conv => whnf) | (refine yes_br ?_ (fun _ => ?_); (focus (simp; omega; done)); conv => whnf) | refine ACode.seq ?_ | (refine ACode.s_reg tys_ok ?_; conv => whnf) | refine ACode.s_block ?_ | refine ACode.s_scope ?_ | (refine ACode.s_cond ?_; conv => whnf) | (refine ACode.s_exit ?_; conv => whnf) | (refine ACode.s_ret ?_; conv => whnf) | (refine ACode.s_skip ?_; conv => whnf) | (refine ACode.s_label ?_; conv => whnf))
    cases hL : lexP s with
    | err e p =>
      obtain ⟨h1, h2⟩ := lexP_err hL
      refine ACall.of_spec (rlex_at hs hL) rfl fun r hr => ?_
      subst hr
      conv => whnf
      repeat (first | refine ACode.seq ?_ | (refine ACode.s_reg tys_ok ?_; conv => whnf) | refine ACode.s_block ?_ | refine ACode.s_scope ?_ | (refine ACode.s_cond ?_; conv => whnf) | (refine ACode.s_exit ?_; conv => whnf) | (refine ACode.s_ret ?_; conv => whnf) | (refine ACode.s_skip ?_; conv => whnf) | (refine ACode.s_label ?_; conv => whnf))
      rcases h2 with rfl | rfl
      all_goals
        repeat (first | (refine no_br ?_ (fun _ => ?_); (focus (simp; done)); conv => whnf) | (refine yes_br ?_ (fun _ => ?_); (focus (simp; done)); conv => whnf) | refine ACode.seq ?_ | (refine ACode.s_reg tys_ok ?_; conv => whnf) | refine ACode.s_block ?_ | refine ACode.s_scope ?_ | (refine ACode.s_cond ?_; conv => whnf) | (refine ACode.s_exit ?_; conv => whnf) | (refine ACode.s_ret ?_; conv => whnf) | (refine ACode.s_skip ?_; conv => whnf) | (refine ACode.s_label ?_; conv => whnf))
        exact .inr rfl
    | ok l =>
      obtain ⟨ht, _, _⟩ := lexP_ok hL
      have hl3 := ht.len
      have htx : ∀ t ∈ l, t.text.length ≤ 8000 := fun t q => (ht.tok t q).1
      refine ACall.of_spec (rlex_at hs hL) rfl fun r hr => ?_
      subst hr
      conv => whnf
      repeat (first | refine ACode.seq ?_ | (refine ACode.s_reg tys_ok ?_; conv => whnf) | refine ACode.s_block ?_ | refine ACode.s_scope ?_ | (refine ACode.s_cond ?_; conv => whnf) | (refine ACode.s_exit ?_; conv => whnf) | (refine ACode.s_ret ?_; conv => whnf) | (refine ACode.s_skip ?_; conv => whnf) | (refine ACode.s_label ?_; conv => whnf))
      repeat (first | (refine no_br ?_ (fun _ => ?_); (focus (simp; done)); conv => whnf) | (refine yes_br ?_ (fun _ => ?_); (focus (simp; done)); conv => whnf) | refine ACode.seq ?_ | (refine ACode.s_reg tys_ok ?_; conv => whnf) | refine ACode.s_block ?_ | refine ACode.s_scope ?_ | (refine ACode.s_cond ?_; conv => whnf) | (refine ACode.s_exit ?_; conv => whnf) | (refine ACode.s_ret ?_; conv => whnf) | (refine ACode.s_skip ?_; conv => whnf) | (refine ACode.s_label ?_; conv => whnf))
      refine ACall.of_spec (spread_spec l gaps hl3 htx hg) rfl fun r hr => ?_
      subst hr
      conv => whnf
      repeat (first | refine ACode.seq ?_ | (refine ACode.s_reg tys_ok ?_; conv => whnf) | refine ACode.s_block ?_ | refine ACode.s_scope ?_ | (refine ACode.s_cond ?_; conv => whnf) | (refine ACode.s_exit ?_; conv => whnf) | (refine ACode.s_ret ?_; conv => whnf) | (refine ACode.s_skip ?_; conv => whnf) | (refine ACode.s_label ?_; conv => whnf))
      by_cases hO : (spr gaps 0 (kts l)).length ≤ 8000
      · have hgp := gaps_parse gaps hL hO
        repeat (first | (refine no_br ?_ (fun _ => ?_); (focus (simp; omega; done)); conv => whnf) | (refine yes_br ?_ (fun _ => ?_); (focus (simp; omega; done)); conv => whnf) | refine ACode.seq ?_ | (refine ACode.s_reg tys_ok ?_; conv => whnf) | refine ACode.s_block ?_ | refine ACode.s_scope ?_ | (refine ACode.s_cond ?_; conv => whnf) | (refine ACode.s_exit ?_; conv => whnf) | (refine ACode.s_ret ?_; conv => whnf) | (refine ACode.s_skip ?_; conv => whnf) | (refine ACode.s_label ?_; conv => whnf))
        refine ACode.nilArr 11 3 1 rfl ?_
        refine ACode.loopD (fun i : Nat => mk 100 [(0, .str s), (5, .bool true), (6, .sl 3 (toksA l)), (9, .str (spr gaps 0 (kts l))), (10, .sl 1 (ints ((sprAt gaps 0 0 (kts l)).map (fun x : Nat => (x : Int)) ++ [((spr gaps 0 (kts l)).length : Int)]))), (11, .own 0 1 0 i), (12, .int .i64 i)]) (fun i => [.arr 3 1 (ints ((l.take i).map (fun t => (t.pos : Int))))])
          (fun i => i ≤ l.length) (fun i => l.length - i) (fun i hi => ⟨rfl, ?_⟩) ⟨0, ?_⟩ (fun _ => rfl) fun i hi => ?_
        · (conv => whnf)
          exact ⟨closed_ints _, trivial⟩
        · conv => whnf
          repeat (refine And.intro ?_ ?_; (focus (first | rfl | (simp; done))); conv => whnf)
          simp
        · repeat (first | refine ACode.seq ?_ | (refine ACode.s_reg tys_ok ?_; conv => whnf) | refine ACode.s_block ?_ | refine ACode.s_scope ?_ | (refine ACode.s_cond ?_; conv => whnf) | (refine ACode.s_exit ?_; conv => whnf) | (refine ACode.s_ret ?_; conv => whnf) | (refine ACode.s_skip ?_; conv => whnf) | (refine ACode.s_label ?_; conv => whnf))
          refine ⟨fun h => ?_, fun h => ?_⟩
          · have h : i < l.length := by simp at h; omega
            repeat (first | refine ACode.seq ?_ | (refine ACode.s_reg tys_ok ?_; conv => whnf) | refine ACode.s_block ?_ | refine ACode.s_scope ?_ | (refine ACode.s_cond ?_; conv => whnf) | (refine ACode.s_exit ?_; conv => whnf) | (refine ACode.s_ret ?_; conv => whnf) | (refine ACode.s_skip ?_; conv => whnf) | (refine ACode.s_label ?_; conv => whnf))
            repeat (first | (refine ⟨by omega, tokA l[i], (by exact toks_get l i h), ?_⟩; conv => whnf) | refine ACode.seq ?_ | (refine ACode.s_reg tys_ok ?_; conv => whnf) | refine ACode.s_block ?_ | refine ACode.s_scope ?_ | (refine ACode.s_cond ?_; conv => whnf) | (refine ACode.s_exit ?_; conv => whnf) | (refine ACode.s_ret ?_; conv => whnf) | (refine ACode.s_skip ?_; conv => whnf) | (refine ACode.s_label ?_; conv => whnf))
            refine ⟨rfl, ?_⟩
            conv => whnf
            refine ⟨⟨by simp; omega, by simp; omega⟩, ?_⟩
            conv => whnf
            repeat (first | refine ACode.seq ?_ | (refine ACode.s_reg tys_ok ?_; conv => whnf) | refine ACode.s_block ?_ | refine ACode.s_scope ?_ | (refine ACode.s_cond ?_; conv => whnf) | (refine ACode.s_exit ?_; conv => whnf) | (refine ACode.s_ret ?_; conv => whnf) | (refine ACode.s_skip ?_; conv => whnf) | (refine ACode.s_label ?_; conv => whnf))
            refine ⟨i + 1, ?_⟩
            conv => whnf
            repeat (refine And.intro ?_ ?_; (focus (first | rfl | (simp; done) | (first | (rw [Wr64 _ (by omega) (by omega)]; omega) | (simp; omega); done))); conv => whnf)
            refine ⟨by rw [List.take_succ_eq_append_getElem h, List.map_append, ints_snoc]; rfl, ?_⟩
            (conv => whnf)
            exact ⟨by omega, by omega⟩
          · have h : i = l.length := by simp at h; omega
            subst h
            rw [List.take_length] at *
            repeat (first | refine ACode.seq ?_ | (refine ACode.s_reg tys_ok ?_; conv => whnf) | refine ACode.s_block ?_ | refine ACode.s_scope ?_ | (refine ACode.s_cond ?_; conv => whnf) | (refine ACode.s_exit ?_; conv => whnf) | (refine ACode.s_ret ?_; conv => whnf) | (refine ACode.s_skip ?_; conv => whnf) | (refine ACode.s_label ?_; conv => whnf))
            refine ⟨rfl, ?_⟩
            conv => whnf
            refine ⟨⟨by simp, by simp; omega⟩, ?_⟩
            conv => whnf
            repeat (first | refine ACode.seq ?_ | (refine ACode.s_reg tys_ok ?_; conv => whnf) | refine ACode.s_block ?_ | refine ACode.s_scope ?_ | (refine ACode.s_cond ?_; conv => whnf) | (refine ACode.s_exit ?_; conv => whnf) | (refine ACode.s_ret ?_; conv => whnf) | (refine ACode.s_skip ?_; conv => whnf) | (refine ACode.s_label ?_; conv => whnf))
            have eo : ints (l.map (fun t => (t.pos : Int))) ++ [AV.int IntKind.i64 (s.length : Int)] = ints (offL l s.length) := by simp [ints, offL]
            rw [eo]
            have hol : (offL l s.length).length = l.length + 1 := by simp [offL]
            obtain ⟨g1, g2, g3, g4, g5⟩ := hgp
            have hal : ((sprAt gaps 0 0 (kts l)).map (fun x : Nat => (x : Int)) ++ [((spr gaps 0 (kts l)).length : Int)]).length ≤ 9223372036854775807 := by
              have : ∀ (xs : List KT) (i p : Nat), (sprAt gaps i p xs).length = xs.length := fun xs => by
                induction xs with
                | nil => intro i p; rfl
                | cons t r ih => intro i p; simp only [sprAt, List.length_cons, ih]
              simp [this, kts]; omega
            have hol2 : (offL l s.length).length ≤ 9223372036854775807 := by omega
            generalize (sprAt gaps 0 0 (kts l)).map (fun x : Nat => (x : Int)) ++ [((spr gaps 0 (kts l)).length : Int)] = AT at *
            have hO2 : (spr gaps 0 (kts l)).length ≤ 9223372036854775807 := by omega
            generalize spr gaps 0 (kts l) = O at *
            have hpp := parse_post s
            cases hR : parseP s with
            | ok n =>
              have hR2 := g2 n hR
              rw [hR, hR2] at g4; rw [hR] at g5
              simp only [resAt] at g4 g5
              obtain ⟨hsml, _⟩ := parse_sml hR
              refine ACall.of_spec (parse_x hs hR) rfl fun r hr => ?_
              subst hr
              conv => whnf
              repeat (first | refine ACode.seq ?_ | (refine ACode.s_reg tys_ok ?_; conv => whnf) | refine ACode.s_block ?_ | refine ACode.s_scope ?_ | (refine ACode.s_cond ?_; conv => whnf) | (refine ACode.s_exit ?_; conv => whnf) | (refine ACode.s_ret ?_; conv => whnf) | (refine ACode.s_skip ?_; conv => whnf) | (refine ACode.s_label ?_; conv => whnf))
              refine ACall.of_spec (parse_x hO2 hR2) rfl fun r hr => ?_
              subst hr
              conv => whnf
              repeat (first | refine ACode.seq ?_ | (refine ACode.s_reg tys_ok ?_; conv => whnf) | refine ACode.s_block ?_ | refine ACode.s_scope ?_ | (refine ACode.s_cond ?_; conv => whnf) | (refine ACode.s_exit ?_; conv => whnf) | (refine ACode.s_ret ?_; conv => whnf) | (refine ACode.s_skip ?_; conv => whnf) | (refine ACode.s_label ?_; conv => whnf))
              repeat (first | (refine ACall.of_spec (same_true hsml) rfl fun r hr => ?_; subst hr; conv => whnf) | (refine ⟨_, ⟨same_true hsml, rfl⟩, ?_⟩; conv => whnf) | (refine no_br ?_ (fun _ => ?_); (focus (simp; done)); conv => whnf) | (refine yes_br ?_ (fun _ => ?_); (focus (simp; done)); conv => whnf) | refine ACode.seq ?_ | (refine ACode.s_reg tys_ok ?_; conv => whnf) | refine ACode.s_block ?_ | refine ACode.s_scope ?_ | (refine ACode.s_cond ?_; conv => whnf) | (refine ACode.s_exit ?_; conv => whnf) | (refine ACode.s_ret ?_; conv => whnf) | (refine ACode.s_skip ?_; conv => whnf) | (refine ACode.s_label ?_; conv => whnf))
              refine ACall.freeze 0 ?_ (by kernel_rfl)
              conv => whnf
              refine ⟨closed_ints _, ?_⟩
              conv => whnf
              repeat (refine ⟨(by first | rfl | (simp; done) : (_ : Nat) = _), ?_⟩; conv => whnf)
              refine ACall.of_spec (place_spec _ _ hol2) rfl fun r hr => ?_
              subst hr
              conv => whnf
              repeat (first | refine ACode.seq ?_ | (refine ACode.s_reg tys_ok ?_; conv => whnf) | refine ACode.s_block ?_ | refine ACode.s_scope ?_ | (refine ACode.s_cond ?_; conv => whnf) | (refine ACode.s_exit ?_; conv => whnf) | (refine ACode.s_ret ?_; conv => whnf) | (refine ACode.s_skip ?_; conv => whnf) | (refine ACode.s_label ?_; conv => whnf))
              repeat (first | (refine ACall.of_spec (place_spec _ _ hal) rfl fun r hr => ?_; subst hr; conv => whnf) | (refine ⟨_, ⟨place_spec _ _ hal, rfl⟩, ?_⟩; conv => whnf) | (refine ACall.of_spec (place_spec _ _ hol2) rfl fun r hr => ?_; subst hr; conv => whnf) | (refine ⟨_, ⟨place_spec _ _ hol2, rfl⟩, ?_⟩; conv => whnf) | (refine no_br ?_ (fun _ => ?_); (focus (simp [g4]; done)); conv => whnf) | (refine yes_br ?_ (fun _ => ?_); (focus (simp [g4]; done)); conv => whnf) | refine ACode.seq ?_ | (refine ACode.s_reg tys_ok ?_; conv => whnf) | refine ACode.s_block ?_ | refine ACode.s_scope ?_ | (refine ACode.s_cond ?_; conv => whnf) | (refine ACode.s_exit ?_; conv => whnf) | (refine ACode.s_ret ?_; conv => whnf) | (refine ACode.s_skip ?_; conv => whnf) | (refine ACode.s_label ?_; conv => whnf))
              simp [g5]
            | err e p =>
              cases hR2 : parseP O with
              | ok n => rw [g3 n hR2] at hR; cases hR
              | err e2 p2 =>
                rw [hR, hR2] at g1 g4; rw [hR] at g5
                simp only [resAt, resErr] at g1 g4 g5
                subst g1
                refine ACall.of_spec (parse_x hs hR) rfl fun r hr => ?_
                subst hr
                conv => whnf
                repeat (first | refine ACode.seq ?_ | (refine ACode.s_reg tys_ok ?_; conv => whnf) | refine ACode.s_block ?_ | refine ACode.s_scope ?_ | (refine ACode.s_cond ?_; conv => whnf) | (refine ACode.s_exit ?_; conv => whnf) | (refine ACode.s_ret ?_; conv => whnf) | (refine ACode.s_skip ?_; conv => whnf) | (refine ACode.s_label ?_; conv => whnf))
                refine ACall.of_spec (parse_x hO2 hR2) rfl fun r hr => ?_
                subst hr
                conv => whnf
                repeat (first | refine ACode.seq ?_ | (refine ACode.s_reg tys_ok ?_; conv => whnf) | refine ACode.s_block ?_ | refine ACode.s_scope ?_ | (refine ACode.s_cond ?_; conv => whnf) | (refine ACode.s_exit ?_; conv => whnf) | (refine ACode.s_ret ?_; conv => whnf) | (refine ACode.s_skip ?_; conv => whnf) | (refine ACode.s_label ?_; conv => whnf))
                repeat (first | (refine ACall.of_spec (same_true nw0_sml) rfl fun r hr => ?_; subst hr; conv => whnf) | (refine ⟨_, ⟨same_true nw0_sml, rfl⟩, ?_⟩; conv => whnf) | (refine no_br ?_ (fun _ => ?_); (focus (simp; done)); conv => whnf) | (refine yes_br ?_ (fun _ => ?_); (focus (simp; done)); conv => whnf) | refine ACode.seq ?_ | (refine ACode.s_reg tys_ok ?_; conv => whnf) | refine ACode.s_block ?_ | refine ACode.s_scope ?_ | (refine ACode.s_cond ?_; conv => whnf) | (refine ACode.s_exit ?_; conv => whnf) | (refine ACode.s_ret ?_; conv => whnf) | (refine ACode.s_skip ?_; conv => whnf) | (refine ACode.s_label ?_; conv => whnf))
                refine ACall.freeze 0 ?_ (by kernel_rfl)
                conv => whnf
                refine ⟨closed_ints _, ?_⟩
                conv => whnf
                repeat (refine ⟨(by first | rfl | (simp; done) : (_ : Nat) = _), ?_⟩; conv => whnf)
                refine ACall.of_spec (place_spec _ _ hol2) rfl fun r hr => ?_
                subst hr
                conv => whnf
                repeat (first | refine ACode.seq ?_ | (refine ACode.s_reg tys_ok ?_; conv => whnf) | refine ACode.s_block ?_ | refine ACode.s_scope ?_ | (refine ACode.s_cond ?_; conv => whnf) | (refine ACode.s_exit ?_; conv => whnf) | (refine ACode.s_ret ?_; conv => whnf) | (refine ACode.s_skip ?_; conv => whnf) | (refine ACode.s_label ?_; conv => whnf))
                repeat (first | (refine ACall.of_spec (place_spec _ _ hal) rfl fun r hr => ?_; subst hr; conv => whnf) | (refine ⟨_, ⟨place_spec _ _ hal, rfl⟩, ?_⟩; conv => whnf) | (refine ACall.of_spec (place_spec _ _ hol2) rfl fun r hr => ?_; subst hr; conv => whnf) | (refine ⟨_, ⟨place_spec _ _ hol2, rfl⟩, ?_⟩; conv => whnf) | (refine no_br ?_ (fun _ => ?_); (focus (simp [g4]; done)); conv => whnf) | (refine yes_br ?_ (fun _ => ?_); (focus (simp [g4]; done)); conv => whnf) | refine ACode.seq ?_ | (refine ACode.s_reg tys_ok ?_; conv => whnf) | refine ACode.s_block ?_ | refine ACode.s_scope ?_ | (refine ACode.s_cond ?_; conv => whnf) | (refine ACode.s_exit ?_; conv => whnf) | (refine ACode.s_ret ?_; conv => whnf) | (refine ACode.s_skip ?_; conv => whnf) | (refine ACode.s_label ?_; conv => whnf))
                simp [g5]
      · repeat (first | (refine no_br ?_ (fun _ => ?_); (focus (simp; omega; done)); conv => whnf) | (refine yes_br ?_ (fun _ => ?_); (focus (simp; omega; done)); conv => whnf) | refine ACode.seq ?_ | (refine ACode.s_reg tys_ok ?_; conv => whnf) | refine ACode.s_block ?_ | refine ACode.s_scope ?_ | (refine ACode.s_cond ?_; conv => whnf) | (refine ACode.s_exit ?_; conv => whnf) | (refine ACode.s_ret ?_; conv => whnf) | (refine ACode.s_skip ?_; conv => whnf) | (refine ACode.s_label ?_; conv => whnf))
        exact .inr rfl
  · repeat (first | (refine no_br ?_ (fun _ => ?_); (focus (simp; omega; done)); conv => whnf) | (refine yes_br ?_ (fun _ => ?_); (focus (simp; omega; done)); conv => whnf) | refine ACode.seq ?_ | (refine ACode.s_reg tys_ok ?_; conv => whnf) | refine ACode.s_block ?_ | refine ACode.s_scope ?_ | (refine ACode.s_cond ?_; conv => whnf) | (refine ACode.s_exit ?_; conv => whnf) | (refine ACode.s_ret ?_; conv => whnf) | (refine ACode.s_skip ?_; conv => whnf) | (refine ACode.s_label ?_; conv => whnf))
    exact .inr rfl
end Go.Proofs.YtmhlneeboefkgaaDoor
