/-
  The reference: decimal, Print.
-/
import Derived.Test.YtbodeejogdckgaaGreatDoorG6
set_option linter.unusedVariables false
set_option linter.unusedSimpArgs false
namespace Go.Proofs.YtbodeejogdckgaaGreatDoor
open Go.Av Go.Shelf Pl
set_option maxRecDepth 100000 in
theorem rdecimal_spec : ∀ (u : Nat), u ≤ 1000000 → Ctr Tryz.prog 38 [.int .i64 u] (fun r => r = .str (Lib.decDigits u)) := by
  intro u
  induction u using Nat.strongRecOn with
  | _ u ih =>
    intro hu
    refine Ctr.of_body Tryz.func38 rfl tys_ok (by kernel_rfl) ?_
    conv => whnf
    repeat (first | refine ACode.seq ?_ | (refine ACode.s_reg tys_ok ?_; conv => whnf) | refine ACode.s_block ?_ | refine ACode.s_scope ?_ | (refine ACode.s_cond ?_; conv => whnf) | (refine ACode.s_exit ?_; conv => whnf) | (refine ACode.s_ret ?_; conv => whnf) | (refine ACode.s_skip ?_; conv => whnf) | (refine ACode.s_label ?_; conv => whnf))
    refine ⟨by decide, ?_⟩
    have hm : (u : Int).tmod 10 = ((u % 10 : Nat) : Int) := by rw [Int.tmod_eq_emod_of_nonneg (by omega)]; omega
    rw [hm]
    conv => whnf
    repeat (first | refine ACode.seq ?_ | (refine ACode.s_reg tys_ok ?_; conv => whnf) | refine ACode.s_block ?_ | refine ACode.s_scope ?_ | (refine ACode.s_cond ?_; conv => whnf) | (refine ACode.s_exit ?_; conv => whnf) | (refine ACode.s_ret ?_; conv => whnf) | (refine ACode.s_skip ?_; conv => whnf) | (refine ACode.s_label ?_; conv => whnf))
    have hw : Wr .i32 (Wr .i64 (48 + ((u % 10 : Nat) : Int))) = ((48 + u % 10 : Nat) : Int) := by
      rw [Wr64 _ (by omega) (by omega)]
      unfold Wr; simp [IntKind.wrap, IntKind.bits, IntKind.signed]; omega
    rw [hw]
    refine ⟨by omega, ?_⟩
    rw [Int.toNat_natCast]
    conv => whnf
    repeat (first | refine ACode.seq ?_ | (refine ACode.s_reg tys_ok ?_; conv => whnf) | refine ACode.s_block ?_ | refine ACode.s_scope ?_ | (refine ACode.s_cond ?_; conv => whnf) | (refine ACode.s_exit ?_; conv => whnf) | (refine ACode.s_ret ?_; conv => whnf) | (refine ACode.s_skip ?_; conv => whnf) | (refine ACode.s_label ?_; conv => whnf))
    refine ⟨fun h => ?_, fun h => ?_⟩
    · have h : 9 < u := by simp at h; omega
      have hd : Wr .i64 ((u : Int).tdiv 10) = ((u / 10 : Nat) : Int) := by rw [Int.tdiv_eq_ediv_of_nonneg (by omega), Wr64 _ (by omega) (by omega)]; omega
      have hl := dec_len 6 (u / 10) (by omega)
      conv => whnf
      repeat (first | refine ACode.seq ?_ | (refine ACode.s_reg tys_ok ?_; conv => whnf) | refine ACode.s_block ?_ | refine ACode.s_scope ?_ | (refine ACode.s_cond ?_; conv => whnf) | (refine ACode.s_exit ?_; conv => whnf) | (refine ACode.s_ret ?_; conv => whnf) | (refine ACode.s_skip ?_; conv => whnf) | (refine ACode.s_label ?_; conv => whnf))
      refine ⟨by decide, ?_⟩
      rw [hd]
      conv => whnf
      repeat (first | refine ACode.seq ?_ | (refine ACode.s_reg tys_ok ?_; conv => whnf) | refine ACode.s_block ?_ | refine ACode.s_scope ?_ | (refine ACode.s_cond ?_; conv => whnf) | (refine ACode.s_exit ?_; conv => whnf) | (refine ACode.s_ret ?_; conv => whnf) | (refine ACode.s_skip ?_; conv => whnf) | (refine ACode.s_label ?_; conv => whnf))
      refine ACall.of_spec (ih (u / 10) (by omega) (by omega)) rfl fun r hr => ?_
      subst hr
      conv => whnf
      repeat (first | refine ACode.seq ?_ | (refine ACode.s_reg tys_ok ?_; conv => whnf) | refine ACode.s_block ?_ | refine ACode.s_scope ?_ | (refine ACode.s_cond ?_; conv => whnf) | (refine ACode.s_exit ?_; conv => whnf) | (refine ACode.s_ret ?_; conv => whnf) | (refine ACode.s_skip ?_; conv => whnf) | (refine ACode.s_label ?_; conv => whnf))
      refine ⟨by simp only [List.length_cons, List.length_nil]; omega, ?_⟩
      conv => whnf
      repeat (first | refine ACode.seq ?_ | (refine ACode.s_reg tys_ok ?_; conv => whnf) | refine ACode.s_block ?_ | refine ACode.s_scope ?_ | (refine ACode.s_cond ?_; conv => whnf) | (refine ACode.s_exit ?_; conv => whnf) | (refine ACode.s_ret ?_; conv => whnf) | (refine ACode.s_skip ?_; conv => whnf) | (refine ACode.s_label ?_; conv => whnf))
      refine congrArg AV.str ?_
      rw [Lib.decDigits.eq_1 u, dif_neg (by omega)]
    · have h : u < 10 := by simp at h; omega
      conv => whnf
      repeat (first | refine ACode.seq ?_ | (refine ACode.s_reg tys_ok ?_; conv => whnf) | refine ACode.s_block ?_ | refine ACode.s_scope ?_ | (refine ACode.s_cond ?_; conv => whnf) | (refine ACode.s_exit ?_; conv => whnf) | (refine ACode.s_ret ?_; conv => whnf) | (refine ACode.s_skip ?_; conv => whnf) | (refine ACode.s_label ?_; conv => whnf))
      refine congrArg AV.str ?_
      rw [Lib.decDigits, dif_pos h, Nat.mod_eq_of_lt h]
theorem rdecI (n : Int) (h0 : 0 ≤ n) (h1 : n ≤ 1000000) : Ctr Tryz.prog 38 [.int .i64 n] (fun r => r = .str (Lib.itoa n)) := by
  obtain ⟨u, rfl⟩ : ∃ u : Nat, n = u := ⟨n.toNat, by omega⟩
  rw [itoa_dec]
  exact rdecimal_spec u (by omega)
set_option maxRecDepth 100000 in
theorem rprint_spec (f : Fm) (a : Ad) (hf : SmallF f) (hs : a.st.length ≤ 900 ∧ a.to.length ≤ 900 ∧ a.pe.length ≤ 900 ∧ a.co.length ≤ 900) : Ctr Tryz.prog 15 [f.v, a.v]
    (fun r => r = .tuple [strsA (printR f a).1, .int .i64 (printR f a).2]) := by
  refine Ctr.of_body Tryz.func15 rfl tys_ok (by kernel_rfl) ?_
  conv => whnf
  repeat (first | refine ACode.seq ?_ | (refine ACode.s_reg tys_ok ?_; conv => whnf) | refine ACode.s_block ?_ | refine ACode.s_scope ?_ | (refine ACode.s_cond ?_; conv => whnf) | (refine ACode.s_exit ?_; conv => whnf) | (refine ACode.s_ret ?_; conv => whnf) | (refine ACode.s_skip ?_; conv => whnf) | (refine ACode.s_label ?_; conv => whnf))
  repeat' (first | (refine And.intro (fun _ => ?_) (fun _ => ?_) <;> conv => whnf) | (refine ACall.of_spec (rvalid_spec f hf) rfl fun r hr => ?_; subst hr; conv => whnf) | refine ACode.seq ?_ | (refine ACode.s_reg tys_ok ?_; conv => whnf) | refine ACode.s_block ?_ | refine ACode.s_scope ?_ | (refine ACode.s_cond ?_; conv => whnf) | (refine ACode.s_exit ?_; conv => whnf) | (refine ACode.s_ret ?_; conv => whnf) | (refine ACode.s_skip ?_; conv => whnf) | (refine ACode.s_label ?_; conv => whnf))
  rotate_left
  · rename_i h1
    refine ⟨1, ?_⟩
    conv => whnf
    have h1 : validF f = false := by simpa using h1
    unfold printR
    rw [h1]
    rfl
  rename_i h1
  have h1 : validF f = true := by simpa using h1
  have hp := valid_parts h1
  refine ACall.of_spec (rfits_spec f a hf (valid_good h1).1 hs) rfl fun r hr => ?_
  subst hr
  conv => whnf
  repeat (first | refine ACode.seq ?_ | (refine ACode.s_reg tys_ok ?_; conv => whnf) | refine ACode.s_block ?_ | refine ACode.s_scope ?_ | (refine ACode.s_cond ?_; conv => whnf) | (refine ACode.s_exit ?_; conv => whnf) | (refine ACode.s_ret ?_; conv => whnf) | (refine ACode.s_skip ?_; conv => whnf) | (refine ACode.s_label ?_; conv => whnf))
  refine ⟨fun h2 => ?_, fun h2 => ?_⟩
  · conv => whnf
    repeat (first | refine ACode.seq ?_ | (refine ACode.s_reg tys_ok ?_; conv => whnf) | refine ACode.s_block ?_ | refine ACode.s_scope ?_ | (refine ACode.s_cond ?_; conv => whnf) | (refine ACode.s_exit ?_; conv => whnf) | (refine ACode.s_ret ?_; conv => whnf) | (refine ACode.s_skip ?_; conv => whnf) | (refine ACode.s_label ?_; conv => whnf))
    refine ⟨1, ?_⟩
    conv => whnf
    have h2 : fitsF f a = false := by simpa using h2
    unfold printR
    rw [h2, Bool.and_false]
    rfl
  · have h2 : fitsF f a = true := by simpa using h2
    have hfp := fits_parts h2
    have hR : printR f a = (printF f a, 0) := by unfold printR; rw [h1, h2]; rfl
    have ha : SmallA a := by
      have hp2 : ∀ p ∈ f.lines.flatten, partB p = true := fun p hq => by
        obtain ⟨l, hl, hq⟩ := List.mem_flatten.1 hq
        exact hp l hl p hq
      have := fits_small hp2 h2
      unfold SmallA
      omega
    rw [hR]
    have hll := hf.l
    have hml : (f.lines.map ptsA).length = f.lines.length := by simp
    conv => whnf
    repeat (first | refine ACode.seq ?_ | (refine ACode.s_reg tys_ok ?_; conv => whnf) | refine ACode.s_block ?_ | refine ACode.s_scope ?_ | (refine ACode.s_cond ?_; conv => whnf) | (refine ACode.s_exit ?_; conv => whnf) | (refine ACode.s_ret ?_; conv => whnf) | (refine ACode.s_skip ?_; conv => whnf) | (refine ACode.s_label ?_; conv => whnf))
    refine ACode.loopD (fun i : Nat => mk 98 [(2, .ptr 0 0), (3, .ptr 1 0), (4, .raw (Value.slice none 0 0)), (5, .int .i64 0), (6, .own 2 1 0 i), (7, .int .i64 i)]) (fun i => [.cells [.str f.name, .sl 1 (f.lines.map ptsA)], .cells (adA a), .arr 9 1 (strs ((f.lines.take i).map (lineP a)))]) (fun i => i ≤ f.lines.length) (fun i => f.lines.length - i) (fun _ _ => ⟨rfl, rfl, rfl, strs_closed _, trivial⟩) ⟨0, ?_⟩ (fun _ => rfl) fun i hi => ?_
    · conv => whnf
      repeat (refine And.intro ?_ ?_; (focus (first | rfl | (simp; done))); conv => whnf)
      exact Nat.zero_le _
    · repeat (first | refine ACode.seq ?_ | (refine ACode.s_reg tys_ok ?_; conv => whnf) | refine ACode.s_block ?_ | refine ACode.s_scope ?_ | (refine ACode.s_cond ?_; conv => whnf) | (refine ACode.s_exit ?_; conv => whnf) | (refine ACode.s_ret ?_; conv => whnf) | (refine ACode.s_skip ?_; conv => whnf) | (refine ACode.s_label ?_; conv => whnf))
      refine ⟨fun h => ?_, fun h => ?_⟩
      · have h : i < f.lines.length := by simp at h; omega
        have hw1 : Wr .i64 ((i : Int) + 1) = ((i + 1 : Nat) : Int) := by rw [Wr64 _ (by omega) (by omega)]; rfl
        have htk : f.lines.take (i + 1) = f.lines.take i ++ [f.lines[i]] := List.take_succ_eq_append_getElem h
        have hget := lines_get f i h
        have hlL := hf.l2 _ (List.getElem_mem h)
        have hpL := hp _ (List.getElem_mem h)
        have hfL := hfp _ (List.getElem_mem h)
        have htL := hf.t _ (List.getElem_mem h)
        generalize f.lines[i] = L at *
        have hmL : (L.map Pt.v).length = L.length := by simp
        conv => whnf
        repeat (first | refine ACode.seq ?_ | (refine ACode.s_reg tys_ok ?_; conv => whnf) | refine ACode.s_block ?_ | refine ACode.s_scope ?_ | (refine ACode.s_cond ?_; conv => whnf) | (refine ACode.s_exit ?_; conv => whnf) | (refine ACode.s_ret ?_; conv => whnf) | (refine ACode.s_skip ?_; conv => whnf) | (refine ACode.s_label ?_; conv => whnf))
        generalize hB : (f.lines.take i).map (lineP a) = B at *
        refine ACode.loopD (fun k : Nat => mk 98 [(2, .ptr 0 0), (3, .ptr 1 0), (4, .raw (Value.slice none 0 0)), (5, .int .i64 0), (6, .own 2 1 0 i), (7, .int .i64 i), (8, .own 3 1 0 k), (9, .int .i64 k)]) (fun k => [.cells [.str f.name, .sl 1 (f.lines.map ptsA)], .cells (adA a), .arr 9 1 (strs B), .arr 9 1 (strs ((L.take k).map fun p => printP p a))]) (fun k => k ≤ L.length) (fun k => L.length - k) (fun _ _ => ⟨rfl, rfl, rfl, strs_closed _, strs_closed _, trivial⟩) ⟨0, ?_⟩ (fun _ => rfl) fun k hk => ?_
        · conv => whnf
          repeat (refine And.intro ?_ ?_; (focus (first | rfl | (simp; done))); conv => whnf)
          exact Nat.zero_le _
        · repeat (first | refine ACode.seq ?_ | (refine ACode.s_reg tys_ok ?_; conv => whnf) | refine ACode.s_block ?_ | refine ACode.s_scope ?_ | (refine ACode.s_cond ?_; conv => whnf) | (refine ACode.s_exit ?_; conv => whnf) | (refine ACode.s_ret ?_; conv => whnf) | (refine ACode.s_skip ?_; conv => whnf) | (refine ACode.s_label ?_; conv => whnf))
          refine ⟨by omega, _, hget, ?_⟩
          conv => whnf
          repeat (first | refine ACode.seq ?_ | (refine ACode.s_reg tys_ok ?_; conv => whnf) | refine ACode.s_block ?_ | refine ACode.s_scope ?_ | (refine ACode.s_cond ?_; conv => whnf) | (refine ACode.s_exit ?_; conv => whnf) | (refine ACode.s_ret ?_; conv => whnf) | (refine ACode.s_skip ?_; conv => whnf) | (refine ACode.s_label ?_; conv => whnf))
          refine ⟨fun h3 => ?_, fun h3 => ?_⟩
          · have h3 : k < L.length := by simp at h3; omega
            have hw2 : Wr .i64 ((k : Int) + 1) = ((k + 1 : Nat) : Int) := by rw [Wr64 _ (by omega) (by omega)]; rfl
            have htk2 : L.take (k + 1) = L.take k ++ [L[k]] := List.take_succ_eq_append_getElem h3
            have hfk := hfL _ (List.getElem_mem h3)
            have hpk := part_kind (hpL _ (List.getElem_mem h3))
            have hgk := pts_get L k h3
            have hsn : strs ((L.take k).map fun p => printP p a) ++ [AV.str (printP L[k] a)] = strs ((L.take (k + 1)).map fun p => printP p a) := by rw [htk2]; simp only [strs, List.map_append, List.map_cons, List.map_nil]
            generalize L[k] = p at *
            conv => whnf
            repeat (first | refine ACode.seq ?_ | (refine ACode.s_reg tys_ok ?_; conv => whnf) | refine ACode.s_block ?_ | refine ACode.s_scope ?_ | (refine ACode.s_cond ?_; conv => whnf) | (refine ACode.s_exit ?_; conv => whnf) | (refine ACode.s_ret ?_; conv => whnf) | (refine ACode.s_skip ?_; conv => whnf) | (refine ACode.s_label ?_; conv => whnf))
            refine ⟨by omega, _, hget, ?_⟩
            conv => whnf
            repeat (first | refine ACode.seq ?_ | (refine ACode.s_reg tys_ok ?_; conv => whnf) | refine ACode.s_block ?_ | refine ACode.s_scope ?_ | (refine ACode.s_cond ?_; conv => whnf) | (refine ACode.s_exit ?_; conv => whnf) | (refine ACode.s_ret ?_; conv => whnf) | (refine ACode.s_skip ?_; conv => whnf) | (refine ACode.s_label ?_; conv => whnf))
            have hp1 : p.k = 1 → printP p a = p.t := fun e => by unfold printP; simp [e]
            have hp2 : p.k = 2 → printP p a = Lib.itoa a.nu := fun e => by unfold printP; simp [e]
            have hp3 : p.k = 3 → printP p a = a.co := fun e => by unfold printP; simp [e]
            have hp4 : p.k = 4 → printP p a = a.st := fun e => by unfold printP; simp [e]
            have hp5 : p.k = 5 → printP p a = a.to := fun e => by unfold printP; simp [e]
            have hp6 : p.k = 6 → printP p a = a.pe := fun e => by unfold printP; simp [e]
            have hnu : p.k = 2 → 0 ≤ a.nu ∧ a.nu ≤ 9999 := fun e => by
              unfold fitP at hfk
              rw [if_pos e] at hfk
              simp at hfk
              omega
            obtain ⟨K, T⟩ := p
            dsimp only at *
            rcases hpk with e | e | e | e | e | e
            all_goals subst e
            · replace hp1 := hp1 rfl
              rw [hp1] at hsn
              replace hgk : (L.map Pt.v)[k]? = some (.agg [.int .i64 1, .str T]) := hgk
              refine ⟨by omega, _, hgk, ?_⟩
              conv => whnf
              repeat (first | refine ACode.seq ?_ | (refine ACode.s_reg tys_ok ?_; conv => whnf) | refine ACode.s_block ?_ | refine ACode.s_scope ?_ | (refine ACode.s_cond ?_; conv => whnf) | (refine ACode.s_exit ?_; conv => whnf) | (refine ACode.s_ret ?_; conv => whnf) | (refine ACode.s_skip ?_; conv => whnf) | (refine ACode.s_label ?_; conv => whnf))
              repeat (first | (refine ⟨fun _ => ?_, fun h => absurd h (by decide +kernel)⟩; conv => whnf) | (refine ⟨fun h => absurd h (by decide +kernel), fun _ => ?_⟩; conv => whnf) | (refine ⟨by decide, _, rfl, ?_⟩; conv => whnf) | refine ACode.seq ?_ | (refine ACode.s_reg tys_ok ?_; conv => whnf) | refine ACode.s_block ?_ | refine ACode.s_scope ?_ | (refine ACode.s_cond ?_; conv => whnf) | (refine ACode.s_exit ?_; conv => whnf) | (refine ACode.s_ret ?_; conv => whnf) | (refine ACode.s_skip ?_; conv => whnf) | (refine ACode.s_label ?_; conv => whnf))
              refine ⟨rfl, ?_⟩
              conv => whnf
              refine ⟨⟨by simp; omega, by simp; omega⟩, ?_⟩
              conv => whnf
              repeat (first | refine ACode.seq ?_ | (refine ACode.s_reg tys_ok ?_; conv => whnf) | refine ACode.s_block ?_ | refine ACode.s_scope ?_ | (refine ACode.s_cond ?_; conv => whnf) | (refine ACode.s_exit ?_; conv => whnf) | (refine ACode.s_ret ?_; conv => whnf) | (refine ACode.s_skip ?_; conv => whnf) | (refine ACode.s_label ?_; conv => whnf))
              refine ⟨k + 1, ?_⟩
              conv => whnf
              repeat (refine And.intro ?_ ?_; (focus (first | rfl | (simp; done) | (first | exact hw2 | exact congrArg (HO.arr _ 1) hsn | exact congrArg (AV.own 3 1 0) (by rw [hsn]; simp; omega); done))); conv => whnf)
              exact ⟨by omega, by omega⟩
            · replace hp2 := hp2 rfl
              rw [hp2] at hsn
              replace hgk : (L.map Pt.v)[k]? = some (.agg [.int .i64 2, .str T]) := hgk
              refine ⟨by omega, _, hgk, ?_⟩
              conv => whnf
              repeat (first | refine ACode.seq ?_ | (refine ACode.s_reg tys_ok ?_; conv => whnf) | refine ACode.s_block ?_ | refine ACode.s_scope ?_ | (refine ACode.s_cond ?_; conv => whnf) | (refine ACode.s_exit ?_; conv => whnf) | (refine ACode.s_ret ?_; conv => whnf) | (refine ACode.s_skip ?_; conv => whnf) | (refine ACode.s_label ?_; conv => whnf))
              repeat (first | (refine ⟨fun _ => ?_, fun h => absurd h (by decide +kernel)⟩; conv => whnf) | (refine ⟨fun h => absurd h (by decide +kernel), fun _ => ?_⟩; conv => whnf) | (refine ⟨by decide, _, rfl, ?_⟩; conv => whnf) | refine ACode.seq ?_ | (refine ACode.s_reg tys_ok ?_; conv => whnf) | refine ACode.s_block ?_ | refine ACode.s_scope ?_ | (refine ACode.s_cond ?_; conv => whnf) | (refine ACode.s_exit ?_; conv => whnf) | (refine ACode.s_ret ?_; conv => whnf) | (refine ACode.s_skip ?_; conv => whnf) | (refine ACode.s_label ?_; conv => whnf))
              refine ACall.of_spec (rdecI a.nu (hnu rfl).1 (by have := (hnu rfl).2; omega)) rfl fun r hr => ?_
              subst hr
              conv => whnf
              repeat (first | refine ACode.seq ?_ | (refine ACode.s_reg tys_ok ?_; conv => whnf) | refine ACode.s_block ?_ | refine ACode.s_scope ?_ | (refine ACode.s_cond ?_; conv => whnf) | (refine ACode.s_exit ?_; conv => whnf) | (refine ACode.s_ret ?_; conv => whnf) | (refine ACode.s_skip ?_; conv => whnf) | (refine ACode.s_label ?_; conv => whnf))
              refine ⟨rfl, ?_⟩
              conv => whnf
              refine ⟨⟨by simp; omega, by simp; omega⟩, ?_⟩
              conv => whnf
              repeat (first | refine ACode.seq ?_ | (refine ACode.s_reg tys_ok ?_; conv => whnf) | refine ACode.s_block ?_ | refine ACode.s_scope ?_ | (refine ACode.s_cond ?_; conv => whnf) | (refine ACode.s_exit ?_; conv => whnf) | (refine ACode.s_ret ?_; conv => whnf) | (refine ACode.s_skip ?_; conv => whnf) | (refine ACode.s_label ?_; conv => whnf))
              refine ⟨k + 1, ?_⟩
              conv => whnf
              repeat (refine And.intro ?_ ?_; (focus (first | rfl | (simp; done) | (first | exact hw2 | exact congrArg (HO.arr _ 1) hsn | exact congrArg (AV.own 3 1 0) (by rw [hsn]; simp; omega); done))); conv => whnf)
              exact ⟨by omega, by omega⟩
            · replace hp3 := hp3 rfl
              rw [hp3] at hsn
              replace hgk : (L.map Pt.v)[k]? = some (.agg [.int .i64 3, .str T]) := hgk
              refine ⟨by omega, _, hgk, ?_⟩
              conv => whnf
              repeat (first | refine ACode.seq ?_ | (refine ACode.s_reg tys_ok ?_; conv => whnf) | refine ACode.s_block ?_ | refine ACode.s_scope ?_ | (refine ACode.s_cond ?_; conv => whnf) | (refine ACode.s_exit ?_; conv => whnf) | (refine ACode.s_ret ?_; conv => whnf) | (refine ACode.s_skip ?_; conv => whnf) | (refine ACode.s_label ?_; conv => whnf))
              repeat (first | (refine ⟨fun _ => ?_, fun h => absurd h (by decide +kernel)⟩; conv => whnf) | (refine ⟨fun h => absurd h (by decide +kernel), fun _ => ?_⟩; conv => whnf) | (refine ⟨by decide, _, rfl, ?_⟩; conv => whnf) | refine ACode.seq ?_ | (refine ACode.s_reg tys_ok ?_; conv => whnf) | refine ACode.s_block ?_ | refine ACode.s_scope ?_ | (refine ACode.s_cond ?_; conv => whnf) | (refine ACode.s_exit ?_; conv => whnf) | (refine ACode.s_ret ?_; conv => whnf) | (refine ACode.s_skip ?_; conv => whnf) | (refine ACode.s_label ?_; conv => whnf))
              refine ⟨rfl, ?_⟩
              conv => whnf
              refine ⟨⟨by simp; omega, by simp; omega⟩, ?_⟩
              conv => whnf
              repeat (first | refine ACode.seq ?_ | (refine ACode.s_reg tys_ok ?_; conv => whnf) | refine ACode.s_block ?_ | refine ACode.s_scope ?_ | (refine ACode.s_cond ?_; conv => whnf) | (refine ACode.s_exit ?_; conv => whnf) | (refine ACode.s_ret ?_; conv => whnf) | (refine ACode.s_skip ?_; conv => whnf) | (refine ACode.s_label ?_; conv => whnf))
              refine ⟨k + 1, ?_⟩
              conv => whnf
              repeat (refine And.intro ?_ ?_; (focus (first | rfl | (simp; done) | (first | exact hw2 | exact congrArg (HO.arr _ 1) hsn | exact congrArg (AV.own 3 1 0) (by rw [hsn]; simp; omega); done))); conv => whnf)
              exact ⟨by omega, by omega⟩
            · replace hp4 := hp4 rfl
              rw [hp4] at hsn
              replace hgk : (L.map Pt.v)[k]? = some (.agg [.int .i64 4, .str T]) := hgk
              refine ⟨by omega, _, hgk, ?_⟩
              conv => whnf
              repeat (first | refine ACode.seq ?_ | (refine ACode.s_reg tys_ok ?_; conv => whnf) | refine ACode.s_block ?_ | refine ACode.s_scope ?_ | (refine ACode.s_cond ?_; conv => whnf) | (refine ACode.s_exit ?_; conv => whnf) | (refine ACode.s_ret ?_; conv => whnf) | (refine ACode.s_skip ?_; conv => whnf) | (refine ACode.s_label ?_; conv => whnf))
              repeat (first | (refine ⟨fun _ => ?_, fun h => absurd h (by decide +kernel)⟩; conv => whnf) | (refine ⟨fun h => absurd h (by decide +kernel), fun _ => ?_⟩; conv => whnf) | (refine ⟨by decide, _, rfl, ?_⟩; conv => whnf) | refine ACode.seq ?_ | (refine ACode.s_reg tys_ok ?_; conv => whnf) | refine ACode.s_block ?_ | refine ACode.s_scope ?_ | (refine ACode.s_cond ?_; conv => whnf) | (refine ACode.s_exit ?_; conv => whnf) | (refine ACode.s_ret ?_; conv => whnf) | (refine ACode.s_skip ?_; conv => whnf) | (refine ACode.s_label ?_; conv => whnf))
              refine ⟨rfl, ?_⟩
              conv => whnf
              refine ⟨⟨by simp; omega, by simp; omega⟩, ?_⟩
              conv => whnf
              repeat (first | refine ACode.seq ?_ | (refine ACode.s_reg tys_ok ?_; conv => whnf) | refine ACode.s_block ?_ | refine ACode.s_scope ?_ | (refine ACode.s_cond ?_; conv => whnf) | (refine ACode.s_exit ?_; conv => whnf) | (refine ACode.s_ret ?_; conv => whnf) | (refine ACode.s_skip ?_; conv => whnf) | (refine ACode.s_label ?_; conv => whnf))
              refine ⟨k + 1, ?_⟩
              conv => whnf
              repeat (refine And.intro ?_ ?_; (focus (first | rfl | (simp; done) | (first | exact hw2 | exact congrArg (HO.arr _ 1) hsn | exact congrArg (AV.own 3 1 0) (by rw [hsn]; simp; omega); done))); conv => whnf)
              exact ⟨by omega, by omega⟩
            · replace hp5 := hp5 rfl
              rw [hp5] at hsn
              replace hgk : (L.map Pt.v)[k]? = some (.agg [.int .i64 5, .str T]) := hgk
              refine ⟨by omega, _, hgk, ?_⟩
              conv => whnf
              repeat (first | refine ACode.seq ?_ | (refine ACode.s_reg tys_ok ?_; conv => whnf) | refine ACode.s_block ?_ | refine ACode.s_scope ?_ | (refine ACode.s_cond ?_; conv => whnf) | (refine ACode.s_exit ?_; conv => whnf) | (refine ACode.s_ret ?_; conv => whnf) | (refine ACode.s_skip ?_; conv => whnf) | (refine ACode.s_label ?_; conv => whnf))
              repeat (first | (refine ⟨fun _ => ?_, fun h => absurd h (by decide +kernel)⟩; conv => whnf) | (refine ⟨fun h => absurd h (by decide +kernel), fun _ => ?_⟩; conv => whnf) | (refine ⟨by decide, _, rfl, ?_⟩; conv => whnf) | refine ACode.seq ?_ | (refine ACode.s_reg tys_ok ?_; conv => whnf) | refine ACode.s_block ?_ | refine ACode.s_scope ?_ | (refine ACode.s_cond ?_; conv => whnf) | (refine ACode.s_exit ?_; conv => whnf) | (refine ACode.s_ret ?_; conv => whnf) | (refine ACode.s_skip ?_; conv => whnf) | (refine ACode.s_label ?_; conv => whnf))
              refine ⟨rfl, ?_⟩
              conv => whnf
              refine ⟨⟨by simp; omega, by simp; omega⟩, ?_⟩
              conv => whnf
              repeat (first | refine ACode.seq ?_ | (refine ACode.s_reg tys_ok ?_; conv => whnf) | refine ACode.s_block ?_ | refine ACode.s_scope ?_ | (refine ACode.s_cond ?_; conv => whnf) | (refine ACode.s_exit ?_; conv => whnf) | (refine ACode.s_ret ?_; conv => whnf) | (refine ACode.s_skip ?_; conv => whnf) | (refine ACode.s_label ?_; conv => whnf))
              refine ⟨k + 1, ?_⟩
              conv => whnf
              repeat (refine And.intro ?_ ?_; (focus (first | rfl | (simp; done) | (first | exact hw2 | exact congrArg (HO.arr _ 1) hsn | exact congrArg (AV.own 3 1 0) (by rw [hsn]; simp; omega); done))); conv => whnf)
              exact ⟨by omega, by omega⟩
            · replace hp6 := hp6 rfl
              rw [hp6] at hsn
              replace hgk : (L.map Pt.v)[k]? = some (.agg [.int .i64 6, .str T]) := hgk
              refine ⟨by omega, _, hgk, ?_⟩
              conv => whnf
              repeat (first | refine ACode.seq ?_ | (refine ACode.s_reg tys_ok ?_; conv => whnf) | refine ACode.s_block ?_ | refine ACode.s_scope ?_ | (refine ACode.s_cond ?_; conv => whnf) | (refine ACode.s_exit ?_; conv => whnf) | (refine ACode.s_ret ?_; conv => whnf) | (refine ACode.s_skip ?_; conv => whnf) | (refine ACode.s_label ?_; conv => whnf))
              repeat (first | (refine ⟨fun _ => ?_, fun h => absurd h (by decide +kernel)⟩; conv => whnf) | (refine ⟨fun h => absurd h (by decide +kernel), fun _ => ?_⟩; conv => whnf) | (refine ⟨by decide, _, rfl, ?_⟩; conv => whnf) | refine ACode.seq ?_ | (refine ACode.s_reg tys_ok ?_; conv => whnf) | refine ACode.s_block ?_ | refine ACode.s_scope ?_ | (refine ACode.s_cond ?_; conv => whnf) | (refine ACode.s_exit ?_; conv => whnf) | (refine ACode.s_ret ?_; conv => whnf) | (refine ACode.s_skip ?_; conv => whnf) | (refine ACode.s_label ?_; conv => whnf))
              refine ⟨rfl, ?_⟩
              conv => whnf
              refine ⟨⟨by simp; omega, by simp; omega⟩, ?_⟩
              conv => whnf
              repeat (first | refine ACode.seq ?_ | (refine ACode.s_reg tys_ok ?_; conv => whnf) | refine ACode.s_block ?_ | refine ACode.s_scope ?_ | (refine ACode.s_cond ?_; conv => whnf) | (refine ACode.s_exit ?_; conv => whnf) | (refine ACode.s_ret ?_; conv => whnf) | (refine ACode.s_skip ?_; conv => whnf) | (refine ACode.s_label ?_; conv => whnf))
              refine ⟨k + 1, ?_⟩
              conv => whnf
              repeat (refine And.intro ?_ ?_; (focus (first | rfl | (simp; done) | (first | exact hw2 | exact congrArg (HO.arr _ 1) hsn | exact congrArg (AV.own 3 1 0) (by rw [hsn]; simp; omega); done))); conv => whnf)
              exact ⟨by omega, by omega⟩
          · have h3 : k = L.length := by simp at h3; omega
            rw [h3, List.take_length]
            conv => whnf
            repeat (first | refine ACode.seq ?_ | (refine ACode.s_reg tys_ok ?_; conv => whnf) | refine ACode.s_block ?_ | refine ACode.s_scope ?_ | (refine ACode.s_cond ?_; conv => whnf) | (refine ACode.s_exit ?_; conv => whnf) | (refine ACode.s_ret ?_; conv => whnf) | (refine ACode.s_skip ?_; conv => whnf) | (refine ACode.s_label ?_; conv => whnf))
            refine ACall.freeze 3 ?_ (by kernel_rfl)
            conv => whnf
            refine ⟨(strs_closed _), ?_⟩
            conv => whnf
            repeat (refine ⟨(by first | rfl | (simp; done) : (_ : Nat) = _), ?_⟩; conv => whnf)
            have hpl : ∀ x ∈ (L.map fun p => printP p a), x.length ≤ 1000 := fun x hx => by
              obtain ⟨p, hp, rfl⟩ := List.mem_map.1 hx
              exact print_len ha (htL p hp) (hfL p hp)
            have hjl := join_len [32] 1000 _ hpl
            have hjl2 : (Lib.join (L.map fun p => printP p a) [32]).length ≤ 1001 * 1000 := by
              refine Nat.le_trans hjl ?_
              simp only [List.length_map, List.length_cons, List.length_nil]
              omega
            refine ACall.of_spec (rjoined_spec (L.map fun p => printP p a) (by simp; omega) hpl) rfl fun r hr => ?_
            subst hr
            conv => whnf
            repeat (first | refine ACode.seq ?_ | (refine ACode.s_reg tys_ok ?_; conv => whnf) | refine ACode.s_block ?_ | refine ACode.s_scope ?_ | (refine ACode.s_cond ?_; conv => whnf) | (refine ACode.s_exit ?_; conv => whnf) | (refine ACode.s_ret ?_; conv => whnf) | (refine ACode.s_skip ?_; conv => whnf) | (refine ACode.s_label ?_; conv => whnf))
            refine ⟨rfl, ?_⟩
            conv => whnf
            have hBl : B.length = i := by rw [← hB]; simp; omega
            refine ⟨⟨by simp; omega, by simp; omega⟩, ?_⟩
            conv => whnf
            repeat (first | refine ACode.seq ?_ | (refine ACode.s_reg tys_ok ?_; conv => whnf) | refine ACode.s_block ?_ | refine ACode.s_scope ?_ | (refine ACode.s_cond ?_; conv => whnf) | (refine ACode.s_exit ?_; conv => whnf) | (refine ACode.s_ret ?_; conv => whnf) | (refine ACode.s_skip ?_; conv => whnf) | (refine ACode.s_label ?_; conv => whnf))
            refine ⟨i + 1, ?_⟩
            have hsn : strs B ++ [AV.str (Lib.join (L.map fun p => printP p a) [32])] = strs ((f.lines.take (i + 1)).map (lineP a)) := by
              rw [htk, List.map_append, hB]; simp only [strs, List.map_append, List.map_cons, List.map_nil]; rfl
            conv => whnf
            repeat (refine And.intro ?_ ?_; (focus (first | rfl | (simp; done) | (first | exact hw1 | exact congrArg (HO.arr _ 1) hsn | exact congrArg (AV.own 2 1 0) (by simp; omega); done))); conv => whnf)
            exact ⟨by omega, by omega⟩
      · have h : i = f.lines.length := by simp at h; omega
        rw [h, List.take_length]
        conv => whnf
        repeat (first | refine ACode.seq ?_ | (refine ACode.s_reg tys_ok ?_; conv => whnf) | refine ACode.s_block ?_ | refine ACode.s_scope ?_ | (refine ACode.s_cond ?_; conv => whnf) | (refine ACode.s_exit ?_; conv => whnf) | (refine ACode.s_ret ?_; conv => whnf) | (refine ACode.s_skip ?_; conv => whnf) | (refine ACode.s_label ?_; conv => whnf))
        refine ⟨⟨by simp, strs_closed _⟩, ?_⟩
        conv => whnf
        rfl
end Go.Proofs.YtbodeejogdckgaaGreatDoor
