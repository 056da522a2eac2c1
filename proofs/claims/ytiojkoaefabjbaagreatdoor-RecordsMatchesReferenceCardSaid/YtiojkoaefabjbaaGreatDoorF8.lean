/-
  strings.Split at a blank; strconv.Atoi.
-/
import Derived.Test.YtiojkoaefabjbaaGreatDoorF3
import Derived.Test.YtiojkoaefabjbaaGreatDoorP6
set_option linter.unusedVariables false
set_option linter.unusedSimpArgs false
namespace Go.Proofs.YtiojkoaefabjbaaGreatDoor
open Go.Av Go.Shelf Pl Go.RowKit
theorem count_spec (s : Bs) : Ctr Tryz.prog 67 [.str s, .str [32]] (fun r => r = .int .i64 (Lib.countByte s 32)) := by
  refine ⟨by kernel_rfl, fun C w vs hlt hr => ?_⟩
  unfold Reps at hr
  obtain ⟨v1, _, rfl, h2, hr⟩ := hr
  unfold Reps at hr
  obtain ⟨v2, _, rfl, h3, hr⟩ := hr
  unfold Reps at hr
  subst hr
  unfold Rep at h2 h3
  obtain ⟨rfl, hs⟩ := h2
  obtain ⟨rfl, _⟩ := h3
  refine (Tryz.strings_Count_one ⟨s.toArray⟩ 32 w).mono fun e w' ⟨h3, h4⟩ => ?_
  subst h4
  have hc : Lib.countByte s 32 ≤ s.length := List.count_le_length
  exact ⟨_, _, h3, rfl, Below.refl _ _, by unfold Rep; exact ⟨rfl, by constructor <;> simp [IntKind.min, IntKind.max, IntKind.bits, IntKind.signed] <;> omega⟩⟩
theorem index_spec (s : Bs) : Ctr Tryz.prog 68 [.str s, .str [32]] (fun r => r = .int .i64 (Lib.indexByte s 32)) := by
  refine ⟨by kernel_rfl, fun C w vs hlt hr => ?_⟩
  unfold Reps at hr
  obtain ⟨v1, _, rfl, h2, hr⟩ := hr
  unfold Reps at hr
  obtain ⟨v2, _, rfl, h3, hr⟩ := hr
  unfold Reps at hr
  subst hr
  unfold Rep at h2 h3
  obtain ⟨rfl, hs⟩ := h2
  obtain ⟨rfl, _⟩ := h3
  refine (Tryz.strings_Index_one ⟨s.toArray⟩ 32 w).mono fun e w' ⟨h3, h4⟩ => ?_
  subst h4
  have hc : -1 ≤ Lib.indexByte s 32 := Lib.indexByte_ge s 32
  have hd : Lib.indexByte s 32 ≤ s.length := by
    by_cases h : Lib.indexByte s 32 = -1
    · omega
    · obtain ⟨o, ho⟩ : ∃ o : Nat, Lib.indexByte s 32 = o := ⟨(Lib.indexByte s 32).toNat, by omega⟩
      have := (List.getElem?_eq_some_iff.1 (Lib.indexByte_some ho).1).1
      omega
  exact ⟨_, _, h3, rfl, Below.refl _ _, by unfold Rep; exact ⟨rfl, by constructor <;> simp [IntKind.min, IntKind.max, IntKind.bits, IntKind.signed] <;> omega⟩⟩
theorem arr_closed (d : List Bs) (n : Nat) : ∀ a ∈ strs d ++ List.replicate n (AV.str []), closed a = true := by
  intro a ha
  rcases List.mem_append.1 ha with ha | ha
  · obtain ⟨x, _, rfl⟩ := List.mem_map.1 ha; rfl
  · rw [List.eq_of_mem_replicate ha]; rfl
theorem arr_get (d : List Bs) (N : Nat) (h : d.length < N) : (strs d ++ List.replicate (N - d.length) (AV.str []))[0 + ((d.length : Nat) : Int).toNat]? = some (AV.str []) := by
  obtain ⟨k, hk⟩ : ∃ k, N - d.length = k + 1 := ⟨N - d.length - 1, by omega⟩
  rw [Nat.zero_add, Int.toNat_natCast, List.getElem?_append_right (by simp [strs]), hk]
  simp [strs]
theorem arr_set (d : List Bs) (N : Nat) (t : Bs) (h : d.length < N) : (strs d ++ List.replicate (N - d.length) (AV.str [])).set (0 + ((d.length : Nat) : Int).toNat) (.str t) = strs (d ++ [t]) ++ List.replicate (N - (d ++ [t]).length) (AV.str []) := by
  obtain ⟨k, hk⟩ : ∃ k, N - d.length = k + 1 := ⟨N - d.length - 1, by omega⟩
  have hk2 : N - (d ++ [t]).length = k := by simp; omega
  rw [Nat.zero_add, Int.toNat_natCast, List.set_append_right (h := by simp [strs]), hk, hk2]
  simp [strs, List.replicate_succ]
set_option maxRecDepth 100000 in
theorem genSplit_spec (s : Bs) (hs : s.length ≤ 100000) : Ctr Tryz.prog 43 [.str s, .str [32], .int .i64 0, .int .i64 (-1)] (fun r => r = .sl 1 (strs (splitB s))) := by
  refine Ctr.of_body Tryz.func43 rfl tys_ok (by kernel_rfl) ?_
  conv => whnf
  repeat (first | refine ACode.seq ?_ | (refine ACode.s_reg tys_ok ?_; conv => whnf) | refine ACode.s_block ?_ | refine ACode.s_scope ?_ | (refine ACode.s_cond ?_; conv => whnf) | (refine ACode.s_exit ?_; conv => whnf) | (refine ACode.s_ret ?_; conv => whnf) | (refine ACode.s_skip ?_; conv => whnf) | (refine ACode.s_label ?_; conv => whnf))
  refine ⟨fun h => absurd h (by decide), fun _ => ?_⟩
  conv => whnf
  repeat (first | refine ACode.seq ?_ | (refine ACode.s_reg tys_ok ?_; conv => whnf) | refine ACode.s_block ?_ | refine ACode.s_scope ?_ | (refine ACode.s_cond ?_; conv => whnf) | (refine ACode.s_exit ?_; conv => whnf) | (refine ACode.s_ret ?_; conv => whnf) | (refine ACode.s_skip ?_; conv => whnf) | (refine ACode.s_label ?_; conv => whnf))
  refine ⟨fun h => absurd h (by decide), fun _ => ?_⟩
  conv => whnf
  repeat (first | refine ACode.seq ?_ | (refine ACode.s_reg tys_ok ?_; conv => whnf) | refine ACode.s_block ?_ | refine ACode.s_scope ?_ | (refine ACode.s_cond ?_; conv => whnf) | (refine ACode.s_exit ?_; conv => whnf) | (refine ACode.s_ret ?_; conv => whnf) | (refine ACode.s_skip ?_; conv => whnf) | (refine ACode.s_label ?_; conv => whnf))
  refine ⟨fun _ => ?_, fun h => absurd h (by decide)⟩
  conv => whnf
  repeat (first | refine ACode.seq ?_ | (refine ACode.s_reg tys_ok ?_; conv => whnf) | refine ACode.s_block ?_ | refine ACode.s_scope ?_ | (refine ACode.s_cond ?_; conv => whnf) | (refine ACode.s_exit ?_; conv => whnf) | (refine ACode.s_ret ?_; conv => whnf) | (refine ACode.s_skip ?_; conv => whnf) | (refine ACode.s_label ?_; conv => whnf))
  refine ACall.of_spec (count_spec s) rfl fun r hr => ?_
  subst hr
  conv => whnf
  repeat (first | refine ACode.seq ?_ | (refine ACode.s_reg tys_ok ?_; conv => whnf) | refine ACode.s_block ?_ | refine ACode.s_scope ?_ | (refine ACode.s_cond ?_; conv => whnf) | (refine ACode.s_exit ?_; conv => whnf) | (refine ACode.s_ret ?_; conv => whnf) | (refine ACode.s_skip ?_; conv => whnf) | (refine ACode.s_label ?_; conv => whnf))
  have hc : Lib.countByte s 32 ≤ s.length := List.count_le_length
  have hn : (splitB s).length = Lib.countByte s 32 + 1 := splitB_len s
  have hm : min (Wr IntKind.i64 ((Lib.countByte s 32 : Nat) + 1)) (Wr IntKind.i64 ((s.length : Nat) + 1)) = (((splitB s).length : Nat) : Int) := by
    rw [Wr64 _ (by omega) (by omega), Wr64 _ (by omega) (by omega)]; omega
  rw [hm, Int.toNat_natCast]
  refine ⟨by omega, ?_⟩
  conv => whnf
  repeat (first | refine ACode.seq ?_ | (refine ACode.s_reg tys_ok ?_; conv => whnf) | refine ACode.s_block ?_ | refine ACode.s_scope ?_ | (refine ACode.s_cond ?_; conv => whnf) | (refine ACode.s_exit ?_; conv => whnf) | (refine ACode.s_ret ?_; conv => whnf) | (refine ACode.s_skip ?_; conv => whnf) | (refine ACode.s_label ?_; conv => whnf))
  generalize hN : (splitB s).length = N at *
  have hN1 : 1 ≤ N := by omega
  refine ACode.loopD (fun d : List Bs × Bs => mk 66 [(0, .str d.2), (1, .str [32]), (2, .int .i64 0), (3, .int .i64 ((N : Int) - 1)), (8, .raw (Value.slice none 0 0)), (9, .own 0 1 0 N), (10, .int .i64 d.1.length)]) (fun d => [.arr 9 1 (strs d.1 ++ List.replicate (N - d.1.length) (AV.str []))])
    (fun d => splitB s = d.1 ++ splitB d.2 ∧ d.2.length ≤ s.length) (fun d => N - d.1.length) (fun _ _ => ⟨rfl, arr_closed _ _, trivial⟩) ⟨([], s), ?_⟩ (fun _ => rfl) fun ⟨d, t⟩ hd => ?_
  · conv => whnf
    repeat (refine And.intro ?_ ?_; (focus (first | rfl | (simp; done) | (first | (rw [Wr64 _ (by omega) (by omega)]; done) | (simp [strs]; done); done))); conv => whnf)
    exact Nat.le_refl _
  · obtain ⟨hd, ht⟩ := hd
    simp only at hd ht
    have hdl : d.length + (splitB t).length = N := by rw [← hN, hd]; simp
    have htp := splitB_pos t
    repeat (first | refine ACode.seq ?_ | (refine ACode.s_reg tys_ok ?_; conv => whnf) | refine ACode.s_block ?_ | refine ACode.s_scope ?_ | (refine ACode.s_cond ?_; conv => whnf) | (refine ACode.s_exit ?_; conv => whnf) | (refine ACode.s_ret ?_; conv => whnf) | (refine ACode.s_skip ?_; conv => whnf) | (refine ACode.s_label ?_; conv => whnf))
    refine ⟨fun h => ?_, fun h => ?_⟩
    · have h : d.length < N - 1 := by simp at h; omega
      conv => whnf
      repeat (first | refine ACode.seq ?_ | (refine ACode.s_reg tys_ok ?_; conv => whnf) | refine ACode.s_block ?_ | refine ACode.s_scope ?_ | (refine ACode.s_cond ?_; conv => whnf) | (refine ACode.s_exit ?_; conv => whnf) | (refine ACode.s_ret ?_; conv => whnf) | (refine ACode.s_skip ?_; conv => whnf) | (refine ACode.s_label ?_; conv => whnf))
      refine ACall.of_spec (index_spec t) rfl fun r hr => ?_
      subst hr
      conv => whnf
      repeat (first | refine ACode.seq ?_ | (refine ACode.s_reg tys_ok ?_; conv => whnf) | refine ACode.s_block ?_ | refine ACode.s_scope ?_ | (refine ACode.s_cond ?_; conv => whnf) | (refine ACode.s_exit ?_; conv => whnf) | (refine ACode.s_ret ?_; conv => whnf) | (refine ACode.s_skip ?_; conv => whnf) | (refine ACode.s_label ?_; conv => whnf))
      refine ⟨fun h2 => ?_, fun h2 => ?_⟩
      · exfalso
        have h2 : Lib.indexByte t 32 = -1 := by have := Lib.indexByte_ge t 32; simp at h2; omega
        have := splitB_free (Lib.indexByte_none h2)
        rw [this] at hdl
        simp at hdl
        omega
      · obtain ⟨m, hm2⟩ : ∃ m : Nat, Lib.indexByte t 32 = m := ⟨(Lib.indexByte t 32).toNat, by simp at h2; omega⟩
        rw [hm2]
        obtain ⟨i1, i2⟩ := Lib.indexByte_some hm2
        have hml : m < t.length := (List.getElem?_eq_some_iff.1 i1).1
        have hmm : (m : Int) + 0 = m := by omega
        conv => whnf
        repeat (first | refine ACode.seq ?_ | (refine ACode.s_reg tys_ok ?_; conv => whnf) | refine ACode.s_block ?_ | refine ACode.s_scope ?_ | (refine ACode.s_cond ?_; conv => whnf) | (refine ACode.s_exit ?_; conv => whnf) | (refine ACode.s_ret ?_; conv => whnf) | (refine ACode.s_skip ?_; conv => whnf) | (refine ACode.s_label ?_; conv => whnf))
        rw [hmm, Wr64 _ (by omega) (by omega)]
        refine ⟨by simp only; omega, ?_⟩
        conv => whnf
        repeat (first | refine ACode.seq ?_ | (refine ACode.s_reg tys_ok ?_; conv => whnf) | refine ACode.s_block ?_ | refine ACode.s_scope ?_ | (refine ACode.s_cond ?_; conv => whnf) | (refine ACode.s_exit ?_; conv => whnf) | (refine ACode.s_ret ?_; conv => whnf) | (refine ACode.s_skip ?_; conv => whnf) | (refine ACode.s_label ?_; conv => whnf))
        refine ⟨by simp only; omega, ?_⟩
        conv => whnf
        repeat (first | refine ACode.seq ?_ | (refine ACode.s_reg tys_ok ?_; conv => whnf) | refine ACode.s_block ?_ | refine ACode.s_scope ?_ | (refine ACode.s_cond ?_; conv => whnf) | (refine ACode.s_exit ?_; conv => whnf) | (refine ACode.s_ret ?_; conv => whnf) | (refine ACode.s_skip ?_; conv => whnf) | (refine ACode.s_label ?_; conv => whnf))
        refine ⟨_, arr_get d N (by omega), ?_⟩
        conv => whnf
        repeat (first | refine ACode.seq ?_ | (refine ACode.s_reg tys_ok ?_; conv => whnf) | refine ACode.s_block ?_ | refine ACode.s_scope ?_ | (refine ACode.s_cond ?_; conv => whnf) | (refine ACode.s_exit ?_; conv => whnf) | (refine ACode.s_ret ?_; conv => whnf) | (refine ACode.s_skip ?_; conv => whnf) | (refine ACode.s_label ?_; conv => whnf))
        have h32 : (m : Int) + ((([32] : List UInt8).length : Nat) : Int) = ((m + 1 : Nat) : Int) := rfl
        rw [h32, Wr64 _ (by omega) (by omega)]
        refine ⟨by simp only; omega, ?_⟩
        conv => whnf
        repeat (first | refine ACode.seq ?_ | (refine ACode.s_reg tys_ok ?_; conv => whnf) | refine ACode.s_block ?_ | refine ACode.s_scope ?_ | (refine ACode.s_cond ?_; conv => whnf) | (refine ACode.s_exit ?_; conv => whnf) | (refine ACode.s_ret ?_; conv => whnf) | (refine ACode.s_skip ?_; conv => whnf) | (refine ACode.s_label ?_; conv => whnf))
        refine ⟨(d ++ [t.take m], t.drop (m + 1)), ?_⟩
        have hsp := splitB_at i1 i2
        conv => whnf
        repeat (refine And.intro ?_ ?_; (focus (first | rfl | (simp; done) | (first | (rw [Wr64 _ (by simp only; omega) (by simp only; omega)]; simp; done) | (simp; omega); done))); conv => whnf)
        refine ⟨congrArg (HO.arr _ 1) (arr_set d N (t.take m) (by omega)), ⟨?_, by simp; omega⟩, by simp; omega⟩
        rw [hd, hsp]
        simp
    · have h : d.length = N - 1 := by simp at h; omega
      have h1 : (splitB t).length = 1 := by omega
      have ht1 : splitB t = [t] := by
        refine splitB_free fun k hk => ?_
        have h2 := splitB_len t
        have h3 : 0 < List.count 32 t := List.count_pos_iff.2 (List.mem_of_getElem? hk)
        omega
      conv => whnf
      repeat (first | refine ACode.seq ?_ | (refine ACode.s_reg tys_ok ?_; conv => whnf) | refine ACode.s_block ?_ | refine ACode.s_scope ?_ | (refine ACode.s_cond ?_; conv => whnf) | (refine ACode.s_exit ?_; conv => whnf) | (refine ACode.s_ret ?_; conv => whnf) | (refine ACode.s_skip ?_; conv => whnf) | (refine ACode.s_label ?_; conv => whnf))
      refine ⟨by simp only; omega, ?_⟩
      conv => whnf
      repeat (first | refine ACode.seq ?_ | (refine ACode.s_reg tys_ok ?_; conv => whnf) | refine ACode.s_block ?_ | refine ACode.s_scope ?_ | (refine ACode.s_cond ?_; conv => whnf) | (refine ACode.s_exit ?_; conv => whnf) | (refine ACode.s_ret ?_; conv => whnf) | (refine ACode.s_skip ?_; conv => whnf) | (refine ACode.s_label ?_; conv => whnf))
      refine ⟨_, arr_get d N (by omega), ?_⟩
      conv => whnf
      repeat (first | refine ACode.seq ?_ | (refine ACode.s_reg tys_ok ?_; conv => whnf) | refine ACode.s_block ?_ | refine ACode.s_scope ?_ | (refine ACode.s_cond ?_; conv => whnf) | (refine ACode.s_exit ?_; conv => whnf) | (refine ACode.s_ret ?_; conv => whnf) | (refine ACode.s_skip ?_; conv => whnf) | (refine ACode.s_label ?_; conv => whnf))
      rw [Wr64 _ (by simp only; omega) (by simp only; omega)]
      refine ⟨by simp only; omega, ?_⟩
      conv => whnf
      repeat (first | refine ACode.seq ?_ | (refine ACode.s_reg tys_ok ?_; conv => whnf) | refine ACode.s_block ?_ | refine ACode.s_scope ?_ | (refine ACode.s_cond ?_; conv => whnf) | (refine ACode.s_exit ?_; conv => whnf) | (refine ACode.s_ret ?_; conv => whnf) | (refine ACode.s_skip ?_; conv => whnf) | (refine ACode.s_label ?_; conv => whnf))
      have e : (strs d ++ List.replicate (N - d.length) (AV.str [])).set (0 + ((d.length : Nat) : Int).toNat) (.str t) = strs (splitB s) := by
        have h2 : N - (d ++ [t]).length = 0 := by simp; omega
        rw [arr_set d N t (by omega), h2, hd, ht1]
        simp
      refine ⟨⟨?_, ?_⟩, ?_⟩
      · show _ = ((strs d ++ List.replicate (N - d.length) (AV.str [])).set (0 + ((d.length : Nat) : Int).toNat) (.str t)).length
        rw [e, strs_len, hN]
        simp only
        omega
      · show ∀ a ∈ (strs d ++ List.replicate (N - d.length) (AV.str [])).set (0 + ((d.length : Nat) : Int).toNat) (.str t), closed a = true
        rw [e]
        intro a ha; obtain ⟨x, _, rfl⟩ := List.mem_map.1 ha; rfl
      · exact congrArg (AV.sl 1) e
theorem split_spec (s : Bs) (hs : s.length ≤ 100000) : Ctr Tryz.prog 25 [.str s, .str [32]] (fun r => r = .sl 1 (strs (splitB s))) := by
  refine Ctr.of_body Tryz.func25 rfl tys_ok (by kernel_rfl) ?_
  conv => whnf
  repeat (first | refine ACode.seq ?_ | (refine ACode.s_reg tys_ok ?_; conv => whnf) | refine ACode.s_block ?_ | refine ACode.s_scope ?_ | (refine ACode.s_cond ?_; conv => whnf) | (refine ACode.s_exit ?_; conv => whnf) | (refine ACode.s_ret ?_; conv => whnf) | (refine ACode.s_skip ?_; conv => whnf) | (refine ACode.s_label ?_; conv => whnf))
  repeat (first | (refine ACall.of_spec (genSplit_spec s hs) rfl fun r hr => ?_; subst hr; conv => whnf) | refine ACode.seq ?_ | (refine ACode.s_reg tys_ok ?_; conv => whnf) | refine ACode.s_block ?_ | refine ACode.s_scope ?_ | (refine ACode.s_cond ?_; conv => whnf) | (refine ACode.s_exit ?_; conv => whnf) | (refine ACode.s_ret ?_; conv => whnf) | (refine ACode.s_skip ?_; conv => whnf) | (refine ACode.s_label ?_; conv => whnf))
theorem bytesWorld_below (w : World) (e : TypeId) (s : ByteArray) : Below w.heap.size w (Lib.bytesWorld w e s) :=
  ⟨rfl, rfl, rfl, by rw [Lib.bytesWorld_size]; omega, fun k hk => Lib.bytesWorld_at_old w e s k (by omega)⟩
theorem atoi_rng {s : Bs} {v : Int} (h : Lib.atoiAll s = .ok v) : inK .i64 v := by
  unfold Lib.atoiAll at h
  split at h
  · cases h
  · simp only at h
    split at h
    · cases h
    · cases h
    · split at h
      · cases h
      · split at h
        · cases h
        · injection h with h
          constructor <;> simp [IntKind.min, IntKind.max, IntKind.bits, IntKind.signed] <;> split at h <;> omega
theorem err_var {C : CellSet} {w : World} (h : COK C w) (g : Nat) (hx : (g, [AV.iface 140 .any]) ∈ glTab) : ∃ ev, w.cell? ⟨g, 0, none⟩ = some ev ∧ (ev = .nilIface ∨ ∃ te pe, ev = .iface te pe) := by
  have hc := h.gl _ hx
  unfold Cells at hc
  obtain ⟨⟨v, _, hcl, hr⟩, _⟩ := hc
  unfold Rep at hr
  obtain ⟨y, rfl, _⟩ := hr
  exact ⟨_, hcl.2, .inr ⟨_, _, rfl⟩⟩
theorem atoi_spec (s : Bs) (hs : s.length ≤ 100000) : Ctr Tryz.prog 26 [.str s] (fun r => (∃ v, Lib.atoiAll s = .ok v ∧ r = .tuple [.int .i64 v, .raw .nilIface]) ∨ ((∀ v, Lib.atoiAll s ≠ .ok v) ∧ ∃ v, r = .tuple [.int .i64 v, .iface 90 .any])) := by
  refine ⟨by kernel_rfl, fun C w vs hlt hr => ?_⟩
  unfold Reps at hr
  obtain ⟨v1, _, rfl, h2, hr⟩ := hr
  unfold Reps at hr
  subst hr
  unfold Rep at h2
  obtain ⟨rfl, hl⟩ := h2
  rcases ha : Lib.atoiAll s with v | _ | _
  · skip
    refine (Tryz.strconv_Atoi_ok ⟨s.toArray⟩ (by simp [ByteArray.size]; omega) v (by simpa using ha) w).mono fun e w' ⟨h3, h4⟩ => ?_
    refine ⟨_, _, h3, .inl ⟨v, rfl, rfl⟩, ?_, ?_⟩
    · rcases h4 with rfl | ⟨t, rfl⟩
      · exact Below.refl _ _
      · exact bytesWorld_below _ _ _
    · unfold Rep
      refine ⟨_, rfl, ?_⟩
      unfold Reps
      refine ⟨_, _, rfl, ?_, ?_⟩
      · unfold Rep; exact ⟨rfl, atoi_rng ha⟩
      · unfold Reps
        refine ⟨_, _, rfl, ?_, ?_⟩
        · unfold Rep; rfl
        · unfold Reps; rfl
  · skip
    obtain ⟨ev, hv, hev⟩ := err_var hlt 0 (List.mem_of_getElem? (i := 0) (by kernel_rfl))
    refine (Tryz.strconv_Atoi_syntax ⟨s.toArray⟩ (by simp [ByteArray.size]; omega) (show Lib.atoiAll s = Lib.atoiAll [] from ha) ev w hv hev).mono fun e w' ⟨N, h3, h4, h5, h6⟩ => ?_
    refine ⟨_, _, h3, .inr ⟨fun v hv => (by cases hv), 0, rfl⟩, h6, ?_⟩
    unfold Rep
    refine ⟨_, rfl, ?_⟩
    unfold Reps
    refine ⟨_, _, rfl, ?_, ?_⟩
    · unfold Rep; exact ⟨rfl, by constructor <;> decide⟩
    · unfold Reps
      refine ⟨_, _, rfl, ?_, ?_⟩
      · unfold Rep; exact ⟨_, rfl, by unfold Rep; trivial⟩
      · unfold Reps; rfl
  · skip
    obtain ⟨ev, hv, hev⟩ := err_var hlt 1 (List.mem_of_getElem? (i := 1) (by kernel_rfl))
    refine (Tryz.strconv_Atoi_range ⟨s.toArray⟩ (by simp [ByteArray.size]; omega) (by simpa using ha) ev w hv hev).mono fun e w' ⟨N, h3, h4, h5, h6⟩ => ?_
    refine ⟨_, _, h3, .inr ⟨fun v hv => (by cases hv), Lib.atoiSat s, rfl⟩, h6, ?_⟩
    unfold Rep
    refine ⟨_, rfl, ?_⟩
    unfold Reps
    refine ⟨_, _, rfl, ?_, ?_⟩
    · unfold Rep; exact ⟨rfl, by unfold Lib.atoiSat; split <;> constructor <;> decide⟩
    · unfold Reps
      refine ⟨_, _, rfl, ?_, ?_⟩
      · unfold Rep; exact ⟨_, rfl, by unfold Rep; trivial⟩
      · unfold Reps; rfl
end Go.Proofs.YtiojkoaefabjbaaGreatDoor
