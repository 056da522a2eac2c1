/-
  strings.Split at a blank; isName.
-/
import Derived.Test.YtkmhjamdgncpoaaDoorF1
set_option linter.unusedVariables false
set_option linter.unusedSimpArgs false
namespace Go.Proofs.YtkmhjamdgncpoaaDoor
open Go.Av Go.Shelf Pl Go.RowKit
theorem count_spec (s : Bs) : Ctr Tryd.prog 64 [.str s, .str [32]] (fun r => r = .int .i64 (Lib.countByte s 32)) := by
  refine ⟨by kernel_rfl, fun C w vs hlt hr => ?_⟩
  unfold Reps at hr
  obtain ⟨v1, _, rfl, h2, hr⟩ := hr
  unfold Reps at hr
  obtain ⟨v2, _, rfl, h3, hr⟩ := hr
  unfold Reps at hr
  subst hr
  unfold Rep at h2 h3
  obtain ⟨rfl, hs⟩ := h2
  obtain ⟨rfl, _⟩ := h3
  refine (Tryd.strings_Count_one ⟨s.toArray⟩ 32 w).mono fun e w' ⟨h3, h4⟩ => ?_
  subst h4
  have hc : Lib.countByte s 32 ≤ s.length := List.count_le_length
  exact ⟨_, _, h3, rfl, Below.refl _ _, by unfold Rep; exact ⟨rfl, by constructor <;> simp [IntKind.min, IntKind.max, IntKind.bits, IntKind.signed] <;> omega⟩⟩
theorem index_spec (s : Bs) : Ctr Tryd.prog 65 [.str s, .str [32]] (fun r => r = .int .i64 (Lib.indexByte s 32)) := by
  refine ⟨by kernel_rfl, fun C w vs hlt hr => ?_⟩
  unfold Reps at hr
  obtain ⟨v1, _, rfl, h2, hr⟩ := hr
  unfold Reps at hr
  obtain ⟨v2, _, rfl, h3, hr⟩ := hr
  unfold Reps at hr
  subst hr
  unfold Rep at h2 h3
  obtain ⟨rfl, hs⟩ := h2
  obtain ⟨rfl, _⟩ := h3
  refine (Tryd.strings_Index_one ⟨s.toArray⟩ 32 w).mono fun e w' ⟨h3, h4⟩ => ?_
  subst h4
  have hc : -1 ≤ Lib.indexByte s 32 := Lib.indexByte_ge s 32
  have hd : Lib.indexByte s 32 ≤ s.length := by
    by_cases h : Lib.indexByte s 32 = -1
    · omega
    · obtain ⟨o, ho⟩ : ∃ o : Nat, Lib.indexByte s 32 = o := ⟨(Lib.indexByte s 32).toNat, by omega⟩
      have := (List.getElem?_eq_some_iff.1 (Lib.indexByte_some ho).1).1
      omega
  exact ⟨_, _, h3, rfl, Below.refl _ _, by unfold Rep; exact ⟨rfl, by constructor <;> simp [IntKind.min, IntKind.max, IntKind.bits, IntKind.signed] <;> omega⟩⟩
theorem arr_closed (d : List Bs) (n : Nat) : ∀ a ∈ strs d ++ List.replicate n (AV.str []), closed a = true := by
  intro a ha
  rcases List.mem_append.1 ha with ha | ha
  · obtain ⟨x, _, rfl⟩ := List.mem_map.1 ha; rfl
  · rw [List.eq_of_mem_replicate ha]; rfl
theorem arr_get (d : List Bs) (N : Nat) (h : d.length < N) : (strs d ++ List.replicate (N - d.length) (AV.str []))[0 + ((d.length : Nat) : Int).toNat]? = some (AV.str []) := by
  obtain ⟨k, hk⟩ : ∃ k, N - d.length = k + 1 := ⟨N - d.length - 1, by omega⟩
  rw [Nat.zero_add, Int.toNat_natCast, List.getElem?_append_right (by simp [strs]), hk]
  simp [strs]
theorem arr_set (d : List Bs) (N : Nat) (t : Bs) (h : d.length < N) : (strs d ++ List.replicate (N - d.length) (AV.str [])).set (0 + ((d.length : Nat) : Int).toNat) (.str t) = strs (d ++ [t]) ++ List.replicate (N - (d ++ [t]).length) (AV.str []) := by
  obtain ⟨k, hk⟩ : ∃ k, N - d.length = k + 1 := ⟨N - d.length - 1, by omega⟩
  have hk2 : N - (d ++ [t]).length = k := by simp; omega
  rw [Nat.zero_add, Int.toNat_natCast, List.set_append_right (h := by simp [strs]), hk, hk2]
  simp [strs, List.replicate_succ]
set_option maxRecDepth 100000 in
theorem genSplit_spec (s : Bs) (hs : s.length ≤ 100000) : Ctr Tryd.prog 62 [.str s, .str [32], .int .i64 0, .int .i64 (-1)] (fun r => r = .sl 1 (strs (splitB s))) := by
  refine Ctr.of_body Tryd.func62 rfl tys_ok (by kernel_rfl) ?_
  conv => whnf
  repeat (first | refine ACode.seq ?_ | (refine ACode.s_reg tys_ok ?_; conv => whnf) | refine ACode.s_block ?_ | refine ACode.s_scope ?_ | (refine ACode.s_cond ?_; conv => whnf) | (refine ACode.s_exit ?_; conv => whnf) | (refine ACode.s_ret ?_; conv => whnf) | (refine ACode.s_skip ?_; conv => whnf) | (refine ACode.s_label ?_; conv => whnf))
  refine ⟨fun h => absurd h (by decide), fun _ => ?_⟩
  conv => whnf
  repeat (first | refine ACode.seq ?_ | (refine ACode.s_reg tys_ok ?_; conv => whnf) | refine ACode.s_block ?_ | refine ACode.s_scope ?_ | (refine ACode.s_cond ?_; conv => whnf) | (refine ACode.s_exit ?_; conv => whnf) | (refine ACode.s_ret ?_; conv => whnf) | (refine ACode.s_skip ?_; conv => whnf) | (refine ACode.s_label ?_; conv => whnf))
  refine ⟨fun h => absurd h (by decide), fun _ => ?_⟩
  conv => whnf
  repeat (first | refine ACode.seq ?_ | (refine ACode.s_reg tys_ok ?_; conv => whnf) | refine ACode.s_block ?_ | refine ACode.s_scope ?_ | (refine ACode.s_cond ?_; conv => whnf) | (refine ACode.s_exit ?_; conv => whnf) | (refine ACode.s_ret ?_; conv => whnf) | (refine ACode.s_skip ?_; conv => whnf) | (refine ACode.s_label ?_; conv => whnf))
  refine ⟨fun _ => ?_, fun h => absurd h (by decide)⟩
  conv => whnf
  repeat (first | refine ACode.seq ?_ | (refine ACode.s_reg tys_ok ?_; conv => whnf) | refine ACode.s_block ?_ | refine ACode.s_scope ?_ | (refine ACode.s_cond ?_; conv => whnf) | (refine ACode.s_exit ?_; conv => whnf) | (refine ACode.s_ret ?_; conv => whnf) | (refine ACode.s_skip ?_; conv => whnf) | (refine ACode.s_label ?_; conv => whnf))
  refine ACall.of_spec (count_spec s) rfl fun r hr => ?_
  subst hr
  conv => whnf
  repeat (first | refine ACode.seq ?_ | (refine ACode.s_reg tys_ok ?_; conv => whnf) | refine ACode.s_block ?_ | refine ACode.s_scope ?_ | (refine ACode.s_cond ?_; conv => whnf) | (refine ACode.s_exit ?_; conv => whnf) | (refine ACode.s_ret ?_; conv => whnf) | (refine ACode.s_skip ?_; conv => whnf) | (refine ACode.s_label ?_; conv => whnf))
  have hc : Lib.countByte s 32 ≤ s.length := List.count_le_length
  have hn : (splitB s).length = Lib.countByte s 32 + 1 := splitB_len s
  have hm : min (Wr IntKind.i64 ((Lib.countByte s 32 : Nat) + 1)) (Wr IntKind.i64 ((s.length : Nat) + 1)) = (((splitB s).length : Nat) : Int) := by
    rw [Wr64 _ (by omega) (by omega), Wr64 _ (by omega) (by omega)]; omega
  rw [hm, Int.toNat_natCast]
  refine ⟨by omega, ?_⟩
  conv => whnf
  repeat (first | refine ACode.seq ?_ | (refine ACode.s_reg tys_ok ?_; conv => whnf) | refine ACode.s_block ?_ | refine ACode.s_scope ?_ | (refine ACode.s_cond ?_; conv => whnf) | (refine ACode.s_exit ?_; conv => whnf) | (refine ACode.s_ret ?_; conv => whnf) | (refine ACode.s_skip ?_; conv => whnf) | (refine ACode.s_label ?_; conv => whnf))
  generalize hN : (splitB s).length = N at *
  have hN1 : 1 ≤ N := by omega
  refine ACode.loopD (fun d : List Bs × Bs => mk 66 [(0, .str d.2), (1, .str [32]), (2, .int .i64 0), (3, .int .i64 ((N : Int) - 1)), (8, .raw (Value.slice none 0 0)), (9, .own 0 1 0 N), (10, .int .i64 d.1.length)]) (fun d => [.arr 9 1 (strs d.1 ++ List.replicate (N - d.1.length) (AV.str []))])
    (fun d => splitB s = d.1 ++ splitB d.2 ∧ d.2.length ≤ s.length) (fun d => N - d.1.length) (fun _ _ => ⟨rfl, arr_closed _ _, trivial⟩) ⟨([], s), ?_⟩ (fun _ => rfl) fun ⟨d, t⟩ hd => ?_
  · conv => whnf
    repeat (refine And.intro ?_ ?_; (focus (first | rfl | (simp; done) | (first | (rw [Wr64 _ (by omega) (by omega)]; done) | (simp [strs]; done); done))); conv => whnf)
    exact Nat.le_refl _
  · obtain ⟨hd, ht⟩ := hd
    simp only at hd ht
    have hdl : d.length + (splitB t).length = N := by rw [← hN, hd]; simp
    have htp := splitB_pos t
    repeat (first | refine ACode.seq ?_ | (refine ACode.s_reg tys_ok ?_; conv => whnf) | refine ACode.s_block ?_ | refine ACode.s_scope ?_ | (refine ACode.s_cond ?_; conv => whnf) | (refine ACode.s_exit ?_; conv => whnf) | (refine ACode.s_ret ?_; conv => whnf) | (refine ACode.s_skip ?_; conv => whnf) | (refine ACode.s_label ?_; conv => whnf))
    refine ⟨fun h => ?_, fun h => ?_⟩
    · have h : d.length < N - 1 := by simp at h; omega
      conv => whnf
      repeat (first | refine ACode.seq ?_ | (refine ACode.s_reg tys_ok ?_; conv => whnf) | refine ACode.s_block ?_ | refine ACode.s_scope ?_ | (refine ACode.s_cond ?_; conv => whnf) | (refine ACode.s_exit ?_; conv => whnf) | (refine ACode.s_ret ?_; conv => whnf) | (refine ACode.s_skip ?_; conv => whnf) | (refine ACode.s_label ?_; conv => whnf))
      refine ACall.of_spec (index_spec t) rfl fun r hr => ?_
      subst hr
      conv => whnf
      repeat (first | refine ACode.seq ?_ | (refine ACode.s_reg tys_ok ?_; conv => whnf) | refine ACode.s_block ?_ | refine ACode.s_scope ?_ | (refine ACode.s_cond ?_; conv => whnf) | (refine ACode.s_exit ?_; conv => whnf) | (refine ACode.s_ret ?_; conv => whnf) | (refine ACode.s_skip ?_; conv => whnf) | (refine ACode.s_label ?_; conv => whnf))
      refine ⟨fun h2 => ?_, fun h2 => ?_⟩
      · exfalso
        have h2 : Lib.indexByte t 32 = -1 := by have := Lib.indexByte_ge t 32; simp at h2; omega
        have := splitB_free (Lib.indexByte_none h2)
        rw [this] at hdl
        simp at hdl
        omega
      · obtain ⟨m, hm2⟩ : ∃ m : Nat, Lib.indexByte t 32 = m := ⟨(Lib.indexByte t 32).toNat, by simp at h2; omega⟩
        rw [hm2]
        obtain ⟨i1, i2⟩ := Lib.indexByte_some hm2
        have hml : m < t.length := (List.getElem?_eq_some_iff.1 i1).1
        have hmm : (m : Int) + 0 = m := by omega
        conv => whnf
        repeat (first | refine ACode.seq ?_ | (refine ACode.s_reg tys_ok ?_; conv => whnf) | refine ACode.s_block ?_ | refine ACode.s_scope ?_ | (refine ACode.s_cond ?_; conv => whnf) | (refine ACode.s_exit ?_; conv => whnf) | (refine ACode.s_ret ?_; conv => whnf) | (refine ACode.s_skip ?_; conv => whnf) | (refine ACode.s_label ?_; conv => whnf))
        rw [hmm, Wr64 _ (by omega) (by omega)]
        refine ⟨by simp only; omega, ?_⟩
        conv => whnf
        repeat (first | refine ACode.seq ?_ | (refine ACode.s_reg tys_ok ?_; conv => whnf) | refine ACode.s_block ?_ | refine ACode.s_scope ?_ | (refine ACode.s_cond ?_; conv => whnf) | (refine ACode.s_exit ?_; conv => whnf) | (refine ACode.s_ret ?_; conv => whnf) | (refine ACode.s_skip ?_; conv => whnf) | (refine ACode.s_label ?_; conv => whnf))
        refine ⟨by simp only; omega, ?_⟩
        conv => whnf
        repeat (first | refine ACode.seq ?_ | (refine ACode.s_reg tys_ok ?_; conv => whnf) | refine ACode.s_block ?_ | refine ACode.s_scope ?_ | (refine ACode.s_cond ?_; conv => whnf) | (refine ACode.s_exit ?_; conv => whnf) | (refine ACode.s_ret ?_; conv => whnf) | (refine ACode.s_skip ?_; conv => whnf) | (refine ACode.s_label ?_; conv => whnf))
        refine ⟨_, arr_get d N (by omega), ?_⟩
        conv => whnf
        repeat (first | refine ACode.seq ?_ | (refine ACode.s_reg tys_ok ?_; conv => whnf) | refine ACode.s_block ?_ | refine ACode.s_scope ?_ | (refine ACode.s_cond ?_; conv => whnf) | (refine ACode.s_exit ?_; conv => whnf) | (refine ACode.s_ret ?_; conv => whnf) | (refine ACode.s_skip ?_; conv => whnf) | (refine ACode.s_label ?_; conv => whnf))
        have h32 : (m : Int) + ((([32] : List UInt8).length : Nat) : Int) = ((m + 1 : Nat) : Int) := rfl
        rw [h32, Wr64 _ (by omega) (by omega)]
        refine ⟨by simp only; omega, ?_⟩
        conv => whnf
        repeat (first | refine ACode.seq ?_ | (refine ACode.s_reg tys_ok ?_; conv => whnf) | refine ACode.s_block ?_ | refine ACode.s_scope ?_ | (refine ACode.s_cond ?_; conv => whnf) | (refine ACode.s_exit ?_; conv => whnf) | (refine ACode.s_ret ?_; conv => whnf) | (refine ACode.s_skip ?_; conv => whnf) | (refine ACode.s_label ?_; conv => whnf))
        refine ⟨(d ++ [t.take m], t.drop (m + 1)), ?_⟩
        have hsp := splitB_at i1 i2
        conv => whnf
        repeat (refine And.intro ?_ ?_; (focus (first | rfl | (simp; done) | (first | (rw [Wr64 _ (by simp only; omega) (by simp only; omega)]; simp; done) | (simp; omega); done))); conv => whnf)
        refine ⟨congrArg (HO.arr _ 1) (arr_set d N (t.take m) (by omega)), ⟨?_, by simp; omega⟩, by simp; omega⟩
        rw [hd, hsp]
        simp
    · have h : d.length = N - 1 := by simp at h; omega
      have h1 : (splitB t).length = 1 := by omega
      have ht1 : splitB t = [t] := by
        refine splitB_free fun k hk => ?_
        have h2 := splitB_len t
        have h3 : 0 < List.count 32 t := List.count_pos_iff.2 (List.mem_of_getElem? hk)
        omega
      conv => whnf
      repeat (first | refine ACode.seq ?_ | (refine ACode.s_reg tys_ok ?_; conv => whnf) | refine ACode.s_block ?_ | refine ACode.s_scope ?_ | (refine ACode.s_cond ?_; conv => whnf) | (refine ACode.s_exit ?_; conv => whnf) | (refine ACode.s_ret ?_; conv => whnf) | (refine ACode.s_skip ?_; conv => whnf) | (refine ACode.s_label ?_; conv => whnf))
      refine ⟨by simp only; omega, ?_⟩
      conv => whnf
      repeat (first | refine ACode.seq ?_ | (refine ACode.s_reg tys_ok ?_; conv => whnf) | refine ACode.s_block ?_ | refine ACode.s_scope ?_ | (refine ACode.s_cond ?_; conv => whnf) | (refine ACode.s_exit ?_; conv => whnf) | (refine ACode.s_ret ?_; conv => whnf) | (refine ACode.s_skip ?_; conv => whnf) | (refine ACode.s_label ?_; conv => whnf))
      refine ⟨_, arr_get d N (by omega), ?_⟩
      conv => whnf
      repeat (first | refine ACode.seq ?_ | (refine ACode.s_reg tys_ok ?_; conv => whnf) | refine ACode.s_block ?_ | refine ACode.s_scope ?_ | (refine ACode.s_cond ?_; conv => whnf) | (refine ACode.s_exit ?_; conv => whnf) | (refine ACode.s_ret ?_; conv => whnf) | (refine ACode.s_skip ?_; conv => whnf) | (refine ACode.s_label ?_; conv => whnf))
      rw [Wr64 _ (by simp only; omega) (by simp only; omega)]
      refine ⟨by simp only; omega, ?_⟩
      conv => whnf
      repeat (first | refine ACode.seq ?_ | (refine ACode.s_reg tys_ok ?_; conv => whnf) | refine ACode.s_block ?_ | refine ACode.s_scope ?_ | (refine ACode.s_cond ?_; conv => whnf) | (refine ACode.s_exit ?_; conv => whnf) | (refine ACode.s_ret ?_; conv => whnf) | (refine ACode.s_skip ?_; conv => whnf) | (refine ACode.s_label ?_; conv => whnf))
      have e : (strs d ++ List.replicate (N - d.length) (AV.str [])).set (0 + ((d.length : Nat) : Int).toNat) (.str t) = strs (splitB s) := by
        have h2 : N - (d ++ [t]).length = 0 := by simp; omega
        rw [arr_set d N t (by omega), h2, hd, ht1]
        simp
      refine ⟨⟨?_, ?_⟩, ?_⟩
      · show _ = ((strs d ++ List.replicate (N - d.length) (AV.str [])).set (0 + ((d.length : Nat) : Int).toNat) (.str t)).length
        rw [e, strs_len, hN]
        simp only
        omega
      · show ∀ a ∈ (strs d ++ List.replicate (N - d.length) (AV.str [])).set (0 + ((d.length : Nat) : Int).toNat) (.str t), closed a = true
        rw [e]
        intro a ha; obtain ⟨x, _, rfl⟩ := List.mem_map.1 ha; rfl
      · exact congrArg (AV.sl 1) e
theorem split_spec (s : Bs) (hs : s.length ≤ 100000) : Ctr Tryd.prog 59 [.str s, .str [32]] (fun r => r = .sl 1 (strs (splitB s))) := by
  refine Ctr.of_body Tryd.func59 rfl tys_ok (by kernel_rfl) ?_
  conv => whnf
  repeat (first | refine ACode.seq ?_ | (refine ACode.s_reg tys_ok ?_; conv => whnf) | refine ACode.s_block ?_ | refine ACode.s_scope ?_ | (refine ACode.s_cond ?_; conv => whnf) | (refine ACode.s_exit ?_; conv => whnf) | (refine ACode.s_ret ?_; conv => whnf) | (refine ACode.s_skip ?_; conv => whnf) | (refine ACode.s_label ?_; conv => whnf))
  repeat (first | (refine ACall.of_spec (genSplit_spec s hs) rfl fun r hr => ?_; subst hr; conv => whnf) | refine ACode.seq ?_ | (refine ACode.s_reg tys_ok ?_; conv => whnf) | refine ACode.s_block ?_ | refine ACode.s_scope ?_ | (refine ACode.s_cond ?_; conv => whnf) | (refine ACode.s_exit ?_; conv => whnf) | (refine ACode.s_ret ?_; conv => whnf) | (refine ACode.s_skip ?_; conv => whnf) | (refine ACode.s_label ?_; conv => whnf))
theorem strs_closed (l : List Bs) : ∀ x ∈ strs l, closed x = true := by
  intro x hx
  obtain ⟨y, _, rfl⟩ := List.mem_map.1 hx
  rfl
set_option maxRecDepth 100000 in
theorem isName_spec (s : Bs) : Ctr Tryd.prog 51 [.str s] (fun r => r = .bool (nameN s)) := by
  refine Ctr.of_body Tryd.func51 rfl tys_ok (by kernel_rfl) ?_
  conv => whnf
  repeat (first | refine ACode.seq ?_ | (refine ACode.s_reg tys_ok ?_; conv => whnf) | refine ACode.s_block ?_ | refine ACode.s_scope ?_ | (refine ACode.s_cond ?_; conv => whnf) | (refine ACode.s_exit ?_; conv => whnf) | (refine ACode.s_ret ?_; conv => whnf) | (refine ACode.s_skip ?_; conv => whnf) | (refine ACode.s_label ?_; conv => whnf))
  refine ⟨fun h1 => ?_, fun h1 => ?_⟩
  · conv => whnf
    repeat (first | refine ACode.seq ?_ | (refine ACode.s_reg tys_ok ?_; conv => whnf) | refine ACode.s_block ?_ | refine ACode.s_scope ?_ | (refine ACode.s_cond ?_; conv => whnf) | (refine ACode.s_exit ?_; conv => whnf) | (refine ACode.s_ret ?_; conv => whnf) | (refine ACode.s_skip ?_; conv => whnf) | (refine ACode.s_label ?_; conv => whnf))
    exact congrArg AV.bool (by unfold nameN; rw [decide_eq_false (p := s.length ≤ 84) (by simp at h1; omega)]; rfl)
  · have h1 : s.length ≤ 84 := by simp at h1; omega
    conv => whnf
    repeat (first | refine ACode.seq ?_ | (refine ACode.s_reg tys_ok ?_; conv => whnf) | refine ACode.s_block ?_ | refine ACode.s_scope ?_ | (refine ACode.s_cond ?_; conv => whnf) | (refine ACode.s_exit ?_; conv => whnf) | (refine ACode.s_ret ?_; conv => whnf) | (refine ACode.s_skip ?_; conv => whnf) | (refine ACode.s_label ?_; conv => whnf))
    refine ACall.of_spec (split_spec s (by omega)) rfl fun r hr => ?_
    subst hr
    conv => whnf
    repeat (first | refine ACode.seq ?_ | (refine ACode.s_reg tys_ok ?_; conv => whnf) | refine ACode.s_block ?_ | refine ACode.s_scope ?_ | (refine ACode.s_cond ?_; conv => whnf) | (refine ACode.s_exit ?_; conv => whnf) | (refine ACode.s_ret ?_; conv => whnf) | (refine ACode.s_skip ?_; conv => whnf) | (refine ACode.s_label ?_; conv => whnf))
    refine ⟨fun h2 => ?_, fun h2 => ?_⟩
    · conv => whnf
      repeat (first | refine ACode.seq ?_ | (refine ACode.s_reg tys_ok ?_; conv => whnf) | refine ACode.s_block ?_ | refine ACode.s_scope ?_ | (refine ACode.s_cond ?_; conv => whnf) | (refine ACode.s_exit ?_; conv => whnf) | (refine ACode.s_ret ?_; conv => whnf) | (refine ACode.s_skip ?_; conv => whnf) | (refine ACode.s_label ?_; conv => whnf))
      exact congrArg AV.bool (by unfold nameN; rw [decide_eq_false (p := (splitB s).length ≤ 4) (by simp at h2; omega)]; simp)
    · have h2 : (splitB s).length ≤ 4 := by simp at h2; omega
      have hb : nameN s = (splitB s).all wordW := by unfold nameN; rw [decide_eq_true h1, decide_eq_true h2]; rfl
      generalize splitB s = L at *
      conv => whnf
      repeat (first | refine ACode.seq ?_ | (refine ACode.s_reg tys_ok ?_; conv => whnf) | refine ACode.s_block ?_ | refine ACode.s_scope ?_ | (refine ACode.s_cond ?_; conv => whnf) | (refine ACode.s_exit ?_; conv => whnf) | (refine ACode.s_ret ?_; conv => whnf) | (refine ACode.s_skip ?_; conv => whnf) | (refine ACode.s_label ?_; conv => whnf))
      refine ACode.loopD (fun k : Nat => mk 60 [(2, .lit false), (16, .sl 1 (strs L)), (17, .int .i64 L.length), (18, .int .i64 k)]) (fun _ => []) (fun k => k ≤ L.length ∧ (L.take k).all wordW = true) (fun k => L.length - k) (fun _ _ => ⟨rfl, trivial⟩) ⟨0, ?_⟩ (fun _ => rfl) fun k hk => ?_
      · conv => whnf
        repeat (refine And.intro ?_ ?_; (focus (first | rfl | (simp; done))); conv => whnf)
        simp
      · obtain ⟨hk, ha⟩ := hk
        repeat (first | refine ACode.seq ?_ | (refine ACode.s_reg tys_ok ?_; conv => whnf) | refine ACode.s_block ?_ | refine ACode.s_scope ?_ | (refine ACode.s_cond ?_; conv => whnf) | (refine ACode.s_exit ?_; conv => whnf) | (refine ACode.s_ret ?_; conv => whnf) | (refine ACode.s_skip ?_; conv => whnf) | (refine ACode.s_label ?_; conv => whnf))
        refine ⟨fun h => ?_, fun h => ?_⟩
        · have h : k < L.length := by simpa using h
          have hw1 : Wr .i64 ((k : Int) + 1) = ((k + 1 : Nat) : Int) := by rw [Wr64 _ (by omega) (by omega)]; rfl
          have hget := strs_get L k h
          have htk : L.take (k + 1) = L.take k ++ [L[k]] := List.take_succ_eq_append_getElem h
          have hno : wordW L[k] = false → AV.bool false = .bool (nameN s) := fun hx => by
            rw [hb, List.all_eq_false.2 ⟨L[k], List.getElem_mem h, by simp [hx]⟩]
          have hgo : wordW L[k] = true → (L.take (k + 1)).all wordW = true := fun hx => by
            rw [htk, List.all_append, ha]
            simpa using hx
          generalize L[k] = w at *
          conv => whnf
          repeat (first | refine ACode.seq ?_ | (refine ACode.s_reg tys_ok ?_; conv => whnf) | refine ACode.s_block ?_ | refine ACode.s_scope ?_ | (refine ACode.s_cond ?_; conv => whnf) | (refine ACode.s_exit ?_; conv => whnf) | (refine ACode.s_ret ?_; conv => whnf) | (refine ACode.s_skip ?_; conv => whnf) | (refine ACode.s_label ?_; conv => whnf))
          refine ⟨by omega, _, hget, ?_⟩
          conv => whnf
          repeat (first | refine ACode.seq ?_ | (refine ACode.s_reg tys_ok ?_; conv => whnf) | refine ACode.s_block ?_ | refine ACode.s_scope ?_ | (refine ACode.s_cond ?_; conv => whnf) | (refine ACode.s_exit ?_; conv => whnf) | (refine ACode.s_ret ?_; conv => whnf) | (refine ACode.s_skip ?_; conv => whnf) | (refine ACode.s_label ?_; conv => whnf))
          repeat' (first | (refine And.intro (fun _ => ?_) (fun _ => ?_) <;> conv => whnf) | refine ACode.seq ?_ | (refine ACode.s_reg tys_ok ?_; conv => whnf) | refine ACode.s_block ?_ | refine ACode.s_scope ?_ | (refine ACode.s_cond ?_; conv => whnf) | (refine ACode.s_exit ?_; conv => whnf) | (refine ACode.s_ret ?_; conv => whnf) | (refine ACode.s_skip ?_; conv => whnf) | (refine ACode.s_label ?_; conv => whnf))
          · rename_i q1 q2
            exact hno (by unfold wordW; rw [decide_eq_false (p := w.length ≤ 20) (by simp at q2; omega)]; simp)
          · rename_i q1 q2
            have q1 : 1 ≤ w.length := by simp at q1; omega
            have q2 : w.length ≤ 20 := by simp at q2; omega
            have hf : wordW w = w.all nameC := by unfold wordW; simp [q1, q2]
            refine ACode.loopD (fun j : Nat => mk 60 [(2, .lit false), (16, .sl 1 (strs L)), (17, .int .i64 L.length), (18, .int .i64 k), (31, .sl 1 (bytesA w)), (32, .int .i64 w.length), (33, .int .i64 j)]) (fun _ => []) (fun j => j ≤ w.length ∧ (w.take j).all nameC = true) (fun j => w.length - j) (fun _ _ => ⟨rfl, trivial⟩) ⟨0, ?_⟩ (fun _ => rfl) fun j hj => ?_
            · conv => whnf
              repeat (refine And.intro ?_ ?_; (focus (first | rfl | (simp; done))); conv => whnf)
              simp
            · obtain ⟨hj, hb2⟩ := hj
              repeat (first | refine ACode.seq ?_ | (refine ACode.s_reg tys_ok ?_; conv => whnf) | refine ACode.s_block ?_ | refine ACode.s_scope ?_ | (refine ACode.s_cond ?_; conv => whnf) | (refine ACode.s_exit ?_; conv => whnf) | (refine ACode.s_ret ?_; conv => whnf) | (refine ACode.s_skip ?_; conv => whnf) | (refine ACode.s_label ?_; conv => whnf))
              refine ⟨fun g => ?_, fun g => ?_⟩
              · have g : j < w.length := by simpa using g
                have hw2 : Wr .i64 ((j : Int) + 1) = ((j + 1 : Nat) : Int) := by rw [Wr64 _ (by omega) (by omega)]; rfl
                have ht := all_take nameC w j g
                have hff := all_false nameC w j g
                conv => whnf
                repeat (first | refine ACode.seq ?_ | (refine ACode.s_reg tys_ok ?_; conv => whnf) | refine ACode.s_block ?_ | refine ACode.s_scope ?_ | (refine ACode.s_cond ?_; conv => whnf) | (refine ACode.s_exit ?_; conv => whnf) | (refine ACode.s_ret ?_; conv => whnf) | (refine ACode.s_skip ?_; conv => whnf) | (refine ACode.s_label ?_; conv => whnf))
                refine ⟨by omega, _, bytes_get w j g, ?_⟩
                conv => whnf
                repeat (first | refine ACode.seq ?_ | (refine ACode.s_reg tys_ok ?_; conv => whnf) | refine ACode.s_block ?_ | refine ACode.s_scope ?_ | (refine ACode.s_cond ?_; conv => whnf) | (refine ACode.s_exit ?_; conv => whnf) | (refine ACode.s_ret ?_; conv => whnf) | (refine ACode.s_skip ?_; conv => whnf) | (refine ACode.s_label ?_; conv => whnf))
                repeat' (first | (refine And.intro (fun _ => ?_) (fun _ => ?_) <;> conv => whnf) | (refine ACall.of_spec (isCapital_spec w[j]) rfl fun r hr => ?_; subst hr; conv => whnf) | (refine ACall.of_spec (isSmall_spec w[j]) rfl fun r hr => ?_; subst hr; conv => whnf) | (refine ACall.of_spec (isDigit_spec w[j]) rfl fun r hr => ?_; subst hr; conv => whnf) | refine ACode.seq ?_ | (refine ACode.s_reg tys_ok ?_; conv => whnf) | refine ACode.s_block ?_ | refine ACode.s_scope ?_ | (refine ACode.s_cond ?_; conv => whnf) | (refine ACode.s_exit ?_; conv => whnf) | (refine ACode.s_ret ?_; conv => whnf) | (refine ACode.s_skip ?_; conv => whnf) | (refine ACode.s_label ?_; conv => whnf))
                all_goals first
                  | (refine hno ?_
                     have hn : nameC w[j] = false := by unfold nameC; simp_all <;> omega
                     rw [hf, hff hn])
                  | (have hy : nameC w[j] = true := by unfold nameC; simp_all <;> omega
                     refine ⟨j + 1, ?_⟩
                     conv => whnf
                     repeat (refine And.intro ?_ ?_; (focus (first | rfl | (simp; done) | (first | exact hw2; done))); conv => whnf)
                     exact ⟨⟨by omega, by rw [ht, hb2, hy]; rfl⟩, by omega⟩)
              · have g : j = w.length := by simp at g; omega
                rw [g, List.take_length] at hb2
                conv => whnf
                repeat (first | refine ACode.seq ?_ | (refine ACode.s_reg tys_ok ?_; conv => whnf) | refine ACode.s_block ?_ | refine ACode.s_scope ?_ | (refine ACode.s_cond ?_; conv => whnf) | (refine ACode.s_exit ?_; conv => whnf) | (refine ACode.s_ret ?_; conv => whnf) | (refine ACode.s_skip ?_; conv => whnf) | (refine ACode.s_label ?_; conv => whnf))
                refine ⟨k + 1, ?_⟩
                conv => whnf
                repeat (refine And.intro ?_ ?_; (focus (first | rfl | (simp; done) | (first | exact hw1; done))); conv => whnf)
                exact ⟨⟨by omega, hgo (by rw [hf, hb2])⟩, by omega⟩
          · rename_i q1
            exact hno (by unfold wordW; rw [decide_eq_false (p := 1 ≤ w.length) (by simp at q1; omega)]; simp)
        · have h : k = L.length := by simp at h; omega
          rw [h, List.take_length] at ha
          conv => whnf
          repeat (first | refine ACode.seq ?_ | (refine ACode.s_reg tys_ok ?_; conv => whnf) | refine ACode.s_block ?_ | refine ACode.s_scope ?_ | (refine ACode.s_cond ?_; conv => whnf) | (refine ACode.s_exit ?_; conv => whnf) | (refine ACode.s_ret ?_; conv => whnf) | (refine ACode.s_skip ?_; conv => whnf) | (refine ACode.s_label ?_; conv => whnf))
          exact congrArg AV.bool (by rw [hb, ha])
end Go.Proofs.YtkmhjamdgncpoaaDoor
