/-
  The reference: Split, number.
-/
import Derived.Test.YtiojkoaefabjbaaGreatDoorG7
import Derived.Test.YtiojkoaefabjbaaGreatDoorP8
import Derived.Test.YtiojkoaefabjbaaGreatDoorF9
set_option linter.unusedVariables false
set_option linter.unusedSimpArgs false
namespace Go.Proofs.YtiojkoaefabjbaaGreatDoor
open Go.Av Go.Shelf Pl Go.RowKit
set_option maxRecDepth 100000 in
theorem rsplit_spec (s : Bs) (hs : s.length ≤ 100000) : Ctr Tryz.prog 28 [.str s] (fun r => r = .sl 1 (strs (splitB s))) := by
  refine Ctr.of_body Tryz.func28 rfl tys_ok (by kernel_rfl) ?_
  conv => whnf
  repeat (first | refine ACode.seq ?_ | (refine ACode.s_reg tys_ok ?_; conv => whnf) | refine ACode.s_block ?_ | refine ACode.s_scope ?_ | (refine ACode.s_cond ?_; conv => whnf) | (refine ACode.s_exit ?_; conv => whnf) | (refine ACode.s_ret ?_; conv => whnf) | (refine ACode.s_skip ?_; conv => whnf) | (refine ACode.s_label ?_; conv => whnf))
  refine ACode.loopD (fun d : List Bs × Bs × Nat => mk 32 [(0, .str s), (3, .own 0 1 0 d.1.length), (4, .str d.2.1), (5, .int .i64 d.2.2)]) (fun d => [.arr 9 1 (strs d.1)])
    (fun d => d.2.2 ≤ s.length ∧ splitB s = d.1 ++ splitB (d.2.1 ++ s.drop d.2.2) ∧ (32 : UInt8) ∉ d.2.1 ∧ d.2.1.length ≤ d.2.2 ∧ d.1.length ≤ d.2.2) (fun d => s.length - d.2.2) (fun _ _ => ⟨rfl, closed_strs _, trivial⟩) ⟨([], [], 0), ?_⟩ (fun _ => rfl) fun ⟨d, t, k⟩ hd => ?_
  · conv => whnf
    repeat (refine And.intro ?_ ?_; (focus (first | rfl | (simp; done))); conv => whnf)
    simp
  · obtain ⟨hk, he, hf, h1, h2⟩ := hd
    simp only at hk he hf h1 h2
    repeat (first | refine ACode.seq ?_ | (refine ACode.s_reg tys_ok ?_; conv => whnf) | refine ACode.s_block ?_ | refine ACode.s_scope ?_ | (refine ACode.s_cond ?_; conv => whnf) | (refine ACode.s_exit ?_; conv => whnf) | (refine ACode.s_ret ?_; conv => whnf) | (refine ACode.s_skip ?_; conv => whnf) | (refine ACode.s_label ?_; conv => whnf))
    refine ⟨fun h => ?_, fun h => ?_⟩
    · have h : k < s.length := by simpa using h
      have hg : s.getD (k : Int).toNat 0 = s[k] := by simp [List.getD, h]
      rw [List.drop_eq_getElem_cons h] at he
      have hw : Wr .i64 ((k : Int) + 1) = ((k + 1 : Nat) : Int) := by rw [Wr64 _ (by omega) (by omega)]; rfl
      conv => whnf
      repeat (first | refine ACode.seq ?_ | (refine ACode.s_reg tys_ok ?_; conv => whnf) | refine ACode.s_block ?_ | refine ACode.s_scope ?_ | (refine ACode.s_cond ?_; conv => whnf) | (refine ACode.s_exit ?_; conv => whnf) | (refine ACode.s_ret ?_; conv => whnf) | (refine ACode.s_skip ?_; conv => whnf) | (refine ACode.s_label ?_; conv => whnf))
      refine ⟨⟨by simp only; omega, by simp only; omega⟩, ?_⟩
      simp only
      rw [hg]
      conv => whnf
      repeat (first | refine ACode.seq ?_ | (refine ACode.s_reg tys_ok ?_; conv => whnf) | refine ACode.s_block ?_ | refine ACode.s_scope ?_ | (refine ACode.s_cond ?_; conv => whnf) | (refine ACode.s_exit ?_; conv => whnf) | (refine ACode.s_ret ?_; conv => whnf) | (refine ACode.s_skip ?_; conv => whnf) | (refine ACode.s_label ?_; conv => whnf))
      refine ⟨fun h3 => ?_, fun h3 => ?_⟩
      · have h3 : s[k] = 32 := UInt8.toNat_inj.1 (by simp at h3; have h32 : (32 : UInt8).toNat = 32 := rfl; omega)
        rw [h3, splitB_app _ hf] at he
        conv => whnf
        repeat (first | refine ACode.seq ?_ | (refine ACode.s_reg tys_ok ?_; conv => whnf) | refine ACode.s_block ?_ | refine ACode.s_scope ?_ | (refine ACode.s_cond ?_; conv => whnf) | (refine ACode.s_exit ?_; conv => whnf) | (refine ACode.s_ret ?_; conv => whnf) | (refine ACode.s_skip ?_; conv => whnf) | (refine ACode.s_label ?_; conv => whnf))
        refine ⟨rfl, ?_⟩
        conv => whnf
        refine ⟨⟨by simp [strs], by simp [strs]; omega⟩, ?_⟩
        conv => whnf
        repeat (first | refine ACode.seq ?_ | (refine ACode.s_reg tys_ok ?_; conv => whnf) | refine ACode.s_block ?_ | refine ACode.s_scope ?_ | (refine ACode.s_cond ?_; conv => whnf) | (refine ACode.s_exit ?_; conv => whnf) | (refine ACode.s_ret ?_; conv => whnf) | (refine ACode.s_skip ?_; conv => whnf) | (refine ACode.s_label ?_; conv => whnf))
        refine ⟨(d ++ [t], [], k + 1), ?_⟩
        conv => whnf
        repeat (refine And.intro ?_ ?_; (focus (first | rfl | (simp; done) | (first | exact hw | (simp [strs]; done); done))); conv => whnf)
        refine ⟨⟨by simp only; omega, ?_, by simp, by simp, by simp; omega⟩, by show s.length - (k + 1) < s.length - k; omega⟩
        simp [he]
      · have h3 : s[k] ≠ 32 := fun e => by rw [e] at h3; simp at h3
        conv => whnf
        repeat (first | refine ACode.seq ?_ | (refine ACode.s_reg tys_ok ?_; conv => whnf) | refine ACode.s_block ?_ | refine ACode.s_scope ?_ | (refine ACode.s_cond ?_; conv => whnf) | (refine ACode.s_exit ?_; conv => whnf) | (refine ACode.s_ret ?_; conv => whnf) | (refine ACode.s_skip ?_; conv => whnf) | (refine ACode.s_label ?_; conv => whnf))
        have hd : List.drop (k : Int).toNat (List.take (Wr .i64 ((k : Int) + 1)).toNat s) = [s[k]] := by
          rw [hw, Int.toNat_natCast, Int.toNat_natCast, List.take_succ_eq_append_getElem h, List.drop_append_of_le_length (by simp; omega), List.drop_of_length_le (by simp; omega), List.nil_append]
        refine ⟨by rw [hw]; omega, ?_⟩
        rw [hd]
        conv => whnf
        repeat (first | refine ACode.seq ?_ | (refine ACode.s_reg tys_ok ?_; conv => whnf) | refine ACode.s_block ?_ | refine ACode.s_scope ?_ | (refine ACode.s_cond ?_; conv => whnf) | (refine ACode.s_exit ?_; conv => whnf) | (refine ACode.s_ret ?_; conv => whnf) | (refine ACode.s_skip ?_; conv => whnf) | (refine ACode.s_label ?_; conv => whnf))
        refine ⟨by simp; omega, ?_⟩
        conv => whnf
        repeat (first | refine ACode.seq ?_ | (refine ACode.s_reg tys_ok ?_; conv => whnf) | refine ACode.s_block ?_ | refine ACode.s_scope ?_ | (refine ACode.s_cond ?_; conv => whnf) | (refine ACode.s_exit ?_; conv => whnf) | (refine ACode.s_ret ?_; conv => whnf) | (refine ACode.s_skip ?_; conv => whnf) | (refine ACode.s_label ?_; conv => whnf))
        refine ⟨(d, t ++ [s[k]], k + 1), ?_⟩
        conv => whnf
        repeat (refine And.intro ?_ ?_; (focus (first | rfl | (simp; done) | (first | exact hw | (simp [strs]; done); done))); conv => whnf)
        refine ⟨⟨by simp only; omega, ?_, ?_, by simp; omega, by simp; omega⟩, by show s.length - (k + 1) < s.length - k; omega⟩
        · simp [he]
        · simp only [List.mem_append, List.mem_singleton, not_or]
          exact ⟨hf, Ne.symm h3⟩
    · have h : k = s.length := by simp at h; omega
      rw [h, List.drop_length, List.append_nil, splitB_none hf] at he
      conv => whnf
      repeat (first | refine ACode.seq ?_ | (refine ACode.s_reg tys_ok ?_; conv => whnf) | refine ACode.s_block ?_ | refine ACode.s_scope ?_ | (refine ACode.s_cond ?_; conv => whnf) | (refine ACode.s_exit ?_; conv => whnf) | (refine ACode.s_ret ?_; conv => whnf) | (refine ACode.s_skip ?_; conv => whnf) | (refine ACode.s_label ?_; conv => whnf))
      refine ⟨rfl, ?_⟩
      conv => whnf
      refine ⟨⟨by simp [strs], by simp [strs]; omega⟩, ?_⟩
      conv => whnf
      repeat (first | refine ACode.seq ?_ | (refine ACode.s_reg tys_ok ?_; conv => whnf) | refine ACode.s_block ?_ | refine ACode.s_scope ?_ | (refine ACode.s_cond ?_; conv => whnf) | (refine ACode.s_exit ?_; conv => whnf) | (refine ACode.s_ret ?_; conv => whnf) | (refine ACode.s_skip ?_; conv => whnf) | (refine ACode.s_label ?_; conv => whnf))
      refine ⟨⟨by simp [strs], ?_⟩, ?_⟩
      · intro e he
        rcases List.mem_append.1 he with he | he
        · exact closed_strs d e he
        · rw [List.mem_singleton.1 he]; rfl
      · show AV.sl 1 _ = _
        rw [he]
        simp [strs]
set_option maxRecDepth 100000 in
theorem number_spec (s : Bs) (hs : s.length ≤ 100000) : Ctr Tryz.prog 29 [.str s] (fun r => r = .int .i64 (numR s)) := by
  refine Ctr.of_body Tryz.func29 rfl tys_ok (by kernel_rfl) ?_
  conv => whnf
  repeat (first | refine ACode.seq ?_ | (refine ACode.s_reg tys_ok ?_; conv => whnf) | refine ACode.s_block ?_ | refine ACode.s_scope ?_ | (refine ACode.s_cond ?_; conv => whnf) | (refine ACode.s_exit ?_; conv => whnf) | (refine ACode.s_ret ?_; conv => whnf) | (refine ACode.s_skip ?_; conv => whnf) | (refine ACode.s_label ?_; conv => whnf))
  repeat' (first | (refine And.intro (fun _ => ?_) (fun _ => ?_) <;> conv => whnf) | refine ACode.seq ?_ | (refine ACode.s_reg tys_ok ?_; conv => whnf) | refine ACode.s_block ?_ | refine ACode.s_scope ?_ | (refine ACode.s_cond ?_; conv => whnf) | (refine ACode.s_exit ?_; conv => whnf) | (refine ACode.s_ret ?_; conv => whnf) | (refine ACode.s_skip ?_; conv => whnf) | (refine ACode.s_label ?_; conv => whnf))
  · have hl : 1 ≤ s.length ∧ s.length ≤ 7 := by simp_all; omega
    have h0 : s.getD (Int.toNat 0) 0 = s[0] := by have : 0 < s.length := by omega
                                                  simp [List.getD, this]
    have e48 : (48 : UInt8).toNat = 48 := rfl
    have e0 : s[0]? = some s[0] := List.getElem?_eq_getElem (by omega)
    refine ⟨by omega, ?_⟩
    rw [h0]
    conv => whnf
    repeat (first | refine ACode.seq ?_ | (refine ACode.s_reg tys_ok ?_; conv => whnf) | refine ACode.s_block ?_ | refine ACode.s_scope ?_ | (refine ACode.s_cond ?_; conv => whnf) | (refine ACode.s_exit ?_; conv => whnf) | (refine ACode.s_ret ?_; conv => whnf) | (refine ACode.s_skip ?_; conv => whnf) | (refine ACode.s_label ?_; conv => whnf))
    repeat' (first | (refine And.intro (fun _ => ?_) (fun _ => ?_) <;> conv => whnf) | refine ACode.seq ?_ | (refine ACode.s_reg tys_ok ?_; conv => whnf) | refine ACode.s_block ?_ | refine ACode.s_scope ?_ | (refine ACode.s_cond ?_; conv => whnf) | (refine ACode.s_exit ?_; conv => whnf) | (refine ACode.s_ret ?_; conv => whnf) | (refine ACode.s_skip ?_; conv => whnf) | (refine ACode.s_label ?_; conv => whnf))
    · refine congrArg _ ?_
      unfold numR
      rw [if_neg]
      rename_i h1 h2
      have h1 : s[0] = 48 := UInt8.toNat_inj.1 (by simp at h1; omega)
      have h2 : 1 < s.length := by simp at h2; omega
      simp [e0, h1, h2]
    · rename_i h1 h2
      have hz : ¬ (s[0]? = some 48 ∧ 1 < s.length) := fun ⟨_, h3⟩ => by simp at h2; omega
      refine ACode.loopD (fun k : Nat => mk 50 [(0, .str s), (3, .int .i64 (valB (s.take k))), (4, .int .i64 k)]) (fun _ => []) (fun k => k ≤ s.length ∧ ∀ c ∈ s.take k, digB c = true) (fun k => s.length - k) (fun _ _ => ⟨rfl, trivial⟩) ⟨0, ?_⟩ (fun _ => rfl) fun k hk => ?_
      · conv => whnf
        repeat (refine And.intro ?_ ?_; (focus (first | rfl | (simp; done))); conv => whnf)
        simp
      · obtain ⟨hk, hdg⟩ := hk
        have hlt := val_lt (s.take k) hdg k (by simp; omega)
        rw [List.take_take, Nat.min_self] at hlt
        have hp : 10 ^ k ≤ 10 ^ 7 := Nat.pow_le_pow_right (by omega) (by omega)
        repeat (first | refine ACode.seq ?_ | (refine ACode.s_reg tys_ok ?_; conv => whnf) | refine ACode.s_block ?_ | refine ACode.s_scope ?_ | (refine ACode.s_cond ?_; conv => whnf) | (refine ACode.s_exit ?_; conv => whnf) | (refine ACode.s_ret ?_; conv => whnf) | (refine ACode.s_skip ?_; conv => whnf) | (refine ACode.s_label ?_; conv => whnf))
        refine ⟨fun h => ?_, fun h => ?_⟩
        · have h : k < s.length := by simpa using h
          have hg : s.getD (k : Int).toNat 0 = s[k] := by simp [List.getD, h]
          conv => whnf
          repeat (first | refine ACode.seq ?_ | (refine ACode.s_reg tys_ok ?_; conv => whnf) | refine ACode.s_block ?_ | refine ACode.s_scope ?_ | (refine ACode.s_cond ?_; conv => whnf) | (refine ACode.s_exit ?_; conv => whnf) | (refine ACode.s_ret ?_; conv => whnf) | (refine ACode.s_skip ?_; conv => whnf) | (refine ACode.s_label ?_; conv => whnf))
          refine ⟨⟨by omega, by omega⟩, ?_⟩
          rw [hg]
          conv => whnf
          repeat (first | refine ACode.seq ?_ | (refine ACode.s_reg tys_ok ?_; conv => whnf) | refine ACode.s_block ?_ | refine ACode.s_scope ?_ | (refine ACode.s_cond ?_; conv => whnf) | (refine ACode.s_exit ?_; conv => whnf) | (refine ACode.s_ret ?_; conv => whnf) | (refine ACode.s_skip ?_; conv => whnf) | (refine ACode.s_label ?_; conv => whnf))
          have hnd : digB s[k] = false → numR s = -1 := fun hn => by
            unfold numR
            rw [if_neg]
            have : s.all digB = false := List.all_eq_false.2 ⟨s[k], List.getElem_mem h, by simp [hn]⟩
            simp [this]
          repeat' (first | (refine And.intro (fun _ => ?_) (fun _ => ?_) <;> conv => whnf) | refine ACode.seq ?_ | (refine ACode.s_reg tys_ok ?_; conv => whnf) | refine ACode.s_block ?_ | refine ACode.s_scope ?_ | (refine ACode.s_cond ?_; conv => whnf) | (refine ACode.s_exit ?_; conv => whnf) | (refine ACode.s_ret ?_; conv => whnf) | (refine ACode.s_skip ?_; conv => whnf) | (refine ACode.s_label ?_; conv => whnf))
          · refine ⟨⟨by omega, by omega⟩, ?_⟩
            rw [hg]
            conv => whnf
            repeat (first | refine ACode.seq ?_ | (refine ACode.s_reg tys_ok ?_; conv => whnf) | refine ACode.s_block ?_ | refine ACode.s_scope ?_ | (refine ACode.s_cond ?_; conv => whnf) | (refine ACode.s_exit ?_; conv => whnf) | (refine ACode.s_ret ?_; conv => whnf) | (refine ACode.s_skip ?_; conv => whnf) | (refine ACode.s_label ?_; conv => whnf))
            repeat' (first | (refine And.intro (fun _ => ?_) (fun _ => ?_) <;> conv => whnf) | refine ACode.seq ?_ | (refine ACode.s_reg tys_ok ?_; conv => whnf) | refine ACode.s_block ?_ | refine ACode.s_scope ?_ | (refine ACode.s_cond ?_; conv => whnf) | (refine ACode.s_exit ?_; conv => whnf) | (refine ACode.s_ret ?_; conv => whnf) | (refine ACode.s_skip ?_; conv => whnf) | (refine ACode.s_label ?_; conv => whnf))
            · rename_i h5
              have h5 : 57 < s[k].toNat := by simp at h5; omega
              exact congrArg _ (hnd (by unfold digB; simp; omega)).symm
            · rename_i h4 h5
              have h5 : 48 ≤ s[k].toNat ∧ s[k].toNat ≤ 57 := by simp at h4 h5; omega
              have ht : valB (s.take (k + 1)) = 10 * valB (s.take k) + (s[k].toNat - 48) := by rw [List.take_succ_eq_append_getElem h, val_snoc]
              refine ⟨⟨by omega, by omega⟩, ?_⟩
              rw [hg]
              conv => whnf
              repeat (first | refine ACode.seq ?_ | (refine ACode.s_reg tys_ok ?_; conv => whnf) | refine ACode.s_block ?_ | refine ACode.s_scope ?_ | (refine ACode.s_cond ?_; conv => whnf) | (refine ACode.s_exit ?_; conv => whnf) | (refine ACode.s_ret ?_; conv => whnf) | (refine ACode.s_skip ?_; conv => whnf) | (refine ACode.s_label ?_; conv => whnf))
              have w1 : Wr .i64 (10 * (valB (s.take k) : Int)) = 10 * (valB (s.take k) : Int) := Wr64 _ (by omega) (by omega)
              have w2 : Wr .u8 ((s[k].toNat : Int) - 48) = (s[k].toNat : Int) - 48 := by unfold Wr; simp [IntKind.wrap, IntKind.bits, IntKind.signed]; omega
              have w3 : Wr .i64 (Wr .i64 (10 * (valB (s.take k) : Int)) + Wr .i64 (Wr .u8 ((s[k].toNat : Int) - 48))) = (valB (s.take (k + 1)) : Int) := by
                rw [w1, w2, Wr64 ((s[k].toNat : Int) - 48) (by omega) (by omega), Wr64 _ (by omega) (by omega), ht]; omega
              refine ⟨k + 1, ?_⟩
              conv => whnf
              repeat (refine And.intro ?_ ?_; (focus (first | rfl | (simp; done) | (first | exact w3 | (rw [Wr64 _ (by omega) (by omega)]; done) | (rw [Wr64 _ (by omega) (by omega)]; rfl); done))); conv => whnf)
              refine ⟨⟨by omega, fun c hc => ?_⟩, by omega⟩
              rw [List.take_succ_eq_append_getElem h] at hc
              rcases List.mem_append.1 hc with hc | hc
              · exact hdg c hc
              · rw [List.mem_singleton.1 hc]; unfold digB; simp; omega
          · rename_i h4
            have h4 : s[k].toNat < 48 := by simp at h4; omega
            exact congrArg _ (hnd (by unfold digB; simp; omega)).symm
        · have h : k = s.length := by simp at h; omega
          rw [h, List.take_length] at hdg
          rw [h, List.take_length]
          repeat' (first | (refine And.intro (fun _ => ?_) (fun _ => ?_) <;> conv => whnf) | refine ACode.seq ?_ | (refine ACode.s_reg tys_ok ?_; conv => whnf) | refine ACode.s_block ?_ | refine ACode.s_scope ?_ | (refine ACode.s_cond ?_; conv => whnf) | (refine ACode.s_exit ?_; conv => whnf) | (refine ACode.s_ret ?_; conv => whnf) | (refine ACode.s_skip ?_; conv => whnf) | (refine ACode.s_label ?_; conv => whnf))
          · refine congrArg _ ?_
            rename_i h5
            have h5 : ¬ valB s ≤ 1000000 := by simp at h5; omega
            unfold numR
            rw [if_neg (by simp [h5])]
          · refine congrArg _ ?_
            rename_i h5
            have h5 : valB s ≤ 1000000 := by simp at h5; omega
            unfold numR
            rw [if_pos]
            simp only [Bool.and_eq_true, decide_eq_true_eq, Bool.not_eq_true', Bool.and_eq_false_iff, decide_eq_false_iff_not, List.all_eq_true]
            exact ⟨⟨⟨hl, Decidable.not_and_iff_or_not.1 hz⟩, hdg⟩, h5⟩
    · rename_i h1
      have hz : ¬ (s[0]? = some 48 ∧ 1 < s.length) := fun ⟨h3, _⟩ => by rw [e0] at h3; injection h3 with h3; rw [h3] at h1; simp at h1
      refine ACode.loopD (fun k : Nat => mk 50 [(0, .str s), (3, .int .i64 (valB (s.take k))), (4, .int .i64 k)]) (fun _ => []) (fun k => k ≤ s.length ∧ ∀ c ∈ s.take k, digB c = true) (fun k => s.length - k) (fun _ _ => ⟨rfl, trivial⟩) ⟨0, ?_⟩ (fun _ => rfl) fun k hk => ?_
      · conv => whnf
        repeat (refine And.intro ?_ ?_; (focus (first | rfl | (simp; done))); conv => whnf)
        simp
      · obtain ⟨hk, hdg⟩ := hk
        have hlt := val_lt (s.take k) hdg k (by simp; omega)
        rw [List.take_take, Nat.min_self] at hlt
        have hp : 10 ^ k ≤ 10 ^ 7 := Nat.pow_le_pow_right (by omega) (by omega)
        repeat (first | refine ACode.seq ?_ | (refine ACode.s_reg tys_ok ?_; conv => whnf) | refine ACode.s_block ?_ | refine ACode.s_scope ?_ | (refine ACode.s_cond ?_; conv => whnf) | (refine ACode.s_exit ?_; conv => whnf) | (refine ACode.s_ret ?_; conv => whnf) | (refine ACode.s_skip ?_; conv => whnf) | (refine ACode.s_label ?_; conv => whnf))
        refine ⟨fun h => ?_, fun h => ?_⟩
        · have h : k < s.length := by simpa using h
          have hg : s.getD (k : Int).toNat 0 = s[k] := by simp [List.getD, h]
          conv => whnf
          repeat (first | refine ACode.seq ?_ | (refine ACode.s_reg tys_ok ?_; conv => whnf) | refine ACode.s_block ?_ | refine ACode.s_scope ?_ | (refine ACode.s_cond ?_; conv => whnf) | (refine ACode.s_exit ?_; conv => whnf) | (refine ACode.s_ret ?_; conv => whnf) | (refine ACode.s_skip ?_; conv => whnf) | (refine ACode.s_label ?_; conv => whnf))
          refine ⟨⟨by omega, by omega⟩, ?_⟩
          rw [hg]
          conv => whnf
          repeat (first | refine ACode.seq ?_ | (refine ACode.s_reg tys_ok ?_; conv => whnf) | refine ACode.s_block ?_ | refine ACode.s_scope ?_ | (refine ACode.s_cond ?_; conv => whnf) | (refine ACode.s_exit ?_; conv => whnf) | (refine ACode.s_ret ?_; conv => whnf) | (refine ACode.s_skip ?_; conv => whnf) | (refine ACode.s_label ?_; conv => whnf))
          have hnd : digB s[k] = false → numR s = -1 := fun hn => by
            unfold numR
            rw [if_neg]
            have : s.all digB = false := List.all_eq_false.2 ⟨s[k], List.getElem_mem h, by simp [hn]⟩
            simp [this]
          repeat' (first | (refine And.intro (fun _ => ?_) (fun _ => ?_) <;> conv => whnf) | refine ACode.seq ?_ | (refine ACode.s_reg tys_ok ?_; conv => whnf) | refine ACode.s_block ?_ | refine ACode.s_scope ?_ | (refine ACode.s_cond ?_; conv => whnf) | (refine ACode.s_exit ?_; conv => whnf) | (refine ACode.s_ret ?_; conv => whnf) | (refine ACode.s_skip ?_; conv => whnf) | (refine ACode.s_label ?_; conv => whnf))
          · refine ⟨⟨by omega, by omega⟩, ?_⟩
            rw [hg]
            conv => whnf
            repeat (first | refine ACode.seq ?_ | (refine ACode.s_reg tys_ok ?_; conv => whnf) | refine ACode.s_block ?_ | refine ACode.s_scope ?_ | (refine ACode.s_cond ?_; conv => whnf) | (refine ACode.s_exit ?_; conv => whnf) | (refine ACode.s_ret ?_; conv => whnf) | (refine ACode.s_skip ?_; conv => whnf) | (refine ACode.s_label ?_; conv => whnf))
            repeat' (first | (refine And.intro (fun _ => ?_) (fun _ => ?_) <;> conv => whnf) | refine ACode.seq ?_ | (refine ACode.s_reg tys_ok ?_; conv => whnf) | refine ACode.s_block ?_ | refine ACode.s_scope ?_ | (refine ACode.s_cond ?_; conv => whnf) | (refine ACode.s_exit ?_; conv => whnf) | (refine ACode.s_ret ?_; conv => whnf) | (refine ACode.s_skip ?_; conv => whnf) | (refine ACode.s_label ?_; conv => whnf))
            · rename_i h5
              have h5 : 57 < s[k].toNat := by simp at h5; omega
              exact congrArg _ (hnd (by unfold digB; simp; omega)).symm
            · rename_i h4 h5
              have h5 : 48 ≤ s[k].toNat ∧ s[k].toNat ≤ 57 := by simp at h4 h5; omega
              have ht : valB (s.take (k + 1)) = 10 * valB (s.take k) + (s[k].toNat - 48) := by rw [List.take_succ_eq_append_getElem h, val_snoc]
              refine ⟨⟨by omega, by omega⟩, ?_⟩
              rw [hg]
              conv => whnf
              repeat (first | refine ACode.seq ?_ | (refine ACode.s_reg tys_ok ?_; conv => whnf) | refine ACode.s_block ?_ | refine ACode.s_scope ?_ | (refine ACode.s_cond ?_; conv => whnf) | (refine ACode.s_exit ?_; conv => whnf) | (refine ACode.s_ret ?_; conv => whnf) | (refine ACode.s_skip ?_; conv => whnf) | (refine ACode.s_label ?_; conv => whnf))
              have w1 : Wr .i64 (10 * (valB (s.take k) : Int)) = 10 * (valB (s.take k) : Int) := Wr64 _ (by omega) (by omega)
              have w2 : Wr .u8 ((s[k].toNat : Int) - 48) = (s[k].toNat : Int) - 48 := by unfold Wr; simp [IntKind.wrap, IntKind.bits, IntKind.signed]; omega
              have w3 : Wr .i64 (Wr .i64 (10 * (valB (s.take k) : Int)) + Wr .i64 (Wr .u8 ((s[k].toNat : Int) - 48))) = (valB (s.take (k + 1)) : Int) := by
                rw [w1, w2, Wr64 ((s[k].toNat : Int) - 48) (by omega) (by omega), Wr64 _ (by omega) (by omega), ht]; omega
              refine ⟨k + 1, ?_⟩
              conv => whnf
              repeat (refine And.intro ?_ ?_; (focus (first | rfl | (simp; done) | (first | exact w3 | (rw [Wr64 _ (by omega) (by omega)]; done) | (rw [Wr64 _ (by omega) (by omega)]; rfl); done))); conv => whnf)
              refine ⟨⟨by omega, fun c hc => ?_⟩, by omega⟩
              rw [List.take_succ_eq_append_getElem h] at hc
              rcases List.mem_append.1 hc with hc | hc
              · exact hdg c hc
              · rw [List.mem_singleton.1 hc]; unfold digB; simp; omega
          · rename_i h4
            have h4 : s[k].toNat < 48 := by simp at h4; omega
            exact congrArg _ (hnd (by unfold digB; simp; omega)).symm
        · have h : k = s.length := by simp at h; omega
          rw [h, List.take_length] at hdg
          rw [h, List.take_length]
          repeat' (first | (refine And.intro (fun _ => ?_) (fun _ => ?_) <;> conv => whnf) | refine ACode.seq ?_ | (refine ACode.s_reg tys_ok ?_; conv => whnf) | refine ACode.s_block ?_ | refine ACode.s_scope ?_ | (refine ACode.s_cond ?_; conv => whnf) | (refine ACode.s_exit ?_; conv => whnf) | (refine ACode.s_ret ?_; conv => whnf) | (refine ACode.s_skip ?_; conv => whnf) | (refine ACode.s_label ?_; conv => whnf))
          · refine congrArg _ ?_
            rename_i h5
            have h5 : ¬ valB s ≤ 1000000 := by simp at h5; omega
            unfold numR
            rw [if_neg (by simp [h5])]
          · refine congrArg _ ?_
            rename_i h5
            have h5 : valB s ≤ 1000000 := by simp at h5; omega
            unfold numR
            rw [if_pos]
            simp only [Bool.and_eq_true, decide_eq_true_eq, Bool.not_eq_true', Bool.and_eq_false_iff, decide_eq_false_iff_not, List.all_eq_true]
            exact ⟨⟨⟨hl, Decidable.not_and_iff_or_not.1 hz⟩, hdg⟩, h5⟩
  · exact congrArg _ (by unfold numR; rw [if_neg]; simp_all; omega)
  · exact congrArg _ (by unfold numR; rw [if_neg]; simp_all; omega)
end Go.Proofs.YtiojkoaefabjbaaGreatDoor
