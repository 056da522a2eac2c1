/-
  The reference: bytes, Fit, Upper, pattern, named, part, Code, Number, joined.
-/
import Derived.Test.YtbodeejogdckgaaGreatDoorF8
set_option linter.unusedVariables false
set_option linter.unusedSimpArgs false
namespace Go.Proofs.YtbodeejogdckgaaGreatDoor
open Go.Av Go.Shelf Pl
theorem rletter_spec (b : UInt8) : Ctr Tryz.prog 49 [.int .u8 b.toNat] (fun r => r = .bool (letterB b)) := by
  refine Ctr.of_body Tryz.func49 rfl tys_ok (by kernel_rfl) ?_
  conv => whnf
  repeat (first | refine ACode.seq ?_ | (refine ACode.s_reg tys_ok ?_; conv => whnf) | refine ACode.s_block ?_ | refine ACode.s_scope ?_ | (refine ACode.s_cond ?_; conv => whnf) | (refine ACode.s_exit ?_; conv => whnf) | (refine ACode.s_ret ?_; conv => whnf) | (refine ACode.s_skip ?_; conv => whnf) | (refine ACode.s_label ?_; conv => whnf))
  repeat' (first | (refine And.intro (fun _ => ?_) (fun _ => ?_) <;> conv => whnf) | refine ACode.seq ?_ | (refine ACode.s_reg tys_ok ?_; conv => whnf) | refine ACode.s_block ?_ | refine ACode.s_scope ?_ | (refine ACode.s_cond ?_; conv => whnf) | (refine ACode.s_exit ?_; conv => whnf) | (refine ACode.s_ret ?_; conv => whnf) | (refine ACode.s_skip ?_; conv => whnf) | (refine ACode.s_label ?_; conv => whnf))
  all_goals (refine congrArg AV.bool ?_; rw [Bool.eq_iff_iff]; simp_all [letterB, smallB, capB] <;> omega)
theorem rdigit_spec (b : UInt8) : Ctr Tryz.prog 50 [.int .u8 b.toNat] (fun r => r = .bool (digB b)) := by
  refine Ctr.of_body Tryz.func50 rfl tys_ok (by kernel_rfl) ?_
  conv => whnf
  repeat (first | refine ACode.seq ?_ | (refine ACode.s_reg tys_ok ?_; conv => whnf) | refine ACode.s_block ?_ | refine ACode.s_scope ?_ | (refine ACode.s_cond ?_; conv => whnf) | (refine ACode.s_exit ?_; conv => whnf) | (refine ACode.s_ret ?_; conv => whnf) | (refine ACode.s_skip ?_; conv => whnf) | (refine ACode.s_label ?_; conv => whnf))
  repeat' (first | (refine And.intro (fun _ => ?_) (fun _ => ?_) <;> conv => whnf) | refine ACode.seq ?_ | (refine ACode.s_reg tys_ok ?_; conv => whnf) | refine ACode.s_block ?_ | refine ACode.s_scope ?_ | (refine ACode.s_cond ?_; conv => whnf) | (refine ACode.s_exit ?_; conv => whnf) | (refine ACode.s_ret ?_; conv => whnf) | (refine ACode.s_skip ?_; conv => whnf) | (refine ACode.s_label ?_; conv => whnf))
  all_goals (refine congrArg AV.bool ?_; rw [Bool.eq_iff_iff]; simp_all [digB] <;> omega)
set_option maxRecDepth 100000 in
theorem rfit_spec (w : Bs) (hw : w.length ≤ 100000) : Ctr Tryz.prog 26 [.str w] (fun r => r = .bool (fitB w)) := by
  refine Ctr.of_body Tryz.func26 rfl tys_ok (by kernel_rfl) ?_
  conv => whnf
  repeat (first | refine ACode.seq ?_ | (refine ACode.s_reg tys_ok ?_; conv => whnf) | refine ACode.s_block ?_ | refine ACode.s_scope ?_ | (refine ACode.s_cond ?_; conv => whnf) | (refine ACode.s_exit ?_; conv => whnf) | (refine ACode.s_ret ?_; conv => whnf) | (refine ACode.s_skip ?_; conv => whnf) | (refine ACode.s_label ?_; conv => whnf))
  repeat' (first | (refine And.intro (fun _ => ?_) (fun _ => ?_) <;> conv => whnf) | refine ACode.seq ?_ | (refine ACode.s_reg tys_ok ?_; conv => whnf) | refine ACode.s_block ?_ | refine ACode.s_scope ?_ | (refine ACode.s_cond ?_; conv => whnf) | (refine ACode.s_exit ?_; conv => whnf) | (refine ACode.s_ret ?_; conv => whnf) | (refine ACode.s_skip ?_; conv => whnf) | (refine ACode.s_label ?_; conv => whnf))
  · exact congrArg AV.bool (by rename_i h1 h2; simp at h2; unfold fitB; rw [decide_eq_false (show ¬ w.length ≤ 20 by omega)]; simp)
  · rename_i h1 h2
    have h1 : 1 ≤ w.length := by simp at h1; omega
    have h2 : w.length ≤ 20 := by simp at h2; omega
    have hf : fitB w = w.all fitC := by unfold fitB; simp [h1, h2]
    refine ACode.loopD (fun k : Nat => mk 48 [(0, .str w), (2, .lit false), (3, .int .i64 k)]) (fun _ => []) (fun k => k ≤ w.length ∧ (w.take k).all fitC = true) (fun k => w.length - k) (fun _ _ => ⟨rfl, trivial⟩) ⟨0, ?_⟩ (fun _ => rfl) fun k hk => ?_
    · conv => whnf
      repeat (refine And.intro ?_ ?_; (focus (first | rfl | (simp; done))); conv => whnf)
      simp
    · obtain ⟨hk, ha⟩ := hk
      repeat (first | refine ACode.seq ?_ | (refine ACode.s_reg tys_ok ?_; conv => whnf) | refine ACode.s_block ?_ | refine ACode.s_scope ?_ | (refine ACode.s_cond ?_; conv => whnf) | (refine ACode.s_exit ?_; conv => whnf) | (refine ACode.s_ret ?_; conv => whnf) | (refine ACode.s_skip ?_; conv => whnf) | (refine ACode.s_label ?_; conv => whnf))
      refine ⟨fun h => ?_, fun h => ?_⟩
      · have h : k < w.length := by simpa using h
        have hw1 : Wr .i64 ((k : Int) + 1) = ((k + 1 : Nat) : Int) := by rw [Wr64 _ (by omega) (by omega)]; rfl
        have hgk : w.getD (k : Int).toNat 0 = w[k] := by simp [List.getD, h]
        have hfc : fitC w[k] = (letterB w[k] || digB w[k] || decide (w[k].toNat = 45) || decide (w[k].toNat = 39) || decide (w[k].toNat = 46)) := rfl
        have ht := all_take fitC w k h
        have hff := all_false fitC w k h
        conv => whnf
        repeat (first | refine ACode.seq ?_ | (refine ACode.s_reg tys_ok ?_; conv => whnf) | refine ACode.s_block ?_ | refine ACode.s_scope ?_ | (refine ACode.s_cond ?_; conv => whnf) | (refine ACode.s_exit ?_; conv => whnf) | (refine ACode.s_ret ?_; conv => whnf) | (refine ACode.s_skip ?_; conv => whnf) | (refine ACode.s_label ?_; conv => whnf))
        repeat' (first | (refine And.intro (fun _ => ?_) (fun _ => ?_) <;> conv => whnf) | (refine And.intro ⟨by omega, by omega⟩ ?_; (conv => whnf); first | rw [hgk]) | (refine ACall.of_spec (rletter_spec w[k]) rfl fun r hr => ?_; subst hr; conv => whnf) | (refine ACall.of_spec (rdigit_spec w[k]) rfl fun r hr => ?_; subst hr; conv => whnf) | refine ACode.seq ?_ | (refine ACode.s_reg tys_ok ?_; conv => whnf) | refine ACode.s_block ?_ | refine ACode.s_scope ?_ | (refine ACode.s_cond ?_; conv => whnf) | (refine ACode.s_exit ?_; conv => whnf) | (refine ACode.s_ret ?_; conv => whnf) | (refine ACode.s_skip ?_; conv => whnf) | (refine ACode.s_label ?_; conv => whnf))
        all_goals first
          | (refine congrArg AV.bool ?_
             have hn : fitC w[k] = false := by rw [hfc]; clear ha ht hff hf; simp_all <;> omega
             rw [hf, hff hn])
          | (have hy : fitC w[k] = true := by rw [hfc]; clear ha ht hff hf; simp_all <;> omega
             refine ⟨k + 1, ?_⟩
             conv => whnf
             repeat (refine And.intro ?_ ?_; (focus (first | rfl | (simp; done) | (first | exact hw1; done))); conv => whnf)
             exact ⟨⟨by omega, by rw [ht, ha, hy]; rfl⟩, by omega⟩)
          | trace_state
      · have h : k = w.length := by simp at h; omega
        rw [h, List.take_length] at ha
        conv => whnf
        repeat (first | refine ACode.seq ?_ | (refine ACode.s_reg tys_ok ?_; conv => whnf) | refine ACode.s_block ?_ | refine ACode.s_scope ?_ | (refine ACode.s_cond ?_; conv => whnf) | (refine ACode.s_exit ?_; conv => whnf) | (refine ACode.s_ret ?_; conv => whnf) | (refine ACode.s_skip ?_; conv => whnf) | (refine ACode.s_label ?_; conv => whnf))
        exact congrArg AV.bool (by rw [hf, ha])
  · exact congrArg AV.bool (by rename_i h1; simp at h1; unfold fitB; rw [decide_eq_false (show ¬ 1 ≤ w.length by omega)]; simp)
theorem up_small {c : UInt8} (h1 : 97 ≤ c.toNat) (h2 : c.toNat ≤ 122) : Wr .u8 ((c.toNat : Int) - 32) = ((upC c).toNat : Int) := by
  have hs : smallB c = true := by simp [smallB, h1, h2]
  have e : (upC c).toNat = c.toNat - 32 := by
    unfold upC
    rw [if_pos hs, UInt8.toNat_sub_of_le _ _ (by rw [UInt8.le_iff_toNat_le]; show 32 ≤ _; omega)]
    rfl
  rw [e]
  unfold Wr
  simp [IntKind.wrap, IntKind.bits, IntKind.signed]
  omega
theorem up_other {c : UInt8} (h : c.toNat < 97 ∨ 122 < c.toNat) : ((c.toNat : Nat) : Int) = ((upC c).toNat : Int) := by
  have hs : smallB c = false := by simp [smallB]; omega
  unfold upC
  rw [if_neg (by rw [hs]; simp)]
set_option maxRecDepth 100000 in
theorem rupper_spec (w : Bs) (hw : w.length ≤ 100000) : Ctr Tryz.prog 23 [.str w] (fun r => r = .str (upB w)) := by
  refine Ctr.of_body Tryz.func23 rfl tys_ok (by kernel_rfl) ?_
  conv => whnf
  repeat (first | refine ACode.seq ?_ | (refine ACode.s_reg tys_ok ?_; conv => whnf) | refine ACode.s_block ?_ | refine ACode.s_scope ?_ | (refine ACode.s_cond ?_; conv => whnf) | (refine ACode.s_exit ?_; conv => whnf) | (refine ACode.s_ret ?_; conv => whnf) | (refine ACode.s_skip ?_; conv => whnf) | (refine ACode.s_label ?_; conv => whnf))
  refine ACode.loopD (fun k : Nat => mk 30 [(0, .str w), (3, .own 0 1 0 k), (4, .int .i64 k)]) (fun k => [.arr 5 1 (bytesA (upB (w.take k)))]) (fun k => k ≤ w.length) (fun k => w.length - k) (fun _ _ => ⟨rfl, fun x hx => by obtain ⟨y, _, rfl⟩ := List.mem_map.1 hx; rfl, trivial⟩) ⟨0, ?_⟩ (fun _ => rfl) fun k hk => ?_
  · conv => whnf
    repeat (refine And.intro ?_ ?_; (focus (first | rfl | (simp; done))); conv => whnf)
    exact Nat.zero_le _
  · repeat (first | refine ACode.seq ?_ | (refine ACode.s_reg tys_ok ?_; conv => whnf) | refine ACode.s_block ?_ | refine ACode.s_scope ?_ | (refine ACode.s_cond ?_; conv => whnf) | (refine ACode.s_exit ?_; conv => whnf) | (refine ACode.s_ret ?_; conv => whnf) | (refine ACode.s_skip ?_; conv => whnf) | (refine ACode.s_label ?_; conv => whnf))
    refine ⟨fun h => ?_, fun h => ?_⟩
    · have h : k < w.length := by simpa using h
      have hw1 : Wr .i64 ((k : Int) + 1) = ((k + 1 : Nat) : Int) := by rw [Wr64 _ (by omega) (by omega)]; rfl
      have hgk : w.getD (k : Int).toNat 0 = w[k] := by simp [List.getD, h]
      have hlu : (upB (w.take k)).length = k := by simp [upB]; omega
      have hap : bytesA (upB (w.take k)) ++ [AV.int .u8 (upC w[k]).toNat] = bytesA (upB (w.take (k + 1))) := by
        unfold upB
        rw [List.take_succ_eq_append_getElem h, List.map_append, bytesA, bytesA, List.map_append]; rfl
      have hlb : (bytesA (upB (w.take k))).length = k := by rw [bytes_len, hlu]
      conv => whnf
      repeat (first | refine ACode.seq ?_ | (refine ACode.s_reg tys_ok ?_; conv => whnf) | refine ACode.s_block ?_ | refine ACode.s_scope ?_ | (refine ACode.s_cond ?_; conv => whnf) | (refine ACode.s_exit ?_; conv => whnf) | (refine ACode.s_ret ?_; conv => whnf) | (refine ACode.s_skip ?_; conv => whnf) | (refine ACode.s_label ?_; conv => whnf))
      repeat' (first | (refine And.intro (fun _ => ?_) (fun _ => ?_) <;> conv => whnf) | (refine And.intro ⟨by omega, by omega⟩ ?_; (conv => whnf); first | rw [hgk]) | refine ACode.seq ?_ | (refine ACode.s_reg tys_ok ?_; conv => whnf) | refine ACode.s_block ?_ | refine ACode.s_scope ?_ | (refine ACode.s_cond ?_; conv => whnf) | (refine ACode.s_exit ?_; conv => whnf) | (refine ACode.s_ret ?_; conv => whnf) | (refine ACode.s_skip ?_; conv => whnf) | (refine ACode.s_label ?_; conv => whnf))
      · rename_i h1 h2
        rw [up_small (by simp at h1; omega) (by simp at h2; omega)]
        refine ⟨rfl, ?_⟩
        conv => whnf
        refine ⟨⟨hlb.symm, by rw [List.length_append, hlb]; simp; omega⟩, ?_⟩
        conv => whnf
        rw [hap]
        repeat (first | refine ACode.seq ?_ | (refine ACode.s_reg tys_ok ?_; conv => whnf) | refine ACode.s_block ?_ | refine ACode.s_scope ?_ | (refine ACode.s_cond ?_; conv => whnf) | (refine ACode.s_exit ?_; conv => whnf) | (refine ACode.s_ret ?_; conv => whnf) | (refine ACode.s_skip ?_; conv => whnf) | (refine ACode.s_label ?_; conv => whnf))
        refine ⟨k + 1, ?_⟩
        conv => whnf
        repeat (refine And.intro ?_ ?_; (focus (first | rfl | (simp; done) | (first | exact hw1 | exact congrArg (AV.own 0 1 0) (by rw [bytes_len]; simp [upB]; omega); done))); conv => whnf)
        exact ⟨by omega, by omega⟩
      · rename_i h1 h2
        rw [up_other (.inr (by simp at h2; omega))]
        refine ⟨rfl, ?_⟩
        conv => whnf
        refine ⟨⟨hlb.symm, by rw [List.length_append, hlb]; simp; omega⟩, ?_⟩
        conv => whnf
        rw [hap]
        repeat (first | refine ACode.seq ?_ | (refine ACode.s_reg tys_ok ?_; conv => whnf) | refine ACode.s_block ?_ | refine ACode.s_scope ?_ | (refine ACode.s_cond ?_; conv => whnf) | (refine ACode.s_exit ?_; conv => whnf) | (refine ACode.s_ret ?_; conv => whnf) | (refine ACode.s_skip ?_; conv => whnf) | (refine ACode.s_label ?_; conv => whnf))
        refine ⟨k + 1, ?_⟩
        conv => whnf
        repeat (refine And.intro ?_ ?_; (focus (first | rfl | (simp; done) | (first | exact hw1 | exact congrArg (AV.own 0 1 0) (by rw [bytes_len]; simp [upB]; omega); done))); conv => whnf)
        exact ⟨by omega, by omega⟩
      · rename_i h1
        rw [up_other (.inl (by simp at h1; omega))]
        refine ⟨rfl, ?_⟩
        conv => whnf
        refine ⟨⟨hlb.symm, by rw [List.length_append, hlb]; simp; omega⟩, ?_⟩
        conv => whnf
        rw [hap]
        repeat (first | refine ACode.seq ?_ | (refine ACode.s_reg tys_ok ?_; conv => whnf) | refine ACode.s_block ?_ | refine ACode.s_scope ?_ | (refine ACode.s_cond ?_; conv => whnf) | (refine ACode.s_exit ?_; conv => whnf) | (refine ACode.s_ret ?_; conv => whnf) | (refine ACode.s_skip ?_; conv => whnf) | (refine ACode.s_label ?_; conv => whnf))
        refine ⟨k + 1, ?_⟩
        conv => whnf
        repeat (refine And.intro ?_ ?_; (focus (first | rfl | (simp; done) | (first | exact hw1 | exact congrArg (AV.own 0 1 0) (by rw [bytes_len]; simp [upB]; omega); done))); conv => whnf)
        exact ⟨by omega, by omega⟩
    · have h : k = w.length := by simp at h; omega
      subst h
      rw [List.take_length]
      conv => whnf
      repeat (first | refine ACode.seq ?_ | (refine ACode.s_reg tys_ok ?_; conv => whnf) | refine ACode.s_block ?_ | refine ACode.s_scope ?_ | (refine ACode.s_cond ?_; conv => whnf) | (refine ACode.s_exit ?_; conv => whnf) | (refine ACode.s_ret ?_; conv => whnf) | (refine ACode.s_skip ?_; conv => whnf) | (refine ACode.s_label ?_; conv => whnf))
      refine ⟨by rw [bytes_len]; simp [upB], ?_⟩
      conv => whnf
      refine ⟨upB w, ⟨rfl, by simp [upB]; omega⟩, ?_⟩
      conv => whnf
      repeat (first | refine ACode.seq ?_ | (refine ACode.s_reg tys_ok ?_; conv => whnf) | refine ACode.s_block ?_ | refine ACode.s_scope ?_ | (refine ACode.s_cond ?_; conv => whnf) | (refine ACode.s_exit ?_; conv => whnf) | (refine ACode.s_ret ?_; conv => whnf) | (refine ACode.s_skip ?_; conv => whnf) | (refine ACode.s_label ?_; conv => whnf))
set_option maxRecDepth 100000 in
theorem rpattern_spec (w : Bs) (hw : w.length ≤ 100000) : Ctr Tryz.prog 71 [.str w] (fun r => r = .bool (patB w)) := by
  refine Ctr.of_body Tryz.func71 rfl tys_ok (by kernel_rfl) ?_
  conv => whnf
  repeat (first | refine ACode.seq ?_ | (refine ACode.s_reg tys_ok ?_; conv => whnf) | refine ACode.s_block ?_ | refine ACode.s_scope ?_ | (refine ACode.s_cond ?_; conv => whnf) | (refine ACode.s_exit ?_; conv => whnf) | (refine ACode.s_ret ?_; conv => whnf) | (refine ACode.s_skip ?_; conv => whnf) | (refine ACode.s_label ?_; conv => whnf))
  refine ACode.loopD (fun k : Nat => mk 28 [(0, .str w), (2, .lit false), (3, .int .i64 k)]) (fun _ => []) (fun k => k ≤ w.length ∧ (w.take k).all patC = true) (fun k => w.length - k) (fun _ _ => ⟨rfl, trivial⟩) ⟨0, ?_⟩ (fun _ => rfl) fun k hk => ?_
  · conv => whnf
    repeat (refine And.intro ?_ ?_; (focus (first | rfl | (simp; done))); conv => whnf)
    simp
  · obtain ⟨hk, ha⟩ := hk
    repeat (first | refine ACode.seq ?_ | (refine ACode.s_reg tys_ok ?_; conv => whnf) | refine ACode.s_block ?_ | refine ACode.s_scope ?_ | (refine ACode.s_cond ?_; conv => whnf) | (refine ACode.s_exit ?_; conv => whnf) | (refine ACode.s_ret ?_; conv => whnf) | (refine ACode.s_skip ?_; conv => whnf) | (refine ACode.s_label ?_; conv => whnf))
    refine ⟨fun h => ?_, fun h => ?_⟩
    · have h : k < w.length := by simpa using h
      have hw1 : Wr .i64 ((k : Int) + 1) = ((k + 1 : Nat) : Int) := by rw [Wr64 _ (by omega) (by omega)]; rfl
      have hgk : w.getD (k : Int).toNat 0 = w[k] := by simp [List.getD, h]
      have hfc : patC w[k] = (decide (w[k].toNat = 57) || decide (w[k].toNat = 65)) := rfl
      have ht := all_take patC w k h
      have hff := all_false patC w k h
      conv => whnf
      repeat (first | refine ACode.seq ?_ | (refine ACode.s_reg tys_ok ?_; conv => whnf) | refine ACode.s_block ?_ | refine ACode.s_scope ?_ | (refine ACode.s_cond ?_; conv => whnf) | (refine ACode.s_exit ?_; conv => whnf) | (refine ACode.s_ret ?_; conv => whnf) | (refine ACode.s_skip ?_; conv => whnf) | (refine ACode.s_label ?_; conv => whnf))
      repeat' (first | (refine And.intro (fun _ => ?_) (fun _ => ?_) <;> conv => whnf) | (refine And.intro ⟨by omega, by omega⟩ ?_; (conv => whnf); first | rw [hgk]) | refine ACode.seq ?_ | (refine ACode.s_reg tys_ok ?_; conv => whnf) | refine ACode.s_block ?_ | refine ACode.s_scope ?_ | (refine ACode.s_cond ?_; conv => whnf) | (refine ACode.s_exit ?_; conv => whnf) | (refine ACode.s_ret ?_; conv => whnf) | (refine ACode.s_skip ?_; conv => whnf) | (refine ACode.s_label ?_; conv => whnf))
      all_goals first
        | (refine congrArg AV.bool ?_
           have hn : patC w[k] = false := by rw [hfc]; clear ha ht hff; simp_all <;> omega
           unfold patB; rw [hff hn, Bool.and_false])
        | (have hy : patC w[k] = true := by rw [hfc]; clear ha ht hff; simp_all <;> omega
           refine ⟨k + 1, ?_⟩
           conv => whnf
           repeat (refine And.intro ?_ ?_; (focus (first | rfl | (simp; done) | (first | exact hw1; done))); conv => whnf)
           exact ⟨⟨by omega, by rw [ht, ha, hy]; rfl⟩, by omega⟩)
        | trace_state
    · have h : k = w.length := by simp at h; omega
      rw [h, List.take_length] at ha
      conv => whnf
      repeat (first | refine ACode.seq ?_ | (refine ACode.s_reg tys_ok ?_; conv => whnf) | refine ACode.s_block ?_ | refine ACode.s_scope ?_ | (refine ACode.s_cond ?_; conv => whnf) | (refine ACode.s_exit ?_; conv => whnf) | (refine ACode.s_ret ?_; conv => whnf) | (refine ACode.s_skip ?_; conv => whnf) | (refine ACode.s_label ?_; conv => whnf))
      repeat' (first | (refine And.intro (fun _ => ?_) (fun _ => ?_) <;> conv => whnf) | refine ACode.seq ?_ | (refine ACode.s_reg tys_ok ?_; conv => whnf) | refine ACode.s_block ?_ | refine ACode.s_scope ?_ | (refine ACode.s_cond ?_; conv => whnf) | (refine ACode.s_exit ?_; conv => whnf) | (refine ACode.s_ret ?_; conv => whnf) | (refine ACode.s_skip ?_; conv => whnf) | (refine ACode.s_label ?_; conv => whnf))
      · rename_i h1
        refine congrArg AV.bool ?_
        unfold patB
        rw [ha, decide_eq_true (p := 1 ≤ w.length) (by simp at h1; omega)]
        rw [Bool.eq_iff_iff]; simp; omega
      · rename_i h1
        refine congrArg AV.bool ?_
        unfold patB
        rw [decide_eq_false (p := 1 ≤ w.length) (by simp at h1; omega)]
        simp
def headS (s : Bs) : Bool := match s with | c :: _ => smallB c | [] => false
theorem nameB_eq (s : Bs) : nameB s = (decide (1 ≤ s.length) && decide (s.length ≤ 16) && headS s && s.all nameC) := rfl
set_option maxRecDepth 100000 in
theorem rnamed_spec (w : Bs) (hw : w.length ≤ 100000) : Ctr Tryz.prog 44 [.str w] (fun r => r = .bool (nameB w)) := by
  refine Ctr.of_body Tryz.func44 rfl tys_ok (by kernel_rfl) ?_
  conv => whnf
  repeat (first | refine ACode.seq ?_ | (refine ACode.s_reg tys_ok ?_; conv => whnf) | refine ACode.s_block ?_ | refine ACode.s_scope ?_ | (refine ACode.s_cond ?_; conv => whnf) | (refine ACode.s_exit ?_; conv => whnf) | (refine ACode.s_ret ?_; conv => whnf) | (refine ACode.s_skip ?_; conv => whnf) | (refine ACode.s_label ?_; conv => whnf))
  refine ACode.loopD (fun k : Nat => mk 48 [(0, .str w), (2, .lit false), (3, .int .i64 k)]) (fun _ => []) (fun k => k ≤ w.length ∧ (w.take k).all nameC = true ∧ (1 ≤ k → headS w = true)) (fun k => w.length - k) (fun _ _ => ⟨rfl, trivial⟩) ⟨0, ?_⟩ (fun _ => rfl) fun k hk => ?_
  · conv => whnf
    repeat (refine And.intro ?_ ?_; (focus (first | rfl | (simp; done))); conv => whnf)
    simp
  · obtain ⟨hk, ha, hs⟩ := hk
    repeat (first | refine ACode.seq ?_ | (refine ACode.s_reg tys_ok ?_; conv => whnf) | refine ACode.s_block ?_ | refine ACode.s_scope ?_ | (refine ACode.s_cond ?_; conv => whnf) | (refine ACode.s_exit ?_; conv => whnf) | (refine ACode.s_ret ?_; conv => whnf) | (refine ACode.s_skip ?_; conv => whnf) | (refine ACode.s_label ?_; conv => whnf))
    refine ⟨fun h => ?_, fun h => ?_⟩
    · have h : k < w.length := by simpa using h
      have hw1 : Wr .i64 ((k : Int) + 1) = ((k + 1 : Nat) : Int) := by rw [Wr64 _ (by omega) (by omega)]; rfl
      have hgk : w.getD (k : Int).toNat 0 = w[k] := by simp [List.getD, h]
      have hfc : nameC w[k] = (smallB w[k] || digB w[k] || decide (w[k].toNat = 95)) := rfl
      have hsm : smallB w[k] = (decide (97 ≤ w[k].toNat) && decide (w[k].toNat ≤ 122)) := rfl
      have hs0 : k = 0 → headS w = smallB w[k] := fun e => by subst e; cases w with | nil => simp at h | cons c r => rfl
      have hh : smallB w[k] = true → headS w = true := fun e => by
        by_cases h0 : k = 0
        · rw [hs0 h0, e]
        · exact hs (by omega)
      have ht := all_take nameC w k h
      have hff := all_false nameC w k h
      conv => whnf
      repeat (first | refine ACode.seq ?_ | (refine ACode.s_reg tys_ok ?_; conv => whnf) | refine ACode.s_block ?_ | refine ACode.s_scope ?_ | (refine ACode.s_cond ?_; conv => whnf) | (refine ACode.s_exit ?_; conv => whnf) | (refine ACode.s_ret ?_; conv => whnf) | (refine ACode.s_skip ?_; conv => whnf) | (refine ACode.s_label ?_; conv => whnf))
      repeat' (first | (refine And.intro (fun _ => ?_) (fun _ => ?_) <;> conv => whnf) | (refine And.intro ⟨by omega, by omega⟩ ?_; (conv => whnf); first | rw [hgk]) | (refine ACall.of_spec (rdigit_spec w[k]) rfl fun r hr => ?_; subst hr; conv => whnf) | refine ACode.seq ?_ | (refine ACode.s_reg tys_ok ?_; conv => whnf) | refine ACode.s_block ?_ | refine ACode.s_scope ?_ | (refine ACode.s_cond ?_; conv => whnf) | (refine ACode.s_exit ?_; conv => whnf) | (refine ACode.s_ret ?_; conv => whnf) | (refine ACode.s_skip ?_; conv => whnf) | (refine ACode.s_label ?_; conv => whnf))
      all_goals first
        | (refine congrArg AV.bool ?_
           have hn : (k = 0 ∧ smallB w[k] = false) ∨ nameC w[k] = false := by rw [hfc, hsm]; clear ha hs ht hff hs0 hh hfc hsm; simp_all <;> omega
           rw [nameB_eq]
           rcases hn with ⟨h0, hn⟩ | hn
           · rw [hs0 h0, hn, Bool.and_false, Bool.false_and]
           · rw [hff hn, Bool.and_false])
        | (have hy : nameC w[k] = true ∧ (k = 0 → smallB w[k] = true) := by
             rw [hfc, hsm]; clear ha hs ht hff hs0 hh hfc hsm
             first | (simp_all <;> omega; done) | (simp only [decide_eq_true_eq, decide_eq_false_iff_not, Bool.not_eq_true', Bool.not_eq_false', Bool.or_eq_true, Bool.and_eq_true] at *; refine ⟨?_, fun _ => ?_⟩ <;> omega)
           refine ⟨k + 1, ?_⟩
           conv => whnf
           repeat (refine And.intro ?_ ?_; (focus (first | rfl | (simp; done) | (first | exact hw1; done))); conv => whnf)
           refine ⟨⟨by omega, by rw [ht, ha, hy.1]; rfl, fun _ => ?_⟩, by omega⟩
           by_cases h0 : k = 0
           · rw [hs0 h0]; exact hy.2 h0
           · exact hs (by omega))
        | trace_state
    · have h : k = w.length := by simp at h; omega
      rw [h, List.take_length] at ha
      conv => whnf
      repeat (first | refine ACode.seq ?_ | (refine ACode.s_reg tys_ok ?_; conv => whnf) | refine ACode.s_block ?_ | refine ACode.s_scope ?_ | (refine ACode.s_cond ?_; conv => whnf) | (refine ACode.s_exit ?_; conv => whnf) | (refine ACode.s_ret ?_; conv => whnf) | (refine ACode.s_skip ?_; conv => whnf) | (refine ACode.s_label ?_; conv => whnf))
      repeat' (first | (refine And.intro (fun _ => ?_) (fun _ => ?_) <;> conv => whnf) | refine ACode.seq ?_ | (refine ACode.s_reg tys_ok ?_; conv => whnf) | refine ACode.s_block ?_ | refine ACode.s_scope ?_ | (refine ACode.s_cond ?_; conv => whnf) | (refine ACode.s_exit ?_; conv => whnf) | (refine ACode.s_ret ?_; conv => whnf) | (refine ACode.s_skip ?_; conv => whnf) | (refine ACode.s_label ?_; conv => whnf))
      · rename_i h1
        refine congrArg AV.bool ?_
        rw [nameB_eq, ha, hs (by simp at h1; omega), decide_eq_true (p := 1 ≤ w.length) (by simp at h1; omega)]
        rw [Bool.eq_iff_iff]; simp; omega
      · rename_i h1
        refine congrArg AV.bool ?_
        rw [nameB_eq, decide_eq_false (p := 1 ≤ w.length) (by simp at h1; omega)]
        simp
set_option maxRecDepth 100000 in
theorem rcode_spec (w p : Bs) (hw : w.length ≤ 100000) : Ctr Tryz.prog 47 [.str w, .str p] (fun r => r = .bool (matchB w p)) := by
  refine Ctr.of_body Tryz.func47 rfl tys_ok (by kernel_rfl) ?_
  conv => whnf
  repeat (first | refine ACode.seq ?_ | (refine ACode.s_reg tys_ok ?_; conv => whnf) | refine ACode.s_block ?_ | refine ACode.s_scope ?_ | (refine ACode.s_cond ?_; conv => whnf) | (refine ACode.s_exit ?_; conv => whnf) | (refine ACode.s_ret ?_; conv => whnf) | (refine ACode.s_skip ?_; conv => whnf) | (refine ACode.s_label ?_; conv => whnf))
  repeat' (first | (refine And.intro (fun _ => ?_) (fun _ => ?_) <;> conv => whnf) | refine ACode.seq ?_ | (refine ACode.s_reg tys_ok ?_; conv => whnf) | refine ACode.s_block ?_ | refine ACode.s_scope ?_ | (refine ACode.s_cond ?_; conv => whnf) | (refine ACode.s_exit ?_; conv => whnf) | (refine ACode.s_ret ?_; conv => whnf) | (refine ACode.s_skip ?_; conv => whnf) | (refine ACode.s_label ?_; conv => whnf))
  · rename_i h1
    have h1 : w.length ≠ p.length := by simp at h1; omega
    exact congrArg AV.bool (match_len h1).symm
  · rename_i h1
    have h1 : w.length = p.length := by simp at h1; omega
    refine ACode.loopD (fun k : Nat => mk 41 [(0, .str w), (1, .str p), (4, .lit false), (5, .int .i64 k)]) (fun _ => []) (fun k => k ≤ w.length ∧ matchB w p = matchB (w.drop k) (p.drop k)) (fun k => w.length - k) (fun _ _ => ⟨rfl, trivial⟩) ⟨0, ?_⟩ (fun _ => rfl) fun k hk => ?_
    · conv => whnf
      repeat (refine And.intro ?_ ?_; (focus (first | rfl | (simp; done))); conv => whnf)
      simp
    · obtain ⟨hk, ha⟩ := hk
      repeat (first | refine ACode.seq ?_ | (refine ACode.s_reg tys_ok ?_; conv => whnf) | refine ACode.s_block ?_ | refine ACode.s_scope ?_ | (refine ACode.s_cond ?_; conv => whnf) | (refine ACode.s_exit ?_; conv => whnf) | (refine ACode.s_ret ?_; conv => whnf) | (refine ACode.s_skip ?_; conv => whnf) | (refine ACode.s_label ?_; conv => whnf))
      refine ⟨fun h => ?_, fun h => ?_⟩
      · have h : k < w.length := by simpa using h
        have hw1 : Wr .i64 ((k : Int) + 1) = ((k + 1 : Nat) : Int) := by rw [Wr64 _ (by omega) (by omega)]; rfl
        have hgp : p.getD (k : Int).toNat 0 = p[k] := by simp [List.getD, show k < p.length by omega]
        have hgk : w.getD (k : Int).toNat 0 = w[k] := by simp [List.getD, h]
        have hm : matchB w p = ((!decide (p[k].toNat = 57) || digB w[k]) && (!decide (p[k].toNat = 65) || letterB w[k]) && matchB (w.drop (k + 1)) (p.drop (k + 1))) := by
          rw [ha, List.drop_eq_getElem_cons h, List.drop_eq_getElem_cons (by omega : k < p.length)]; rfl
        conv => whnf
        repeat (first | refine ACode.seq ?_ | (refine ACode.s_reg tys_ok ?_; conv => whnf) | refine ACode.s_block ?_ | refine ACode.s_scope ?_ | (refine ACode.s_cond ?_; conv => whnf) | (refine ACode.s_exit ?_; conv => whnf) | (refine ACode.s_ret ?_; conv => whnf) | (refine ACode.s_skip ?_; conv => whnf) | (refine ACode.s_label ?_; conv => whnf))
        repeat' (first | (refine And.intro (fun _ => ?_) (fun _ => ?_) <;> conv => whnf) | (refine And.intro ⟨by omega, by omega⟩ ?_; (conv => whnf); first | rw [hgp] | rw [hgk]) | (refine ACall.of_spec (rdigit_spec w[k]) rfl fun r hr => ?_; subst hr; conv => whnf) | (refine ACall.of_spec (rletter_spec w[k]) rfl fun r hr => ?_; subst hr; conv => whnf) | refine ACode.seq ?_ | (refine ACode.s_reg tys_ok ?_; conv => whnf) | refine ACode.s_block ?_ | refine ACode.s_scope ?_ | (refine ACode.s_cond ?_; conv => whnf) | (refine ACode.s_exit ?_; conv => whnf) | (refine ACode.s_ret ?_; conv => whnf) | (refine ACode.s_skip ?_; conv => whnf) | (refine ACode.s_label ?_; conv => whnf))
        all_goals first
          | (refine congrArg AV.bool ?_
             have hn : ((!decide (p[k].toNat = 57) || digB w[k]) && (!decide (p[k].toNat = 65) || letterB w[k])) = false := by clear hm ha; simp_all <;> omega
             rw [hm, hn]; rfl)
          | (have hy : ((!decide (p[k].toNat = 57) || digB w[k]) && (!decide (p[k].toNat = 65) || letterB w[k])) = true := by clear hm ha; simp_all <;> omega
             refine ⟨k + 1, ?_⟩
             conv => whnf
             repeat (refine And.intro ?_ ?_; (focus (first | rfl | (simp; done) | (first | exact hw1; done))); conv => whnf)
             exact ⟨⟨by omega, by rw [hm, hy]; rfl⟩, by omega⟩)
          | trace_state
      · have h : k = w.length := by simp at h; omega
        rw [h, List.drop_length, h1, List.drop_length] at ha
        conv => whnf
        repeat (first | refine ACode.seq ?_ | (refine ACode.s_reg tys_ok ?_; conv => whnf) | refine ACode.s_block ?_ | refine ACode.s_scope ?_ | (refine ACode.s_cond ?_; conv => whnf) | (refine ACode.s_exit ?_; conv => whnf) | (refine ACode.s_ret ?_; conv => whnf) | (refine ACode.s_skip ?_; conv => whnf) | (refine ACode.s_label ?_; conv => whnf))
        exact congrArg AV.bool ha.symm
end Go.Proofs.YtbodeejogdckgaaGreatDoor
