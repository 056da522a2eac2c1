/-
  Bytes; isCode, isName, isNumber, isDay, uses.
-/
import Derived.Test.YtkmhjamdgncpoaaDoorP1
import Derived.Test.YtkmhjamdgncpoaaDoorTy
import Derived.Test.YtkmhjamdgncpoaaDoorKe
import Derived.Test.YtkmhjamdgncpoaaDoorSh
set_option linter.unusedVariables false
set_option linter.unusedSimpArgs false
namespace Go.Proofs.YtkmhjamdgncpoaaDoor
open Go.Av Go.Shelf Pl Go.RowKit
theorem isSmall_spec (b : UInt8) : Ctr Tryd.prog 60 [.int .u8 b.toNat] (fun r => r = .bool (smallB b)) := by
  refine Ctr.of_body Tryd.func60 rfl tys_ok (by kernel_rfl) ?_
  conv => whnf
  refine cd_sound tys_ok _ ?_
  conv => whnf
  repeat' (refine And.intro (fun _ => ?_) (fun _ => ?_) <;> conv => whnf)
  all_goals (refine congrArg AV.bool ?_; rw [Bool.eq_iff_iff]; simp_all [smallB] <;> omega)
theorem isCapital_spec (b : UInt8) : Ctr Tryd.prog 38 [.int .u8 b.toNat] (fun r => r = .bool (capB b)) := by
  refine Ctr.of_body Tryd.func38 rfl tys_ok (by kernel_rfl) ?_
  conv => whnf
  refine cd_sound tys_ok _ ?_
  conv => whnf
  repeat' (refine And.intro (fun _ => ?_) (fun _ => ?_) <;> conv => whnf)
  all_goals (refine congrArg AV.bool ?_; rw [Bool.eq_iff_iff]; simp_all [capB] <;> omega)
theorem isDigit_spec (b : UInt8) : Ctr Tryd.prog 58 [.int .u8 b.toNat] (fun r => r = .bool (digB b)) := by
  refine Ctr.of_body Tryd.func58 rfl tys_ok (by kernel_rfl) ?_
  conv => whnf
  refine cd_sound tys_ok _ ?_
  conv => whnf
  repeat' (refine And.intro (fun _ => ?_) (fun _ => ?_) <;> conv => whnf)
  all_goals (refine congrArg AV.bool ?_; rw [Bool.eq_iff_iff]; simp_all [digB] <;> omega)
theorem isNumber_spec (n : Int) : Ctr Tryd.prog 47 [.int .i64 n] (fun r => r = .bool (numB n)) := by
  refine Ctr.of_body Tryd.func47 rfl tys_ok (by kernel_rfl) ?_
  conv => whnf
  refine cd_sound tys_ok _ ?_
  conv => whnf
  repeat' (refine And.intro (fun _ => ?_) (fun _ => ?_) <;> conv => whnf)
  all_goals (refine congrArg AV.bool ?_; rw [Bool.eq_iff_iff]; simp_all [numB] <;> omega)
theorem isDay_spec (n : Int) : Ctr Tryd.prog 32 [.int .i64 n] (fun r => r = .bool (dayB n)) := by
  refine Ctr.of_body Tryd.func32 rfl tys_ok (by kernel_rfl) ?_
  conv => whnf
  refine cd_sound tys_ok _ ?_
  conv => whnf
  repeat' (refine And.intro (fun _ => ?_) (fun _ => ?_) <;> conv => whnf)
  all_goals (refine congrArg AV.bool ?_; rw [Bool.eq_iff_iff]; simp_all [dayB] <;> omega)
abbrev bytesA (w : Bs) : List AV := w.map fun b => AV.int .u8 b.toNat
theorem bytes_get (w : Bs) (k : Nat) (h : k < w.length) : (bytesA w)[k]? = some (.int .u8 w[k].toNat) := by simp [h]
theorem bytes_len (w : Bs) : (bytesA w).length = w.length := by simp
theorem strs_len (l : List Bs) : (strs l).length = l.length := by simp
theorem strs_get (l : List Bs) (k : Nat) (h : k < l.length) : (strs l)[k]? = some (.str l[k]) := by simp [h]
theorem all_take (p : UInt8 → Bool) (w : Bs) (k : Nat) (h : k < w.length) : (w.take (k + 1)).all p = ((w.take k).all p && p w[k]) := by
  rw [List.take_succ_eq_append_getElem h, List.all_append]; simp
theorem all_false (p : UInt8 → Bool) (w : Bs) (k : Nat) (h : k < w.length) (hp : p w[k] = false) : w.all p = false := List.all_eq_false.2 ⟨w[k], List.getElem_mem h, by simp [hp]⟩
set_option maxRecDepth 100000 in
theorem isCode_spec (w : Bs) : Ctr Tryd.prog 50 [.str w] (fun r => r = .bool (codeB w)) := by
  refine Ctr.of_body Tryd.func50 rfl tys_ok (by kernel_rfl) ?_
  conv => whnf
  repeat (first | refine ACode.seq ?_ | (refine ACode.s_reg tys_ok ?_; conv => whnf) | refine ACode.s_block ?_ | refine ACode.s_scope ?_ | (refine ACode.s_cond ?_; conv => whnf) | (refine ACode.s_exit ?_; conv => whnf) | (refine ACode.s_ret ?_; conv => whnf) | (refine ACode.s_skip ?_; conv => whnf) | (refine ACode.s_label ?_; conv => whnf))
  repeat' (first | (refine And.intro (fun _ => ?_) (fun _ => ?_) <;> conv => whnf) | refine ACode.seq ?_ | (refine ACode.s_reg tys_ok ?_; conv => whnf) | refine ACode.s_block ?_ | refine ACode.s_scope ?_ | (refine ACode.s_cond ?_; conv => whnf) | (refine ACode.s_exit ?_; conv => whnf) | (refine ACode.s_ret ?_; conv => whnf) | (refine ACode.s_skip ?_; conv => whnf) | (refine ACode.s_label ?_; conv => whnf))
  · exact congrArg AV.bool (by rename_i h1 h2; simp at h2; unfold codeB; rw [decide_eq_false (show ¬ w.length ≤ 8 by omega)]; simp)
  · rename_i h1 h2
    have h1 : 1 ≤ w.length := by simp at h1; omega
    have h2 : w.length ≤ 8 := by simp at h2; omega
    have hf : codeB w = w.all codeC := by unfold codeB; simp [h1, h2]
    refine ACode.loopD (fun k : Nat => mk 29 [(0, .str w), (2, .lit false), (14, .sl 1 (bytesA w)), (15, .int .i64 w.length), (16, .int .i64 k)]) (fun _ => []) (fun k => k ≤ w.length ∧ (w.take k).all codeC = true) (fun k => w.length - k) (fun _ _ => ⟨rfl, trivial⟩) ⟨0, ?_⟩ (fun _ => rfl) fun k hk => ?_
    · conv => whnf
      repeat (refine And.intro ?_ ?_; (focus (first | rfl | (simp; done))); conv => whnf)
      simp
    · obtain ⟨hk, ha⟩ := hk
      repeat (first | refine ACode.seq ?_ | (refine ACode.s_reg tys_ok ?_; conv => whnf) | refine ACode.s_block ?_ | refine ACode.s_scope ?_ | (refine ACode.s_cond ?_; conv => whnf) | (refine ACode.s_exit ?_; conv => whnf) | (refine ACode.s_ret ?_; conv => whnf) | (refine ACode.s_skip ?_; conv => whnf) | (refine ACode.s_label ?_; conv => whnf))
      refine ⟨fun h => ?_, fun h => ?_⟩
      · have h : k < w.length := by simpa using h
        have hw1 : Wr .i64 ((k : Int) + 1) = ((k + 1 : Nat) : Int) := by rw [Wr64 _ (by omega) (by omega)]; rfl
        have ht := all_take codeC w k h
        have hff := all_false codeC w k h
        conv => whnf
        repeat (first | refine ACode.seq ?_ | (refine ACode.s_reg tys_ok ?_; conv => whnf) | refine ACode.s_block ?_ | refine ACode.s_scope ?_ | (refine ACode.s_cond ?_; conv => whnf) | (refine ACode.s_exit ?_; conv => whnf) | (refine ACode.s_ret ?_; conv => whnf) | (refine ACode.s_skip ?_; conv => whnf) | (refine ACode.s_label ?_; conv => whnf))
        refine ⟨by omega, _, bytes_get w k h, ?_⟩
        conv => whnf
        repeat (first | refine ACode.seq ?_ | (refine ACode.s_reg tys_ok ?_; conv => whnf) | refine ACode.s_block ?_ | refine ACode.s_scope ?_ | (refine ACode.s_cond ?_; conv => whnf) | (refine ACode.s_exit ?_; conv => whnf) | (refine ACode.s_ret ?_; conv => whnf) | (refine ACode.s_skip ?_; conv => whnf) | (refine ACode.s_label ?_; conv => whnf))
        repeat' (first | (refine And.intro (fun _ => ?_) (fun _ => ?_) <;> conv => whnf) | (refine ACall.of_spec (isCapital_spec w[k]) rfl fun r hr => ?_; subst hr; conv => whnf) | (refine ACall.of_spec (isDigit_spec w[k]) rfl fun r hr => ?_; subst hr; conv => whnf) | refine ACode.seq ?_ | (refine ACode.s_reg tys_ok ?_; conv => whnf) | refine ACode.s_block ?_ | refine ACode.s_scope ?_ | (refine ACode.s_cond ?_; conv => whnf) | (refine ACode.s_exit ?_; conv => whnf) | (refine ACode.s_ret ?_; conv => whnf) | (refine ACode.s_skip ?_; conv => whnf) | (refine ACode.s_label ?_; conv => whnf))
        all_goals first
          | (refine congrArg AV.bool ?_
             have hn : codeC w[k] = false := by unfold codeC; simp_all
             rw [hf, hff hn])
          | (have hy : codeC w[k] = true := by unfold codeC; simp_all
             refine ⟨k + 1, ?_⟩
             conv => whnf
             repeat (refine And.intro ?_ ?_; (focus (first | rfl | (simp; done) | (first | exact hw1; done))); conv => whnf)
             exact ⟨⟨by omega, by rw [ht, ha, hy]; rfl⟩, by omega⟩)
      · have h : k = w.length := by simp at h; omega
        rw [h, List.take_length] at ha
        conv => whnf
        repeat (first | refine ACode.seq ?_ | (refine ACode.s_reg tys_ok ?_; conv => whnf) | refine ACode.s_block ?_ | refine ACode.s_scope ?_ | (refine ACode.s_cond ?_; conv => whnf) | (refine ACode.s_exit ?_; conv => whnf) | (refine ACode.s_ret ?_; conv => whnf) | (refine ACode.s_skip ?_; conv => whnf) | (refine ACode.s_label ?_; conv => whnf))
        exact congrArg AV.bool (by rw [hf, ha])
  · exact congrArg AV.bool (by rename_i h1; simp at h1; unfold codeB; rw [decide_eq_false (show ¬ 1 ≤ w.length by omega)]; simp)
end Go.Proofs.YtkmhjamdgncpoaaDoor
