/-
  Bytes; isFit, isName, matches.
-/
import Derived.Test.YtbodeejogdckgaaGreatDoorP2
import Derived.Test.YtbodeejogdckgaaGreatDoorTy
set_option linter.unusedVariables false
set_option linter.unusedSimpArgs false
namespace Go.Proofs.YtbodeejogdckgaaGreatDoor
open Go.Av Pl
theorem isSmall_spec (b : UInt8) : Ctr Tryz.prog 68 [.int .u8 b.toNat] (fun r => r = .bool (smallB b)) := by
  refine Ctr.of_body Tryz.func68 rfl tys_ok (by kernel_rfl) ?_
  conv => whnf
  refine cd_sound tys_ok _ ?_
  conv => whnf
  repeat' (refine And.intro (fun _ => ?_) (fun _ => ?_) <;> conv => whnf)
  all_goals (refine congrArg AV.bool ?_; rw [Bool.eq_iff_iff]; simp_all [smallB] <;> omega)
theorem isDigit_spec (b : UInt8) : Ctr Tryz.prog 69 [.int .u8 b.toNat] (fun r => r = .bool (digB b)) := by
  refine Ctr.of_body Tryz.func69 rfl tys_ok (by kernel_rfl) ?_
  conv => whnf
  refine cd_sound tys_ok _ ?_
  conv => whnf
  repeat' (refine And.intro (fun _ => ?_) (fun _ => ?_) <;> conv => whnf)
  all_goals (refine congrArg AV.bool ?_; rw [Bool.eq_iff_iff]; simp_all [digB] <;> omega)
theorem isLetter_spec (b : UInt8) : Ctr Tryz.prog 72 [.int .u8 b.toNat] (fun r => r = .bool (letterB b)) := by
  refine Ctr.of_body Tryz.func72 rfl tys_ok (by kernel_rfl) ?_
  conv => whnf
  repeat (first | refine ACode.seq ?_ | (refine ACode.s_reg tys_ok ?_; conv => whnf) | refine ACode.s_block ?_ | refine ACode.s_scope ?_ | (refine ACode.s_cond ?_; conv => whnf) | (refine ACode.s_exit ?_; conv => whnf) | (refine ACode.s_ret ?_; conv => whnf) | (refine ACode.s_skip ?_; conv => whnf) | (refine ACode.s_label ?_; conv => whnf))
  repeat' (first | (refine And.intro (fun _ => ?_) (fun _ => ?_) <;> conv => whnf) | (refine ACall.of_spec (isSmall_spec b) rfl fun r hr => ?_; subst hr; conv => whnf) | refine ACode.seq ?_ | (refine ACode.s_reg tys_ok ?_; conv => whnf) | refine ACode.s_block ?_ | refine ACode.s_scope ?_ | (refine ACode.s_cond ?_; conv => whnf) | (refine ACode.s_exit ?_; conv => whnf) | (refine ACode.s_ret ?_; conv => whnf) | (refine ACode.s_skip ?_; conv => whnf) | (refine ACode.s_label ?_; conv => whnf))
  all_goals (refine congrArg AV.bool ?_; rw [Bool.eq_iff_iff]; simp_all [letterB, capB] <;> omega)
abbrev bytesA (w : Bs) : List AV := w.map fun b => AV.int .u8 b.toNat
theorem bytes_get (w : Bs) (k : Nat) (h : k < w.length) : (bytesA w)[k]? = some (.int .u8 w[k].toNat) := by simp [h]
theorem bytes_len (w : Bs) : (bytesA w).length = w.length := by simp
theorem all_take (p : UInt8 → Bool) (w : Bs) (k : Nat) (h : k < w.length) : (w.take (k + 1)).all p = ((w.take k).all p && p w[k]) := by
  rw [List.take_succ_eq_append_getElem h, List.all_append]; simp
theorem all_false (p : UInt8 → Bool) (w : Bs) (k : Nat) (h : k < w.length) (hp : p w[k] = false) : w.all p = false := List.all_eq_false.2 ⟨w[k], List.getElem_mem h, by simp [hp]⟩
set_option maxRecDepth 100000 in
theorem isFit_spec (w : Bs) (hw : w.length ≤ 9223372036854775807) : Ctr Tryz.prog 51 [.str w] (fun r => r = .bool (fitB w)) := by
  refine Ctr.of_body Tryz.func51 rfl tys_ok (by kernel_rfl) ?_
  conv => whnf
  repeat (first | refine ACode.seq ?_ | (refine ACode.s_reg tys_ok ?_; conv => whnf) | refine ACode.s_block ?_ | refine ACode.s_scope ?_ | (refine ACode.s_cond ?_; conv => whnf) | (refine ACode.s_exit ?_; conv => whnf) | (refine ACode.s_ret ?_; conv => whnf) | (refine ACode.s_skip ?_; conv => whnf) | (refine ACode.s_label ?_; conv => whnf))
  repeat' (first | (refine And.intro (fun _ => ?_) (fun _ => ?_) <;> conv => whnf) | refine ACode.seq ?_ | (refine ACode.s_reg tys_ok ?_; conv => whnf) | refine ACode.s_block ?_ | refine ACode.s_scope ?_ | (refine ACode.s_cond ?_; conv => whnf) | (refine ACode.s_exit ?_; conv => whnf) | (refine ACode.s_ret ?_; conv => whnf) | (refine ACode.s_skip ?_; conv => whnf) | (refine ACode.s_label ?_; conv => whnf))
  · exact congrArg AV.bool (by rename_i h1 h2; simp at h2; unfold fitB; rw [decide_eq_false (show ¬ w.length ≤ 20 by omega)]; simp)
  · rename_i h1 h2
    have h1 : 1 ≤ w.length := by simp at h1; omega
    have h2 : w.length ≤ 20 := by simp at h2; omega
    have hf : fitB w = w.all fitC := by unfold fitB; simp [h1, h2]
    refine ACode.loopD (fun k : Nat => mk 41 [(0, .str w), (2, .lit false), (14, .sl 1 (bytesA w)), (15, .int .i64 w.length), (16, .int .i64 k)]) (fun _ => []) (fun k => k ≤ w.length ∧ (w.take k).all fitC = true) (fun k => w.length - k) (fun _ _ => ⟨rfl, trivial⟩) ⟨0, ?_⟩ (fun _ => rfl) fun k hk => ?_
    · conv => whnf
      repeat (refine And.intro ?_ ?_; (focus (first | rfl | (simp; done))); conv => whnf)
      simp
    · obtain ⟨hk, ha⟩ := hk
      repeat (first | refine ACode.seq ?_ | (refine ACode.s_reg tys_ok ?_; conv => whnf) | refine ACode.s_block ?_ | refine ACode.s_scope ?_ | (refine ACode.s_cond ?_; conv => whnf) | (refine ACode.s_exit ?_; conv => whnf) | (refine ACode.s_ret ?_; conv => whnf) | (refine ACode.s_skip ?_; conv => whnf) | (refine ACode.s_label ?_; conv => whnf))
      refine ⟨fun h => ?_, fun h => ?_⟩
      · have h : k < w.length := by simpa using h
        have hw1 : Wr .i64 ((k : Int) + 1) = ((k + 1 : Nat) : Int) := by rw [Wr64 _ (by omega) (by omega)]; rfl
        have hfc : fitC w[k] = (letterB w[k] || digB w[k] || decide (w[k].toNat = 45) || decide (w[k].toNat = 39) || decide (w[k].toNat = 46)) := rfl
        have ht := all_take fitC w k h
        have hff := all_false fitC w k h
        conv => whnf
        repeat (first | refine ACode.seq ?_ | (refine ACode.s_reg tys_ok ?_; conv => whnf) | refine ACode.s_block ?_ | refine ACode.s_scope ?_ | (refine ACode.s_cond ?_; conv => whnf) | (refine ACode.s_exit ?_; conv => whnf) | (refine ACode.s_ret ?_; conv => whnf) | (refine ACode.s_skip ?_; conv => whnf) | (refine ACode.s_label ?_; conv => whnf))
        refine ⟨by omega, _, bytes_get w k h, ?_⟩
        conv => whnf
        repeat (first | refine ACode.seq ?_ | (refine ACode.s_reg tys_ok ?_; conv => whnf) | refine ACode.s_block ?_ | refine ACode.s_scope ?_ | (refine ACode.s_cond ?_; conv => whnf) | (refine ACode.s_exit ?_; conv => whnf) | (refine ACode.s_ret ?_; conv => whnf) | (refine ACode.s_skip ?_; conv => whnf) | (refine ACode.s_label ?_; conv => whnf))
        repeat' (first | (refine And.intro (fun _ => ?_) (fun _ => ?_) <;> conv => whnf) | (refine ACall.of_spec (isLetter_spec w[k]) rfl fun r hr => ?_; subst hr; conv => whnf) | (refine ACall.of_spec (isDigit_spec w[k]) rfl fun r hr => ?_; subst hr; conv => whnf) | refine ACode.seq ?_ | (refine ACode.s_reg tys_ok ?_; conv => whnf) | refine ACode.s_block ?_ | refine ACode.s_scope ?_ | (refine ACode.s_cond ?_; conv => whnf) | (refine ACode.s_exit ?_; conv => whnf) | (refine ACode.s_ret ?_; conv => whnf) | (refine ACode.s_skip ?_; conv => whnf) | (refine ACode.s_label ?_; conv => whnf))
        all_goals first
          | (refine congrArg AV.bool ?_
             have hn : fitC w[k] = false := by rw [hfc]; simp_all <;> omega
             rw [hf, hff hn])
          | (have hy : fitC w[k] = true := by rw [hfc]; simp_all <;> omega
             refine ⟨k + 1, ?_⟩
             conv => whnf
             repeat (refine And.intro ?_ ?_; (focus (first | rfl | (simp; done) | (first | exact hw1; done))); conv => whnf)
             exact ⟨⟨by omega, by rw [ht, ha, hy]; rfl⟩, by omega⟩)
      · have h : k = w.length := by simp at h; omega
        rw [h, List.take_length] at ha
        conv => whnf
        repeat (first | refine ACode.seq ?_ | (refine ACode.s_reg tys_ok ?_; conv => whnf) | refine ACode.s_block ?_ | refine ACode.s_scope ?_ | (refine ACode.s_cond ?_; conv => whnf) | (refine ACode.s_exit ?_; conv => whnf) | (refine ACode.s_ret ?_; conv => whnf) | (refine ACode.s_skip ?_; conv => whnf) | (refine ACode.s_label ?_; conv => whnf))
        exact congrArg AV.bool (by rw [hf, ha])
  · exact congrArg AV.bool (by rename_i h1; simp at h1; unfold fitB; rw [decide_eq_false (show ¬ 1 ≤ w.length by omega)]; simp)
theorem match_len : ∀ {w p : Bs}, w.length ≠ p.length → matchB w p = false
  | [], [], h => absurd rfl h
  | [], _ :: _, _ => rfl
  | _ :: _, [], _ => rfl
  | c :: w, d :: p, h => by
    unfold matchB
    rw [match_len (w := w) (p := p) (by simpa using h)]
    simp
set_option maxRecDepth 100000 in
theorem isName_spec (w : Bs) (hw : w.length ≤ 9223372036854775807) : Ctr Tryz.prog 42 [.str w] (fun r => r = .bool (nameB w)) := by
  refine Ctr.of_body Tryz.func42 rfl tys_ok (by kernel_rfl) ?_
  conv => whnf
  repeat (first | refine ACode.seq ?_ | (refine ACode.s_reg tys_ok ?_; conv => whnf) | refine ACode.s_block ?_ | refine ACode.s_scope ?_ | (refine ACode.s_cond ?_; conv => whnf) | (refine ACode.s_exit ?_; conv => whnf) | (refine ACode.s_ret ?_; conv => whnf) | (refine ACode.s_skip ?_; conv => whnf) | (refine ACode.s_label ?_; conv => whnf))
  repeat' (first | (refine And.intro (fun _ => ?_) (fun _ => ?_) <;> conv => whnf) | refine ACode.seq ?_ | (refine ACode.s_reg tys_ok ?_; conv => whnf) | refine ACode.s_block ?_ | refine ACode.s_scope ?_ | (refine ACode.s_cond ?_; conv => whnf) | (refine ACode.s_exit ?_; conv => whnf) | (refine ACode.s_ret ?_; conv => whnf) | (refine ACode.s_skip ?_; conv => whnf) | (refine ACode.s_label ?_; conv => whnf))
  · rename_i h1 h2
    have h1 : 1 ≤ w.length := by simp at h1; omega
    have h2 : w.length ≤ 16 := by simp at h2; omega
    have hg0 : w.getD (Int.toNat 0) 0 = w[0] := by simp [List.getD, show 0 < w.length by omega]
    have hf : nameB w = (smallB w[0] && w.all nameC) := by
      cases w with
      | nil => simp at h1
      | cons c r => simp only [nameB, decide_eq_true h1, decide_eq_true h2, Bool.true_and]; rfl
    refine ⟨⟨by omega, by omega⟩, ?_⟩
    rw [hg0]
    conv => whnf
    repeat (first | refine ACode.seq ?_ | (refine ACode.s_reg tys_ok ?_; conv => whnf) | refine ACode.s_block ?_ | refine ACode.s_scope ?_ | (refine ACode.s_cond ?_; conv => whnf) | (refine ACode.s_exit ?_; conv => whnf) | (refine ACode.s_ret ?_; conv => whnf) | (refine ACode.s_skip ?_; conv => whnf) | (refine ACode.s_label ?_; conv => whnf))
    repeat' (first | (refine And.intro (fun _ => ?_) (fun _ => ?_) <;> conv => whnf) | (refine ACall.of_spec (isSmall_spec w[0]) rfl fun r hr => ?_; subst hr; conv => whnf) | refine ACode.seq ?_ | (refine ACode.s_reg tys_ok ?_; conv => whnf) | refine ACode.s_block ?_ | refine ACode.s_scope ?_ | (refine ACode.s_cond ?_; conv => whnf) | (refine ACode.s_exit ?_; conv => whnf) | (refine ACode.s_ret ?_; conv => whnf) | (refine ACode.s_skip ?_; conv => whnf) | (refine ACode.s_label ?_; conv => whnf))
    · rename_i h3
      have h3 : smallB w[0] = false := by simpa using h3
      exact congrArg AV.bool (by rw [hf, h3]; rfl)
    · rename_i h3
      have h3 : smallB w[0] = true := by simpa using h3
      rw [h3, Bool.true_and] at hf
      refine ACode.loopD (fun k : Nat => mk 39 [(0, .str w), (2, .lit false), (20, .sl 1 (bytesA w)), (21, .int .i64 w.length), (22, .int .i64 k)]) (fun _ => []) (fun k => k ≤ w.length ∧ (w.take k).all nameC = true) (fun k => w.length - k) (fun _ _ => ⟨rfl, trivial⟩) ⟨0, ?_⟩ (fun _ => rfl) fun k hk => ?_
      · conv => whnf
        repeat (refine And.intro ?_ ?_; (focus (first | rfl | (simp; done))); conv => whnf)
        simp
      · obtain ⟨hk, ha⟩ := hk
        repeat (first | refine ACode.seq ?_ | (refine ACode.s_reg tys_ok ?_; conv => whnf) | refine ACode.s_block ?_ | refine ACode.s_scope ?_ | (refine ACode.s_cond ?_; conv => whnf) | (refine ACode.s_exit ?_; conv => whnf) | (refine ACode.s_ret ?_; conv => whnf) | (refine ACode.s_skip ?_; conv => whnf) | (refine ACode.s_label ?_; conv => whnf))
        refine ⟨fun h => ?_, fun h => ?_⟩
        · have h : k < w.length := by simpa using h
          have hw1 : Wr .i64 ((k : Int) + 1) = ((k + 1 : Nat) : Int) := by rw [Wr64 _ (by omega) (by omega)]; rfl
          have hfc : nameC w[k] = (smallB w[k] || digB w[k] || decide (w[k].toNat = 95)) := rfl
          have ht := all_take nameC w k h
          have hff := all_false nameC w k h
          conv => whnf
          repeat (first | refine ACode.seq ?_ | (refine ACode.s_reg tys_ok ?_; conv => whnf) | refine ACode.s_block ?_ | refine ACode.s_scope ?_ | (refine ACode.s_cond ?_; conv => whnf) | (refine ACode.s_exit ?_; conv => whnf) | (refine ACode.s_ret ?_; conv => whnf) | (refine ACode.s_skip ?_; conv => whnf) | (refine ACode.s_label ?_; conv => whnf))
          refine ⟨by omega, _, bytes_get w k h, ?_⟩
          conv => whnf
          repeat (first | refine ACode.seq ?_ | (refine ACode.s_reg tys_ok ?_; conv => whnf) | refine ACode.s_block ?_ | refine ACode.s_scope ?_ | (refine ACode.s_cond ?_; conv => whnf) | (refine ACode.s_exit ?_; conv => whnf) | (refine ACode.s_ret ?_; conv => whnf) | (refine ACode.s_skip ?_; conv => whnf) | (refine ACode.s_label ?_; conv => whnf))
          repeat' (first | (refine And.intro (fun _ => ?_) (fun _ => ?_) <;> conv => whnf) | (refine ACall.of_spec (isSmall_spec w[k]) rfl fun r hr => ?_; subst hr; conv => whnf) | (refine ACall.of_spec (isDigit_spec w[k]) rfl fun r hr => ?_; subst hr; conv => whnf) | refine ACode.seq ?_ | (refine ACode.s_reg tys_ok ?_; conv => whnf) | refine ACode.s_block ?_ | refine ACode.s_scope ?_ | (refine ACode.s_cond ?_; conv => whnf) | (refine ACode.s_exit ?_; conv => whnf) | (refine ACode.s_ret ?_; conv => whnf) | (refine ACode.s_skip ?_; conv => whnf) | (refine ACode.s_label ?_; conv => whnf))
          all_goals first
            | (refine congrArg AV.bool ?_
               have hn : nameC w[k] = false := by rw [hfc]; simp_all <;> omega
               rw [hf, hff hn])
            | (have hy : nameC w[k] = true := by rw [hfc]; simp_all <;> omega
               refine ⟨k + 1, ?_⟩
               conv => whnf
               repeat (refine And.intro ?_ ?_; (focus (first | rfl | (simp; done) | (first | exact hw1; done))); conv => whnf)
               exact ⟨⟨by omega, by rw [ht, ha, hy]; rfl⟩, by omega⟩)
        · have h : k = w.length := by simp at h; omega
          rw [h, List.take_length] at ha
          conv => whnf
          repeat (first | refine ACode.seq ?_ | (refine ACode.s_reg tys_ok ?_; conv => whnf) | refine ACode.s_block ?_ | refine ACode.s_scope ?_ | (refine ACode.s_cond ?_; conv => whnf) | (refine ACode.s_exit ?_; conv => whnf) | (refine ACode.s_ret ?_; conv => whnf) | (refine ACode.s_skip ?_; conv => whnf) | (refine ACode.s_label ?_; conv => whnf))
          exact congrArg AV.bool (by rw [hf, ha])
  · exact congrArg AV.bool (by rename_i h1 h2; simp at h2; unfold nameB; rw [decide_eq_false (show ¬ w.length ≤ 16 by omega)]; simp)
  · exact congrArg AV.bool (by rename_i h1; simp at h1; unfold nameB; rw [decide_eq_false (show ¬ 1 ≤ w.length by omega)]; simp)
set_option maxRecDepth 100000 in
theorem matches_spec (w p : Bs) (hw : w.length ≤ 9223372036854775807) : Ctr Tryz.prog 58 [.str w, .str p] (fun r => r = .bool (matchB w p)) := by
  refine Ctr.of_body Tryz.func58 rfl tys_ok (by kernel_rfl) ?_
  conv => whnf
  repeat (first | refine ACode.seq ?_ | (refine ACode.s_reg tys_ok ?_; conv => whnf) | refine ACode.s_block ?_ | refine ACode.s_scope ?_ | (refine ACode.s_cond ?_; conv => whnf) | (refine ACode.s_exit ?_; conv => whnf) | (refine ACode.s_ret ?_; conv => whnf) | (refine ACode.s_skip ?_; conv => whnf) | (refine ACode.s_label ?_; conv => whnf))
  repeat' (first | (refine And.intro (fun _ => ?_) (fun _ => ?_) <;> conv => whnf) | refine ACode.seq ?_ | (refine ACode.s_reg tys_ok ?_; conv => whnf) | refine ACode.s_block ?_ | refine ACode.s_scope ?_ | (refine ACode.s_cond ?_; conv => whnf) | (refine ACode.s_exit ?_; conv => whnf) | (refine ACode.s_ret ?_; conv => whnf) | (refine ACode.s_skip ?_; conv => whnf) | (refine ACode.s_label ?_; conv => whnf))
  · rename_i h1
    have h1 : w.length ≠ p.length := by simp at h1; omega
    exact congrArg AV.bool (match_len h1).symm
  · rename_i h1
    have h1 : w.length = p.length := by simp at h1; omega
    refine ACode.loopD (fun k : Nat => mk 41 [(0, .str w), (1, .str p), (4, .lit false), (13, .sl 1 (bytesA w)), (14, .int .i64 w.length), (15, .int .i64 k)]) (fun _ => []) (fun k => k ≤ w.length ∧ matchB w p = matchB (w.drop k) (p.drop k)) (fun k => w.length - k) (fun _ _ => ⟨rfl, trivial⟩) ⟨0, ?_⟩ (fun _ => rfl) fun k hk => ?_
    · conv => whnf
      repeat (refine And.intro ?_ ?_; (focus (first | rfl | (simp; done))); conv => whnf)
      simp
    · obtain ⟨hk, ha⟩ := hk
      repeat (first | refine ACode.seq ?_ | (refine ACode.s_reg tys_ok ?_; conv => whnf) | refine ACode.s_block ?_ | refine ACode.s_scope ?_ | (refine ACode.s_cond ?_; conv => whnf) | (refine ACode.s_exit ?_; conv => whnf) | (refine ACode.s_ret ?_; conv => whnf) | (refine ACode.s_skip ?_; conv => whnf) | (refine ACode.s_label ?_; conv => whnf))
      refine ⟨fun h => ?_, fun h => ?_⟩
      · have h : k < w.length := by simpa using h
        have hw1 : Wr .i64 ((k : Int) + 1) = ((k + 1 : Nat) : Int) := by rw [Wr64 _ (by omega) (by omega)]; rfl
        have hgp : p.getD (k : Int).toNat 0 = p[k] := by simp [List.getD, show k < p.length by omega]
        have hm : matchB w p = ((!decide (p[k].toNat = 57) || digB w[k]) && (!decide (p[k].toNat = 65) || letterB w[k]) && matchB (w.drop (k + 1)) (p.drop (k + 1))) := by
          rw [ha, List.drop_eq_getElem_cons h, List.drop_eq_getElem_cons (by omega : k < p.length)]; rfl
        conv => whnf
        repeat (first | refine ACode.seq ?_ | (refine ACode.s_reg tys_ok ?_; conv => whnf) | refine ACode.s_block ?_ | refine ACode.s_scope ?_ | (refine ACode.s_cond ?_; conv => whnf) | (refine ACode.s_exit ?_; conv => whnf) | (refine ACode.s_ret ?_; conv => whnf) | (refine ACode.s_skip ?_; conv => whnf) | (refine ACode.s_label ?_; conv => whnf))
        refine ⟨by omega, _, bytes_get w k h, ?_⟩
        conv => whnf
        repeat (first | refine ACode.seq ?_ | (refine ACode.s_reg tys_ok ?_; conv => whnf) | refine ACode.s_block ?_ | refine ACode.s_scope ?_ | (refine ACode.s_cond ?_; conv => whnf) | (refine ACode.s_exit ?_; conv => whnf) | (refine ACode.s_ret ?_; conv => whnf) | (refine ACode.s_skip ?_; conv => whnf) | (refine ACode.s_label ?_; conv => whnf))
        repeat' (first | (refine And.intro (fun _ => ?_) (fun _ => ?_) <;> conv => whnf) | (refine And.intro ⟨by omega, by omega⟩ ?_; (conv => whnf); first | rw [hgp]) | (refine ACall.of_spec (isLetter_spec w[k]) rfl fun r hr => ?_; subst hr; conv => whnf) | (refine ACall.of_spec (isDigit_spec w[k]) rfl fun r hr => ?_; subst hr; conv => whnf) | refine ACode.seq ?_ | (refine ACode.s_reg tys_ok ?_; conv => whnf) | refine ACode.s_block ?_ | refine ACode.s_scope ?_ | (refine ACode.s_cond ?_; conv => whnf) | (refine ACode.s_exit ?_; conv => whnf) | (refine ACode.s_ret ?_; conv => whnf) | (refine ACode.s_skip ?_; conv => whnf) | (refine ACode.s_label ?_; conv => whnf))
        all_goals first
          | (refine congrArg AV.bool ?_
             have hn : ((!decide (p[k].toNat = 57) || digB w[k]) && (!decide (p[k].toNat = 65) || letterB w[k])) = false := by clear hm ha; simp_all <;> omega
             rw [hm, hn]; rfl)
          | (have hy : ((!decide (p[k].toNat = 57) || digB w[k]) && (!decide (p[k].toNat = 65) || letterB w[k])) = true := by clear hm ha; simp_all <;> omega
             refine ⟨k + 1, ?_⟩
             conv => whnf
             repeat (refine And.intro ?_ ?_; (focus (first | rfl | (simp; done) | (first | exact hw1; done))); conv => whnf)
             exact ⟨⟨by omega, by rw [hm, hy]; rfl⟩, by omega⟩)
          | trace_state
      · have h : k = w.length := by simp at h; omega
        rw [h, List.drop_length, h1, List.drop_length] at ha
        conv => whnf
        repeat (first | refine ACode.seq ?_ | (refine ACode.s_reg tys_ok ?_; conv => whnf) | refine ACode.s_block ?_ | refine ACode.s_scope ?_ | (refine ACode.s_cond ?_; conv => whnf) | (refine ACode.s_exit ?_; conv => whnf) | (refine ACode.s_ret ?_; conv => whnf) | (refine ACode.s_skip ?_; conv => whnf) | (refine ACode.s_label ?_; conv => whnf))
        exact congrArg AV.bool ha.symm
end Go.Proofs.YtbodeejogdckgaaGreatDoor
