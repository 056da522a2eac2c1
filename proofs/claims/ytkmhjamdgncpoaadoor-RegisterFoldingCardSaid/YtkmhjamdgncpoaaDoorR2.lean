/-
  The reference: IsCode, Named, common, clash.
-/
import Derived.Test.YtkmhjamdgncpoaaDoorR1
import Derived.Test.YtkmhjamdgncpoaaDoorF8
set_option linter.unusedVariables false
set_option linter.unusedSimpArgs false
namespace Go.Proofs.YtkmhjamdgncpoaaDoor
open Go.Av Go.Shelf Pl Go.RowKit
set_option maxRecDepth 100000 in
theorem rIsCode_spec (w : Bs) (hw : w.length ≤ 1000) : Ctr Tryd.prog 55 [.str w] (fun r => r = .bool (codeB w)) := by
  refine Ctr.of_body Tryd.func55 rfl tys_ok (by kernel_rfl) ?_
  conv => whnf
  repeat (first | refine ACode.seq ?_ | (refine ACode.s_reg tys_ok ?_; conv => whnf) | refine ACode.s_block ?_ | refine ACode.s_scope ?_ | (refine ACode.s_cond ?_; conv => whnf) | (refine ACode.s_exit ?_; conv => whnf) | (refine ACode.s_ret ?_; conv => whnf) | (refine ACode.s_skip ?_; conv => whnf) | (refine ACode.s_label ?_; conv => whnf))
  have hl : codeB w = (decide (1 ≤ w.length) && decide (w.length ≤ 8) && w.all codeC) := rfl
  refine ACode.loopD (fun k : Nat => mk 40 [(0, .str w), (3, .int .i64 k)]) (fun _ => []) (fun k => k ≤ w.length ∧ (w.take k).all codeC = true) (fun k => w.length - k) (fun _ _ => ⟨rfl, trivial⟩) ⟨0, ?_⟩ (fun _ => rfl) fun k hk => ?_
  · conv => whnf
    repeat (refine And.intro ?_ ?_; (focus (first | rfl | (simp; done))); conv => whnf)
    simp
  · obtain ⟨hk, ha⟩ := hk
    repeat (first | refine ACode.seq ?_ | (refine ACode.s_reg tys_ok ?_; conv => whnf) | refine ACode.s_block ?_ | refine ACode.s_scope ?_ | (refine ACode.s_cond ?_; conv => whnf) | (refine ACode.s_exit ?_; conv => whnf) | (refine ACode.s_ret ?_; conv => whnf) | (refine ACode.s_skip ?_; conv => whnf) | (refine ACode.s_label ?_; conv => whnf))
    refine ⟨fun h => ?_, fun h => ?_⟩
    · have h : k < w.length := by simpa using h
      have hw1 : Wr .i64 ((k : Int) + 1) = ((k + 1 : Nat) : Int) := by rw [Wr64 _ (by omega) (by omega)]; rfl
      have ht := all_take codeC w k h
      have hff := all_false codeC w k h
      have hg : w.getD (k : Int).toNat 0 = w[k] := by simp [List.getD, h]
      conv => whnf
      repeat (first | refine ACode.seq ?_ | (refine ACode.s_reg tys_ok ?_; conv => whnf) | refine ACode.s_block ?_ | refine ACode.s_scope ?_ | (refine ACode.s_cond ?_; conv => whnf) | (refine ACode.s_exit ?_; conv => whnf) | (refine ACode.s_ret ?_; conv => whnf) | (refine ACode.s_skip ?_; conv => whnf) | (refine ACode.s_label ?_; conv => whnf))
      repeat' (first | (refine And.intro (fun _ => ?_) (fun _ => ?_) <;> conv => whnf) | (refine And.intro ⟨by omega, by omega⟩ ?_; (conv => whnf); first | rw [hg]) | refine ACode.seq ?_ | (refine ACode.s_reg tys_ok ?_; conv => whnf) | refine ACode.s_block ?_ | refine ACode.s_scope ?_ | (refine ACode.s_cond ?_; conv => whnf) | (refine ACode.s_exit ?_; conv => whnf) | (refine ACode.s_ret ?_; conv => whnf) | (refine ACode.s_skip ?_; conv => whnf) | (refine ACode.s_label ?_; conv => whnf))
      all_goals first
        | (have hn : codeC w[k] = false := by (simp only [decide_eq_true_eq, decide_eq_false_iff_not] at *; unfold codeC capB digB; simp; omega)
           refine congrArg AV.bool ?_
           rw [hl, hff hn, Bool.and_false])
        | (have hy : codeC w[k] = true := by (simp only [decide_eq_true_eq, decide_eq_false_iff_not] at *; unfold codeC capB digB; simp; omega)
           refine ⟨k + 1, ?_⟩
           conv => whnf
           repeat (refine And.intro ?_ ?_; (focus (first | rfl | (simp; done) | (first | exact hw1; done))); conv => whnf)
           exact ⟨⟨by omega, by rw [ht, ha, hy]; rfl⟩, by omega⟩)
    · have h : k = w.length := by simp at h; omega
      rw [h, List.take_length] at ha
      conv => whnf
      repeat (first | refine ACode.seq ?_ | (refine ACode.s_reg tys_ok ?_; conv => whnf) | refine ACode.s_block ?_ | refine ACode.s_scope ?_ | (refine ACode.s_cond ?_; conv => whnf) | (refine ACode.s_exit ?_; conv => whnf) | (refine ACode.s_ret ?_; conv => whnf) | (refine ACode.s_skip ?_; conv => whnf) | (refine ACode.s_label ?_; conv => whnf))
      repeat' (first | (refine And.intro (fun _ => ?_) (fun _ => ?_) <;> conv => whnf) | refine ACode.seq ?_ | (refine ACode.s_reg tys_ok ?_; conv => whnf) | refine ACode.s_block ?_ | refine ACode.s_scope ?_ | (refine ACode.s_cond ?_; conv => whnf) | (refine ACode.s_exit ?_; conv => whnf) | (refine ACode.s_ret ?_; conv => whnf) | (refine ACode.s_skip ?_; conv => whnf) | (refine ACode.s_label ?_; conv => whnf))
      · rename_i h1
        have h1 : 1 ≤ w.length := by simp at h1; omega
        refine congrArg AV.bool ?_
        rw [hl, ha, decide_eq_true h1]
        simp
        omega
      · rename_i h1
        have h1 : ¬ 1 ≤ w.length := by simp at h1; omega
        rw [hl, decide_eq_false h1]
        rfl
set_option maxRecDepth 100000 in
theorem Named_spec (s : St) (t : Bs) (hs : s.al.length ≤ 1000) (hsn : s.na.length ≤ 1000) (hsa : ∀ x ∈ s.al, x.length ≤ 1000) : Ctr Tryd.prog 17 [s.v, .str t] (fun r => r = .bool (namedS s t)) := by
  refine Ctr.of_body Tryd.func17 rfl tys_ok (by kernel_rfl) ?_
  conv => whnf
  repeat (first | refine ACode.seq ?_ | (refine ACode.s_reg tys_ok ?_; conv => whnf) | refine ACode.s_block ?_ | refine ACode.s_scope ?_ | (refine ACode.s_cond ?_; conv => whnf) | (refine ACode.s_exit ?_; conv => whnf) | (refine ACode.s_ret ?_; conv => whnf) | (refine ACode.s_skip ?_; conv => whnf) | (refine ACode.s_label ?_; conv => whnf))
  refine ACall.of_spec (Equal_spec s.na t (by omega)) rfl fun r hr => ?_
  subst hr
  conv => whnf
  repeat (first | refine ACode.seq ?_ | (refine ACode.s_reg tys_ok ?_; conv => whnf) | refine ACode.s_block ?_ | refine ACode.s_scope ?_ | (refine ACode.s_cond ?_; conv => whnf) | (refine ACode.s_exit ?_; conv => whnf) | (refine ACode.s_ret ?_; conv => whnf) | (refine ACode.s_skip ?_; conv => whnf) | (refine ACode.s_label ?_; conv => whnf))
  refine ⟨fun h => ?_, fun h => ?_⟩
  · conv => whnf
    repeat (first | refine ACode.seq ?_ | (refine ACode.s_reg tys_ok ?_; conv => whnf) | refine ACode.s_block ?_ | refine ACode.s_scope ?_ | (refine ACode.s_cond ?_; conv => whnf) | (refine ACode.s_exit ?_; conv => whnf) | (refine ACode.s_ret ?_; conv => whnf) | (refine ACode.s_skip ?_; conv => whnf) | (refine ACode.s_label ?_; conv => whnf))
    unfold namedS
    rw [h]
    rfl
  · have hnn : namedS s t = s.al.any fun a => eqF a t := by unfold namedS; rw [h]; rfl
    rw [hnn]
    conv => whnf
    repeat (first | refine ACode.seq ?_ | (refine ACode.s_reg tys_ok ?_; conv => whnf) | refine ACode.s_block ?_ | refine ACode.s_scope ?_ | (refine ACode.s_cond ?_; conv => whnf) | (refine ACode.s_exit ?_; conv => whnf) | (refine ACode.s_ret ?_; conv => whnf) | (refine ACode.s_skip ?_; conv => whnf) | (refine ACode.s_label ?_; conv => whnf))
    refine ACode.loopD (fun k : Nat => mk 24 [(1, .str t), (2, .ptr 0 0), (4, .lit false), (5, .int .i64 k)]) (fun _ => [.cells (stC s)]) (fun k => k ≤ s.al.length ∧ (s.al.take k).any (fun a => eqF a t) = false) (fun k => s.al.length - k) (fun _ _ => ⟨rfl, rfl, trivial⟩) ⟨0, ?_⟩ (fun _ => rfl) fun k hk => ?_
    · conv => whnf
      repeat (refine And.intro ?_ ?_; (focus (first | rfl | (simp; done))); conv => whnf)
      simp
    · obtain ⟨hk, ha⟩ := hk
      have hsl := strs_len s.al
      have hw1 : Wr .i64 ((k : Int) + 1) = ((k + 1 : Nat) : Int) := by rw [Wr64 _ (by omega) (by omega)]; rfl
      repeat (first | refine ACode.seq ?_ | (refine ACode.s_reg tys_ok ?_; conv => whnf) | refine ACode.s_block ?_ | refine ACode.s_scope ?_ | (refine ACode.s_cond ?_; conv => whnf) | (refine ACode.s_exit ?_; conv => whnf) | (refine ACode.s_ret ?_; conv => whnf) | (refine ACode.s_skip ?_; conv => whnf) | (refine ACode.s_label ?_; conv => whnf))
      refine ⟨fun h1 => ?_, fun h1 => ?_⟩
      · have h1 : k < s.al.length := by simpa using h1
        conv => whnf
        repeat (first | refine ACode.seq ?_ | (refine ACode.s_reg tys_ok ?_; conv => whnf) | refine ACode.s_block ?_ | refine ACode.s_scope ?_ | (refine ACode.s_cond ?_; conv => whnf) | (refine ACode.s_exit ?_; conv => whnf) | (refine ACode.s_ret ?_; conv => whnf) | (refine ACode.s_skip ?_; conv => whnf) | (refine ACode.s_label ?_; conv => whnf))
        refine ⟨by omega, _, strs_get s.al k h1, ?_⟩
        conv => whnf
        repeat (first | refine ACode.seq ?_ | (refine ACode.s_reg tys_ok ?_; conv => whnf) | refine ACode.s_block ?_ | refine ACode.s_scope ?_ | (refine ACode.s_cond ?_; conv => whnf) | (refine ACode.s_exit ?_; conv => whnf) | (refine ACode.s_ret ?_; conv => whnf) | (refine ACode.s_skip ?_; conv => whnf) | (refine ACode.s_label ?_; conv => whnf))
        refine ACall.of_spec (Equal_spec s.al[k] t (by have := hsa _ (List.getElem_mem h1); omega)) rfl fun r hr => ?_
        subst hr
        conv => whnf
        repeat (first | refine ACode.seq ?_ | (refine ACode.s_reg tys_ok ?_; conv => whnf) | refine ACode.s_block ?_ | refine ACode.s_scope ?_ | (refine ACode.s_cond ?_; conv => whnf) | (refine ACode.s_exit ?_; conv => whnf) | (refine ACode.s_ret ?_; conv => whnf) | (refine ACode.s_skip ?_; conv => whnf) | (refine ACode.s_label ?_; conv => whnf))
        repeat' (first | (refine And.intro (fun _ => ?_) (fun _ => ?_) <;> conv => whnf) | refine ACode.seq ?_ | (refine ACode.s_reg tys_ok ?_; conv => whnf) | refine ACode.s_block ?_ | refine ACode.s_scope ?_ | (refine ACode.s_cond ?_; conv => whnf) | (refine ACode.s_exit ?_; conv => whnf) | (refine ACode.s_ret ?_; conv => whnf) | (refine ACode.s_skip ?_; conv => whnf) | (refine ACode.s_label ?_; conv => whnf))
        · rename_i h5
          rw [show (s.al.any fun a => eqF a t) = true from List.any_eq_true.2 ⟨s.al[k], List.getElem_mem h1, h5⟩]
        · rename_i h5
          refine ⟨k + 1, ?_⟩
          conv => whnf
          repeat (refine And.intro ?_ ?_; (focus (first | rfl | (simp; done) | (first | exact hw1; done))); conv => whnf)
          exact ⟨⟨by omega, by rw [List.take_succ_eq_append_getElem h1, List.any_append, ha]; simpa using h5⟩, by omega⟩
      · have h1 : k = s.al.length := by simp at h1; omega
        rw [h1, List.take_length] at ha
        conv => whnf
        repeat (first | refine ACode.seq ?_ | (refine ACode.s_reg tys_ok ?_; conv => whnf) | refine ACode.s_block ?_ | refine ACode.s_scope ?_ | (refine ACode.s_cond ?_; conv => whnf) | (refine ACode.s_exit ?_; conv => whnf) | (refine ACode.s_ret ?_; conv => whnf) | (refine ACode.s_skip ?_; conv => whnf) | (refine ACode.s_label ?_; conv => whnf))
        rw [ha]
end Go.Proofs.YtkmhjamdgncpoaaDoor
