/-
  The reference: Small, Strings.
-/
import Derived.Test.YtkmhjamdgncpoaaDoorR5b
set_option linter.unusedVariables false
set_option linter.unusedSimpArgs false
namespace Go.Proofs.YtkmhjamdgncpoaaDoor
open Go.Av Go.Shelf Pl Go.RowKit
namespace Pl
def smallC (c : Ch) : Bool := decide (c.na.length ≤ 100) && decide (c.to.length ≤ 100) && decide (c.co.length ≤ 20)
def smallR (r : List Ch) : Bool := decide (r.length ≤ 70) && r.all smallC
end Pl
set_option maxRecDepth 100000 in
theorem Small_spec (r : List Ch) : Ctr Tryd.prog 21 [chs r] (fun x => x = .bool (smallR r)) := by
  refine Ctr.of_body Tryd.func21 rfl tys_ok (by kernel_rfl) ?_
  conv => whnf
  repeat (first | refine ACode.seq ?_ | (refine ACode.s_reg tys_ok ?_; conv => whnf) | refine ACode.s_block ?_ | refine ACode.s_scope ?_ | (refine ACode.s_cond ?_; conv => whnf) | (refine ACode.s_exit ?_; conv => whnf) | (refine ACode.s_ret ?_; conv => whnf) | (refine ACode.s_skip ?_; conv => whnf) | (refine ACode.s_label ?_; conv => whnf))
  refine ⟨fun h => ?_, fun h => ?_⟩
  · have h : ¬ r.length ≤ 70 := by simp at h; omega
    conv => whnf
    repeat (first | refine ACode.seq ?_ | (refine ACode.s_reg tys_ok ?_; conv => whnf) | refine ACode.s_block ?_ | refine ACode.s_scope ?_ | (refine ACode.s_cond ?_; conv => whnf) | (refine ACode.s_exit ?_; conv => whnf) | (refine ACode.s_ret ?_; conv => whnf) | (refine ACode.s_skip ?_; conv => whnf) | (refine ACode.s_label ?_; conv => whnf))
    unfold smallR
    rw [decide_eq_false h]
    rfl
  · have h : r.length ≤ 70 := by simp at h; omega
    have hr : smallR r = r.all smallC := by unfold smallR; rw [decide_eq_true h]; rfl
    conv => whnf
    repeat (first | refine ACode.seq ?_ | (refine ACode.s_reg tys_ok ?_; conv => whnf) | refine ACode.s_block ?_ | refine ACode.s_scope ?_ | (refine ACode.s_cond ?_; conv => whnf) | (refine ACode.s_exit ?_; conv => whnf) | (refine ACode.s_ret ?_; conv => whnf) | (refine ACode.s_skip ?_; conv => whnf) | (refine ACode.s_label ?_; conv => whnf))
    refine ACode.loopD (fun k : Nat => mk 38 [(0, chs r), (3, .int .i64 k)]) (fun _ => []) (fun k => k ≤ r.length ∧ (r.take k).all smallC = true) (fun k => r.length - k) (fun _ _ => ⟨rfl, trivial⟩) ⟨0, ?_⟩ (fun _ => rfl) fun k hk => ?_
    · conv => whnf
      repeat (refine And.intro ?_ ?_; (focus (first | rfl | (simp; done))); conv => whnf)
      simp
    · obtain ⟨hk, ha⟩ := hk
      have hw1 : Wr .i64 ((k : Int) + 1) = ((k + 1 : Nat) : Int) := by rw [Wr64 _ (by omega) (by omega)]; rfl
      repeat (first | refine ACode.seq ?_ | (refine ACode.s_reg tys_ok ?_; conv => whnf) | refine ACode.s_block ?_ | refine ACode.s_scope ?_ | (refine ACode.s_cond ?_; conv => whnf) | (refine ACode.s_exit ?_; conv => whnf) | (refine ACode.s_ret ?_; conv => whnf) | (refine ACode.s_skip ?_; conv => whnf) | (refine ACode.s_label ?_; conv => whnf))
      refine ⟨fun h1 => ?_, fun h1 => ?_⟩
      · have h1 : k < r.length := by simpa using h1
        have gk : (List.map Ch.v r)[((k : Int)).toNat]? = some (r[k]).v := by simp [h1]
        have ht : (r.take (k + 1)).all smallC = ((r.take k).all smallC && smallC r[k]) := by rw [List.take_succ_eq_append_getElem h1, List.all_append]; simp
        conv => whnf
        repeat (first | refine ACode.seq ?_ | (refine ACode.s_reg tys_ok ?_; conv => whnf) | refine ACode.s_block ?_ | refine ACode.s_scope ?_ | (refine ACode.s_cond ?_; conv => whnf) | (refine ACode.s_exit ?_; conv => whnf) | (refine ACode.s_ret ?_; conv => whnf) | (refine ACode.s_skip ?_; conv => whnf) | (refine ACode.s_label ?_; conv => whnf))
        repeat' (first | (refine And.intro (fun _ => ?_) (fun _ => ?_) <;> conv => whnf) | (refine ⟨by omega, (r[k]).v, gk, ?_⟩; conv => whnf))
        all_goals (
          repeat (first | refine ACode.seq ?_ | (refine ACode.s_reg tys_ok ?_; conv => whnf) | refine ACode.s_block ?_ | refine ACode.s_scope ?_ | (refine ACode.s_cond ?_; conv => whnf) | (refine ACode.s_exit ?_; conv => whnf) | (refine ACode.s_ret ?_; conv => whnf) | (refine ACode.s_skip ?_; conv => whnf) | (refine ACode.s_label ?_; conv => whnf))
          try (repeat' (first | (refine And.intro (fun _ => ?_) (fun _ => ?_) <;> conv => whnf) | (refine ⟨by omega, (r[k]).v, gk, ?_⟩; conv => whnf))))
        all_goals (
          repeat' (first | (refine And.intro (fun _ => ?_) (fun _ => ?_) <;> conv => whnf) | refine ACode.seq ?_ | (refine ACode.s_reg tys_ok ?_; conv => whnf) | refine ACode.s_block ?_ | refine ACode.s_scope ?_ | (refine ACode.s_cond ?_; conv => whnf) | (refine ACode.s_exit ?_; conv => whnf) | (refine ACode.s_ret ?_; conv => whnf) | (refine ACode.s_skip ?_; conv => whnf) | (refine ACode.s_label ?_; conv => whnf))
          skip)
        all_goals first
          | (refine congrArg AV.bool ?_
             have hn : smallC r[k] = false := by (rw [Bool.eq_false_iff]; intro hq; clear ha ht hr gk; unfold smallC at hq; simp only [Bool.and_eq_true, decide_eq_true_eq, decide_eq_false_iff_not] at *; omega)
             rw [hr, List.all_eq_false.2 ⟨r[k], List.getElem_mem h1, by simp [hn]⟩])
          | (have hy : smallC r[k] = true := by (clear ha ht hr gk; unfold smallC; simp only [Bool.and_eq_true, decide_eq_true_eq, decide_eq_false_iff_not] at *; omega)
             refine ⟨k + 1, ?_⟩
             conv => whnf
             repeat (refine And.intro ?_ ?_; (focus (first | rfl | (simp; done) | (first | exact hw1; done))); conv => whnf)
             exact ⟨⟨by omega, by rw [ht, ha, hy]; rfl⟩, by omega⟩)
          | trace_state
      · have h1 : k = r.length := by simp at h1; omega
        rw [h1, List.take_length] at ha
        conv => whnf
        repeat (first | refine ACode.seq ?_ | (refine ACode.s_reg tys_ok ?_; conv => whnf) | refine ACode.s_block ?_ | refine ACode.s_scope ?_ | (refine ACode.s_cond ?_; conv => whnf) | (refine ACode.s_exit ?_; conv => whnf) | (refine ACode.s_ret ?_; conv => whnf) | (refine ACode.s_skip ?_; conv => whnf) | (refine ACode.s_label ?_; conv => whnf))
        rw [hr, ha]
end Go.Proofs.YtkmhjamdgncpoaaDoor
