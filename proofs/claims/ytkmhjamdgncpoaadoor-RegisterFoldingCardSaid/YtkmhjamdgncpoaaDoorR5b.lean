/-
  The reference: formed, of every kind.
-/
import Derived.Test.YtkmhjamdgncpoaaDoorR5
set_option linter.unusedVariables false
set_option linter.unusedSimpArgs false
namespace Go.Proofs.YtkmhjamdgncpoaaDoor
open Go.Av Go.Shelf Pl Go.RowKit
set_option maxRecDepth 100000 in
set_option maxHeartbeats 4000000 in
theorem formed0 (da ki sr : Int) (co tw na : Bs) (lo hi sh : Int) (k1 : ki ≠ 1) (k2 : ki ≠ 2) (k3 : ki ≠ 3) (k4 : ki ≠ 4) (k5 : ki ≠ 5) (k6 : ki ≠ 6) : Ctr Tryd.prog 41 [chA da ki sr co tw na lo hi sh] (fun r => r = .bool (dayB da && usesB ⟨da, ki, sr, co, tw, na, lo, hi, sh⟩)) := by
  have hu : usesB ⟨da, ki, sr, co, tw, na, lo, hi, sh⟩ = false := by unfold usesB; simp [k1, k2, k3, k4, k5, k6]
  rw [hu, Bool.and_false]
  refine Ctr.of_body Tryd.func41 rfl tys_ok (by kernel_rfl) ?_
  conv => whnf
  repeat (first | refine ACode.seq ?_ | (refine ACode.s_reg tys_ok ?_; conv => whnf) | refine ACode.s_block ?_ | refine ACode.s_scope ?_ | (refine ACode.s_cond ?_; conv => whnf) | (refine ACode.s_exit ?_; conv => whnf) | (refine ACode.s_ret ?_; conv => whnf) | (refine ACode.s_skip ?_; conv => whnf) | (refine ACode.s_label ?_; conv => whnf))
  repeat' (first | (refine no_br ?_ (fun _ => ?_); (focus (simp [k1, k2, k3, k4, k5, k6]; done)); conv => whnf) | (refine yes_br ?_ (fun _ => ?_); (focus (simp [k1, k2, k3, k4, k5, k6]; done)); conv => whnf) | (refine And.intro (fun _ => ?_) (fun _ => ?_) <;> conv => whnf) | refine ACode.seq ?_ | (refine ACode.s_reg tys_ok ?_; conv => whnf) | refine ACode.s_block ?_ | refine ACode.s_scope ?_ | (refine ACode.s_cond ?_; conv => whnf) | (refine ACode.s_exit ?_; conv => whnf) | (refine ACode.s_ret ?_; conv => whnf) | (refine ACode.s_skip ?_; conv => whnf) | (refine ACode.s_label ?_; conv => whnf))
  all_goals first
    | (exfalso; clear hu; simp_all; done)
    | (refine congrArg AV.bool ?_; simp_all <;> omega)
theorem formed_spec (c : Ch) (h1 : c.na.length ≤ 1000) (h2 : c.co.length ≤ 1000) (h3 : c.to.length ≤ 1000) : Ctr Tryd.prog 41 [c.v] (fun r => r = .bool (dayB c.da && usesB c)) := by
  obtain ⟨da, ki, sr, co, tw, na, lo, hi, sh⟩ := c
  by_cases k1 : ki = 1
  · subst k1; exact formed1 da sr co tw na lo hi sh h1 h2 h3
  by_cases k2 : ki = 2
  · subst k2; exact formed2 da sr co tw na lo hi sh h1 h2 h3
  by_cases k3 : ki = 3
  · subst k3; exact formed3 da sr co tw na lo hi sh h1 h2 h3
  by_cases k4 : ki = 4
  · subst k4; exact formed4 da sr co tw na lo hi sh h1 h2 h3
  by_cases k5 : ki = 5
  · subst k5; exact formed5 da sr co tw na lo hi sh h1 h2 h3
  by_cases k6 : ki = 6
  · subst k6; exact formed6 da sr co tw na lo hi sh h1 h2 h3
  exact formed0 da ki sr co tw na lo hi sh k1 k2 k3 k4 k5 k6
end Go.Proofs.YtkmhjamdgncpoaaDoor
