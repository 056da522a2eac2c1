/-
  uses.
-/
import Derived.Test.YtkmhjamdgncpoaaDoorF3
set_option linter.unusedVariables false
set_option linter.unusedSimpArgs false
namespace Go.Proofs.YtkmhjamdgncpoaaDoor
open Go.Av Go.Shelf Pl Go.RowKit
set_option maxRecDepth 100000 in
theorem uses_spec (c : Ch) : Ctr Tryd.prog 33 [c.v] (fun r => r = .bool (usesB c)) := by
  refine Ctr.of_body Tryd.func33 rfl tys_ok (by kernel_rfl) ?_
  conv => whnf
  repeat (first | refine ACode.seq ?_ | (refine ACode.s_reg tys_ok ?_; conv => whnf) | refine ACode.s_block ?_ | refine ACode.s_scope ?_ | (refine ACode.s_cond ?_; conv => whnf) | (refine ACode.s_exit ?_; conv => whnf) | (refine ACode.s_ret ?_; conv => whnf) | (refine ACode.s_skip ?_; conv => whnf) | (refine ACode.s_label ?_; conv => whnf))
  repeat' (first | (refine And.intro (fun _ => ?_) (fun _ => ?_) <;> conv => whnf) | (refine ACall.of_spec (isCode_spec c.co) rfl fun r hr => ?_; subst hr; conv => whnf) | (refine ACall.of_spec (isName_spec c.to) rfl fun r hr => ?_; subst hr; conv => whnf) | (refine ACall.of_spec (isName_spec c.na) rfl fun r hr => ?_; subst hr; conv => whnf) | (refine ACall.of_spec (isNumber_spec c.lo) rfl fun r hr => ?_; subst hr; conv => whnf) | (refine ACall.of_spec (isNumber_spec c.hi) rfl fun r hr => ?_; subst hr; conv => whnf) | refine ACode.seq ?_ | (refine ACode.s_reg tys_ok ?_; conv => whnf) | refine ACode.s_block ?_ | refine ACode.s_scope ?_ | (refine ACode.s_cond ?_; conv => whnf) | (refine ACode.s_exit ?_; conv => whnf) | (refine ACode.s_ret ?_; conv => whnf) | (refine ACode.s_skip ?_; conv => whnf) | (refine ACode.s_label ?_; conv => whnf))
  all_goals (refine congrArg AV.bool ?_; simp only [decide_eq_false_iff_not, decide_eq_true_eq] at *; simp_all [usesB])
  all_goals (intro h; omega)
end Go.Proofs.YtkmhjamdgncpoaaDoor
