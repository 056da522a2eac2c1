/-
  The examples: the program's.
-/
import Derived.Test.YtiojkoaefabjbaaGreatDoorG3
set_option linter.unusedVariables false
set_option linter.unusedSimpArgs false
namespace Go.Proofs.YtiojkoaefabjbaaGreatDoor
open Go.Av Go.Shelf Pl Go.RowKit
theorem example_spec : Ctr Tryz.prog 24 [] (fun r => r = .tuple [sns exL, exA.v, exB.v]) := by
  refine Ctr.of_body Tryz.func24 rfl tys_ok (by kernel_rfl) ?_
  conv => whnf
  repeat (first | refine ACode.seq ?_ | (refine ACode.s_reg tys_ok ?_; conv => whnf) | refine ACode.s_block ?_ | refine ACode.s_scope ?_ | (refine ACode.s_cond ?_; conv => whnf) | (refine ACode.s_exit ?_; conv => whnf) | (refine ACode.s_ret ?_; conv => whnf) | (refine ACode.s_skip ?_; conv => whnf) | (refine ACode.s_label ?_; conv => whnf))
  refine ACode.drawAll (.one 0 (.one 1 (.one 2 (.one 3 (.one 4 (.one 5 .done .none) .none) .none) (.one 3 (.one 2 (.one 4 (.one 5 .done .none) .none) (.one 4 (.one 2 (.one 5 .done .none) .none) .none)) .none)) (.one 2 (.one 1 (.one 3 (.one 4 (.one 5 .done .none) .none) .none) (.one 3 (.one 1 (.one 4 (.one 5 .done .none) .none) .none) .none)) (.one 3 (.one 1 (.one 2 (.one 4 (.one 5 .done .none) .none) (.one 4 (.one 2 (.one 5 .done .none) .none) .none)) (.one 2 (.one 1 (.one 4 (.one 5 .done .none) .none) .none) .none)) .none))) (.one 1 (.one 0 (.one 2 (.one 3 (.one 4 (.one 5 .done .none) .none) .none) (.one 3 (.one 2 (.one 4 (.one 5 .done .none) .none) (.one 4 (.one 2 (.one 5 .done .none) .none) .none)) .none)) (.one 2 (.one 0 (.one 3 (.one 4 (.one 5 .done .none) .none) .none) .none) .none)) (.one 2 (.one 0 (.one 1 (.one 3 (.one 4 (.one 5 .done .none) .none) .none) (.one 3 (.one 1 (.one 4 (.one 5 .done .none) .none) .none) .none)) (.one 1 (.one 0 (.one 3 (.one 4 (.one 5 .done .none) .none) .none) .none) .none)) .none))) tys_ok (by kernel_rfl) (by kernel_rfl) ?_
  repeat' (first | exact True.intro | (refine EnF.step ?_; conv => whnf) | (refine And.intro ?_ ?_ <;> conv => whnf))
  all_goals (
    repeat (first | refine ACode.seq ?_ | (refine ACode.s_reg tys_ok ?_; conv => whnf) | refine ACode.s_block ?_ | refine ACode.s_scope ?_ | (refine ACode.s_cond ?_; conv => whnf) | (refine ACode.s_exit ?_; conv => whnf) | (refine ACode.s_ret ?_; conv => whnf) | (refine ACode.s_skip ?_; conv => whnf) | (refine ACode.s_label ?_; conv => whnf))
    refine ⟨⟨rfl, by simp [closed, closeds]⟩, ?_⟩
    conv => whnf
    refine ⟨1, ?_⟩
    conv => whnf
    refine ⟨⟨rfl, by simp [closed, closeds]⟩, ?_⟩
    rfl)
end Go.Proofs.YtiojkoaefabjbaaGreatDoor
