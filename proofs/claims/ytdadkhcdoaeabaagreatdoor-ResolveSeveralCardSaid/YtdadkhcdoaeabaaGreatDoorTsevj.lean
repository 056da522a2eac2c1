/-
  The closed facts of 'ResolveSeveral', one by one.
-/
import Derived.Test.YtdadkhcdoaeabaaGreatDoorProg
import Derived.Test.YtdadkhcdoaeabaaGreatDoorChecked
import Derived.Test.YtdadkhcdoaeabaaGreatDoorRows
import Derived.JoinedOf
import Derived.KernelRfl
set_option linter.unusedVariables false
set_option maxRecDepth 100000
namespace Go.Proofs.YtdadkhcdoaeabaaGreatDoor
theorem FP:Tryz.pinned.checked.prog.funcNamed "postilion/postilionlaw08.ResolveSeveral"=some 7:=by kernel_rfl
theorem M3:laidOutB Tryz.pinned.checked.prog=true:=by kernel_rfl
theorem M1:mapsRowed Tryz.pinned.checked.prog=true:=by kernel_rfl
theorem MZ:(Rows.resolveSeveralRow.inPlace == Tryz.pinned.checked.prog.inPlace 7)=true:=by kernel_rfl
theorem MY:(Rows.resolveSeveralRow.unfollowed == Tryz.pinned.checked.prog.unfollowed 7)=true:=by kernel_rfl
theorem MX:(Rows.resolveSeveralRow.recurses == Tryz.pinned.checked.prog.recurses 7)=true:=by kernel_rfl
theorem MW:(Rows.resolveSeveralRow.named == Tryz.pinned.checked.prog.varsNamed 7)=true:=by kernel_rfl
theorem JB:joinedFacts Tryz.pinned.checked.prog 7 Tryz.f7 Rows.resolveSeveralSpec Rows.resolveSeveralRow=true:=by
  unfold joinedFacts
  rw[M3,M1,MZ,MY,MX,MW]
  kernel_rfl
end Go.Proofs.YtdadkhcdoaeabaaGreatDoor