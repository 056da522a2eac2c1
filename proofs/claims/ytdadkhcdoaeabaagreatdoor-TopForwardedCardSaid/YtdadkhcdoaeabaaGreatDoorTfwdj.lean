/-
  The closed facts of 'TopForwarded', one by one.
-/
import Derived.Test.YtdadkhcdoaeabaaGreatDoorProg
import Derived.Test.YtdadkhcdoaeabaaGreatDoorChecked
import Derived.Test.YtdadkhcdoaeabaaGreatDoorRows
import Derived.JoinedOf
import Derived.KernelRfl
set_option linter.unusedVariables false
set_option maxRecDepth 100000
namespace Go.Proofs.YtdadkhcdoaeabaaGreatDoor
theorem He:Tryz.pinned.checked.prog.funcNamed "postilion/postiliontop.TopForwarded"=some 3:=by kernel_rfl
theorem RP:laidOutB Tryz.pinned.checked.prog=true:=by kernel_rfl
theorem RO:mapsRowed Tryz.pinned.checked.prog=true:=by kernel_rfl
theorem RN:(Rows.topForwardedRow.inPlace == Tryz.pinned.checked.prog.inPlace 3)=true:=by kernel_rfl
theorem RM:(Rows.topForwardedRow.unfollowed == Tryz.pinned.checked.prog.unfollowed 3)=true:=by kernel_rfl
theorem RL:(Rows.topForwardedRow.recurses == Tryz.pinned.checked.prog.recurses 3)=true:=by kernel_rfl
theorem RJ:(Rows.topForwardedRow.named == Tryz.pinned.checked.prog.varsNamed 3)=true:=by kernel_rfl
theorem Mi:joinedFacts Tryz.pinned.checked.prog 3 Tryz.f3 Rows.topForwardedSpec Rows.topForwardedRow=true:=by
  unfold joinedFacts
  rw[RP,RO,RN,RM,RL,RJ]
  kernel_rfl
end Go.Proofs.YtdadkhcdoaeabaaGreatDoor