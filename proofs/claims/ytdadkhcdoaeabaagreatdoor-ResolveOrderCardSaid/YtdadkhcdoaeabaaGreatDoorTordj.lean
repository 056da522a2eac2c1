/-
  The closed facts of 'ResolveOrder', one by one.
-/
import Derived.Test.YtdadkhcdoaeabaaGreatDoorProg
import Derived.Test.YtdadkhcdoaeabaaGreatDoorChecked
import Derived.Test.YtdadkhcdoaeabaaGreatDoorRows
import Derived.JoinedOf
import Derived.KernelRfl
set_option linter.unusedVariables false
set_option maxRecDepth 100000
namespace Go.Proofs.YtdadkhcdoaeabaaGreatDoor
theorem Ho:Tryz.pinned.checked.prog.funcNamed "postilion/postilionlaw08.ResolveOrder"=some 8:=by kernel_rfl
theorem R1:laidOutB Tryz.pinned.checked.prog=true:=by kernel_rfl
theorem R0:mapsRowed Tryz.pinned.checked.prog=true:=by kernel_rfl
theorem RZ:(Rows.resolveOrderRow.inPlace == Tryz.pinned.checked.prog.inPlace 8)=true:=by kernel_rfl
theorem RY:(Rows.resolveOrderRow.unfollowed == Tryz.pinned.checked.prog.unfollowed 8)=true:=by kernel_rfl
theorem RX:(Rows.resolveOrderRow.recurses == Tryz.pinned.checked.prog.recurses 8)=true:=by kernel_rfl
theorem RW:(Rows.resolveOrderRow.named == Tryz.pinned.checked.prog.varsNamed 8)=true:=by kernel_rfl
theorem Mo:joinedFacts Tryz.pinned.checked.prog 8 Tryz.f8 Rows.resolveOrderSpec Rows.resolveOrderRow=true:=by
  unfold joinedFacts
  rw[R1,R0,RZ,RY,RX,RW]
  kernel_rfl
end Go.Proofs.YtdadkhcdoaeabaaGreatDoor