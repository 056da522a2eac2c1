/-
  The closed facts of 'ResolveOrders', one by one.
-/
import Derived.Test.YtdadkhcdoaeabaaGreatDoorProg
import Derived.Test.YtdadkhcdoaeabaaGreatDoorChecked
import Derived.Test.YtdadkhcdoaeabaaGreatDoorRows
import Derived.JoinedOf
import Derived.KernelRfl
set_option linter.unusedVariables false
set_option maxRecDepth 100000
namespace Go.Proofs.YtdadkhcdoaeabaaGreatDoor
theorem GH:Tryz.pinned.checked.prog.funcNamed "postilion/postilionlaw08.ResolveOrders"=some 10:=by kernel_rfl
theorem PX:laidOutB Tryz.pinned.checked.prog=true:=by kernel_rfl
theorem PW:mapsRowed Tryz.pinned.checked.prog=true:=by kernel_rfl
theorem PV:(Rows.resolveOrdersRow.inPlace == Tryz.pinned.checked.prog.inPlace 10)=true:=by kernel_rfl
theorem PU:(Rows.resolveOrdersRow.unfollowed == Tryz.pinned.checked.prog.unfollowed 10)=true:=by kernel_rfl
theorem PT:(Rows.resolveOrdersRow.recurses == Tryz.pinned.checked.prog.recurses 10)=true:=by kernel_rfl
theorem PS:(Rows.resolveOrdersRow.named == Tryz.pinned.checked.prog.varsNamed 10)=true:=by kernel_rfl
theorem KZ:joinedFacts Tryz.pinned.checked.prog 10 Tryz.f10 Rows.resolveOrdersSpec Rows.resolveOrdersRow=true:=by
  unfold joinedFacts
  rw[PX,PW,PV,PU,PT,PS]
  kernel_rfl
end Go.Proofs.YtdadkhcdoaeabaaGreatDoor