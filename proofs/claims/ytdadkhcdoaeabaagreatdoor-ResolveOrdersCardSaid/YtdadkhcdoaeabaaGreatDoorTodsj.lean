/-
  The closed facts of 'ResolveOrders', one by one.
-/
import Derived.Test.YtdadkhcdoaeabaaGreatDoorProg
import Derived.Test.YtdadkhcdoaeabaaGreatDoorChecked
import Derived.Test.YtdadkhcdoaeabaaGreatDoorRows
import Derived.JoinedOf
import Derived.KernelRfl
set_option linter.unusedVariables false
set_option maxRecDepth 100000
namespace Go.Proofs.YtdadkhcdoaeabaaGreatDoor
theorem Gj:Tryz.pinned.checked.prog.funcNamed "postilion/postilionlaw08.ResolveOrders"=some 10:=by kernel_rfl
theorem Oj:laidOutB Tryz.pinned.checked.prog=true:=by kernel_rfl
theorem Oi:mapsRowed Tryz.pinned.checked.prog=true:=by kernel_rfl
theorem Oh:(Rows.resolveOrdersRow.inPlace == Tryz.pinned.checked.prog.inPlace 10)=true:=by kernel_rfl
theorem Og:(Rows.resolveOrdersRow.unfollowed == Tryz.pinned.checked.prog.unfollowed 10)=true:=by kernel_rfl
theorem Oe:(Rows.resolveOrdersRow.recurses == Tryz.pinned.checked.prog.recurses 10)=true:=by kernel_rfl
theorem Oc:(Rows.resolveOrdersRow.named == Tryz.pinned.checked.prog.varsNamed 10)=true:=by kernel_rfl
theorem J4:joinedFacts Tryz.pinned.checked.prog 10 Tryz.f10 Rows.resolveOrdersSpec Rows.resolveOrdersRow=true:=by
  unfold joinedFacts
  rw[Oj,Oi,Oh,Og,Oe,Oc]
  kernel_rfl
end Go.Proofs.YtdadkhcdoaeabaaGreatDoor