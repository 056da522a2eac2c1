/-
  The closed facts of 'ResolveDelivers', one by one.
-/
import Derived.Test.YtdadkhcdoaeabaaGreatDoorProg
import Derived.Test.YtdadkhcdoaeabaaGreatDoorChecked
import Derived.Test.YtdadkhcdoaeabaaGreatDoorRows
import Derived.JoinedOf
import Derived.KernelRfl
set_option linter.unusedVariables false
set_option maxRecDepth 100000
namespace Go.Proofs.YtdadkhcdoaeabaaGreatDoor
theorem Zak:Tryz.pinned.checked.prog.funcNamed "postilion/postilionlaw08.ResolveDelivers"=some 9:=by kernel_rfl
theorem ZaH:laidOutB Tryz.pinned.checked.prog=true:=by kernel_rfl
theorem ZaF:mapsRowed Tryz.pinned.checked.prog=true:=by kernel_rfl
theorem ZaC:(Rows.resolveDeliversRow.inPlace == Tryz.pinned.checked.prog.inPlace 9)=true:=by kernel_rfl
theorem ZaB:(Rows.resolveDeliversRow.unfollowed == Tryz.pinned.checked.prog.unfollowed 9)=true:=by kernel_rfl
theorem Zaz:(Rows.resolveDeliversRow.recurses == Tryz.pinned.checked.prog.recurses 9)=true:=by kernel_rfl
theorem Zay:(Rows.resolveDeliversRow.named == Tryz.pinned.checked.prog.varsNamed 9)=true:=by kernel_rfl
theorem Zaq:joinedFacts Tryz.pinned.checked.prog 9 Tryz.f9 Rows.resolveDeliversSpec Rows.resolveDeliversRow=true:=by
  unfold joinedFacts
  rw[ZaH,ZaF,ZaC,ZaB,Zaz,Zay]
  kernel_rfl
end Go.Proofs.YtdadkhcdoaeabaaGreatDoor