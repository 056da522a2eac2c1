/-
  The closed facts of 'TopRenamed', one by one.
-/
import Derived.Test.YtdadkhcdoaeabaaGreatDoorProg
import Derived.Test.YtdadkhcdoaeabaaGreatDoorChecked
import Derived.Test.YtdadkhcdoaeabaaGreatDoorRows
import Derived.JoinedOf
import Derived.KernelRfl
set_option linter.unusedVariables false
set_option maxRecDepth 100000
namespace Go.Proofs.YtdadkhcdoaeabaaGreatDoor
theorem Zai:Tryz.pinned.checked.prog.funcNamed "postilion/postiliontop.TopRenamed"=some 4:=by kernel_rfl
theorem ZaX:laidOutB Tryz.pinned.checked.prog=true:=by kernel_rfl
theorem ZaW:mapsRowed Tryz.pinned.checked.prog=true:=by kernel_rfl
theorem ZaV:(Rows.topRenamedRow.inPlace == Tryz.pinned.checked.prog.inPlace 4)=true:=by kernel_rfl
theorem ZaU:(Rows.topRenamedRow.unfollowed == Tryz.pinned.checked.prog.unfollowed 4)=true:=by kernel_rfl
theorem ZaT:(Rows.topRenamedRow.recurses == Tryz.pinned.checked.prog.recurses 4)=true:=by kernel_rfl
theorem ZaS:(Rows.topRenamedRow.named == Tryz.pinned.checked.prog.varsNamed 4)=true:=by kernel_rfl
theorem ZaJ:joinedFacts Tryz.pinned.checked.prog 4 Tryz.f4 Rows.topRenamedSpec Rows.topRenamedRow=true:=by
  unfold joinedFacts
  rw[ZaX,ZaW,ZaV,ZaU,ZaT,ZaS]
  kernel_rfl
end Go.Proofs.YtdadkhcdoaeabaaGreatDoor