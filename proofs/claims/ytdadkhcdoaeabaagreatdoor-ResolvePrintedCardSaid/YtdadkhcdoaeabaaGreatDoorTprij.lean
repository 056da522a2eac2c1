/-
  The closed facts of 'ResolvePrinted', one by one.
-/
import Derived.Test.YtdadkhcdoaeabaaGreatDoorProg
import Derived.Test.YtdadkhcdoaeabaaGreatDoorChecked
import Derived.Test.YtdadkhcdoaeabaaGreatDoorRows
import Derived.JoinedOf
import Derived.KernelRfl
set_option linter.unusedVariables false
set_option maxRecDepth 100000
namespace Go.Proofs.YtdadkhcdoaeabaaGreatDoor
theorem Gm:Tryz.pinned.checked.prog.funcNamed "postilion/postilionlaw08.ResolvePrinted"=some 11:=by kernel_rfl
theorem Ox:laidOutB Tryz.pinned.checked.prog=true:=by kernel_rfl
theorem Ow:mapsRowed Tryz.pinned.checked.prog=true:=by kernel_rfl
theorem Ov:(Rows.resolvePrintedRow.inPlace == Tryz.pinned.checked.prog.inPlace 11)=true:=by kernel_rfl
theorem Ou:(Rows.resolvePrintedRow.unfollowed == Tryz.pinned.checked.prog.unfollowed 11)=true:=by kernel_rfl
theorem Ot:(Rows.resolvePrintedRow.recurses == Tryz.pinned.checked.prog.recurses 11)=true:=by kernel_rfl
theorem Oq:(Rows.resolvePrintedRow.named == Tryz.pinned.checked.prog.varsNamed 11)=true:=by kernel_rfl
theorem Kt:joinedFacts Tryz.pinned.checked.prog 11 Tryz.f11 Rows.resolvePrintedSpec Rows.resolvePrintedRow=true:=by
  unfold joinedFacts
  rw[Ox,Ow,Ov,Ou,Ot,Oq]
  kernel_rfl
end Go.Proofs.YtdadkhcdoaeabaaGreatDoor