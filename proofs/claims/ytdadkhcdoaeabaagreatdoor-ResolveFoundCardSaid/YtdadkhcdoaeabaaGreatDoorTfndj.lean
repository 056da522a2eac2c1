/-
  The closed facts of 'ResolveFound', one by one.
-/
import Derived.Test.YtdadkhcdoaeabaaGreatDoorProg
import Derived.Test.YtdadkhcdoaeabaaGreatDoorChecked
import Derived.Test.YtdadkhcdoaeabaaGreatDoorRows
import Derived.JoinedOf
import Derived.KernelRfl
set_option linter.unusedVariables false
set_option maxRecDepth 100000
namespace Go.Proofs.YtdadkhcdoaeabaaGreatDoor
theorem Hp:Tryz.pinned.checked.prog.funcNamed "postilion/postilionlaw08.ResolveFound"=some 5:=by kernel_rfl
theorem R8:laidOutB Tryz.pinned.checked.prog=true:=by kernel_rfl
theorem R7:mapsRowed Tryz.pinned.checked.prog=true:=by kernel_rfl
theorem R6:(Rows.resolveFoundRow.inPlace == Tryz.pinned.checked.prog.inPlace 5)=true:=by kernel_rfl
theorem R5:(Rows.resolveFoundRow.unfollowed == Tryz.pinned.checked.prog.unfollowed 5)=true:=by kernel_rfl
theorem R4:(Rows.resolveFoundRow.recurses == Tryz.pinned.checked.prog.recurses 5)=true:=by kernel_rfl
theorem R3:(Rows.resolveFoundRow.named == Tryz.pinned.checked.prog.varsNamed 5)=true:=by kernel_rfl
theorem Ms:joinedFacts Tryz.pinned.checked.prog 5 Tryz.f5 Rows.resolveFoundSpec Rows.resolveFoundRow=true:=by
  unfold joinedFacts
  rw[R8,R7,R6,R5,R4,R3]
  kernel_rfl
end Go.Proofs.YtdadkhcdoaeabaaGreatDoor