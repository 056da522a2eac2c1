/-
  The closed facts of 'ResolveFound', one by one.
-/
import Derived.Test.YtdadkhcdoaeabaaGreatDoorProg
import Derived.Test.YtdadkhcdoaeabaaGreatDoorChecked
import Derived.Test.YtdadkhcdoaeabaaGreatDoorRows
import Derived.JoinedOf
import Derived.KernelRfl
set_option linter.unusedVariables false
set_option maxRecDepth 100000
namespace Go.Proofs.YtdadkhcdoaeabaaGreatDoor
theorem G5:Tryz.pinned.checked.prog.funcNamed "postilion/postilionlaw08.ResolveFound"=some 5:=by kernel_rfl
theorem Qq:laidOutB Tryz.pinned.checked.prog=true:=by kernel_rfl
theorem Qp:mapsRowed Tryz.pinned.checked.prog=true:=by kernel_rfl
theorem Qo:(Rows.resolveFoundRow.inPlace == Tryz.pinned.checked.prog.inPlace 5)=true:=by kernel_rfl
theorem Qm:(Rows.resolveFoundRow.unfollowed == Tryz.pinned.checked.prog.unfollowed 5)=true:=by kernel_rfl
theorem Ql:(Rows.resolveFoundRow.recurses == Tryz.pinned.checked.prog.recurses 5)=true:=by kernel_rfl
theorem Qk:(Rows.resolveFoundRow.named == Tryz.pinned.checked.prog.varsNamed 5)=true:=by kernel_rfl
theorem Lz:joinedFacts Tryz.pinned.checked.prog 5 Tryz.f5 Rows.resolveFoundSpec Rows.resolveFoundRow=true:=by
  unfold joinedFacts
  rw[Qq,Qp,Qo,Qm,Ql,Qk]
  kernel_rfl
end Go.Proofs.YtdadkhcdoaeabaaGreatDoor