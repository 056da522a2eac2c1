/-
  The closed facts of 'ResolveDelivers', one by one.
-/
import Derived.Test.YtdadkhcdoaeabaaGreatDoorProg
import Derived.Test.YtdadkhcdoaeabaaGreatDoorChecked
import Derived.Test.YtdadkhcdoaeabaaGreatDoorRows
import Derived.JoinedOf
import Derived.KernelRfl
set_option linter.unusedVariables false
set_option maxRecDepth 100000
namespace Go.Proofs.YtdadkhcdoaeabaaGreatDoor
theorem FC:Tryz.pinned.checked.prog.funcNamed "postilion/postilionlaw08.ResolveDelivers"=some 9:=by kernel_rfl
theorem Nl:laidOutB Tryz.pinned.checked.prog=true:=by kernel_rfl
theorem Nk:mapsRowed Tryz.pinned.checked.prog=true:=by kernel_rfl
theorem Nj:(Rows.resolveDeliversRow.inPlace == Tryz.pinned.checked.prog.inPlace 9)=true:=by kernel_rfl
theorem Ni:(Rows.resolveDeliversRow.unfollowed == Tryz.pinned.checked.prog.unfollowed 9)=true:=by kernel_rfl
theorem Nh:(Rows.resolveDeliversRow.recurses == Tryz.pinned.checked.prog.recurses 9)=true:=by kernel_rfl
theorem Ng:(Rows.resolveDeliversRow.named == Tryz.pinned.checked.prog.varsNamed 9)=true:=by kernel_rfl
theorem JE:joinedFacts Tryz.pinned.checked.prog 9 Tryz.f9 Rows.resolveDeliversSpec Rows.resolveDeliversRow=true:=by
  unfold joinedFacts
  rw[Nl,Nk,Nj,Ni,Nh,Ng]
  kernel_rfl
end Go.Proofs.YtdadkhcdoaeabaaGreatDoor