/-
  The closed facts of 'ResolveLimits', one by one.
-/
import Derived.Test.YtdadkhcdoaeabaaGreatDoorProg
import Derived.Test.YtdadkhcdoaeabaaGreatDoorChecked
import Derived.Test.YtdadkhcdoaeabaaGreatDoorRows
import Derived.JoinedOf
import Derived.KernelRfl
set_option linter.unusedVariables false
set_option maxRecDepth 100000
namespace Go.Proofs.YtdadkhcdoaeabaaGreatDoor
theorem Gk:Tryz.pinned.checked.prog.funcNamed "postilion/postilionlaw08.ResolveLimits"=some 6:=by kernel_rfl
theorem Ou:laidOutB Tryz.pinned.checked.prog=true:=by kernel_rfl
theorem Ot:mapsRowed Tryz.pinned.checked.prog=true:=by kernel_rfl
theorem Oq:(Rows.resolveLimitsRow.inPlace == Tryz.pinned.checked.prog.inPlace 6)=true:=by kernel_rfl
theorem Oo:(Rows.resolveLimitsRow.unfollowed == Tryz.pinned.checked.prog.unfollowed 6)=true:=by kernel_rfl
theorem On:(Rows.resolveLimitsRow.recurses == Tryz.pinned.checked.prog.recurses 6)=true:=by kernel_rfl
theorem Om:(Rows.resolveLimitsRow.named == Tryz.pinned.checked.prog.varsNamed 6)=true:=by kernel_rfl
theorem J6:joinedFacts Tryz.pinned.checked.prog 6 Tryz.f6 Rows.resolveLimitsSpec Rows.resolveLimitsRow=true:=by
  unfold joinedFacts
  rw[Ou,Ot,Oq,Oo,On,Om]
  kernel_rfl
end Go.Proofs.YtdadkhcdoaeabaaGreatDoor