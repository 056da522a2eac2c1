/-
  The closed facts of 'ResolveLimits', one by one.
-/
import Derived.Test.YtdadkhcdoaeabaaGreatDoorProg
import Derived.Test.YtdadkhcdoaeabaaGreatDoorChecked
import Derived.Test.YtdadkhcdoaeabaaGreatDoorRows
import Derived.JoinedOf
import Derived.KernelRfl
set_option linter.unusedVariables false
set_option maxRecDepth 100000
namespace Go.Proofs.YtdadkhcdoaeabaaGreatDoor
theorem GI:Tryz.pinned.checked.prog.funcNamed "postilion/postilionlaw08.ResolveLimits"=some 6:=by kernel_rfl
theorem P4:laidOutB Tryz.pinned.checked.prog=true:=by kernel_rfl
theorem P3:mapsRowed Tryz.pinned.checked.prog=true:=by kernel_rfl
theorem P2:(Rows.resolveLimitsRow.inPlace == Tryz.pinned.checked.prog.inPlace 6)=true:=by kernel_rfl
theorem P1:(Rows.resolveLimitsRow.unfollowed == Tryz.pinned.checked.prog.unfollowed 6)=true:=by kernel_rfl
theorem P0:(Rows.resolveLimitsRow.recurses == Tryz.pinned.checked.prog.recurses 6)=true:=by kernel_rfl
theorem PZ:(Rows.resolveLimitsRow.named == Tryz.pinned.checked.prog.varsNamed 6)=true:=by kernel_rfl
theorem K3:joinedFacts Tryz.pinned.checked.prog 6 Tryz.f6 Rows.resolveLimitsSpec Rows.resolveLimitsRow=true:=by
  unfold joinedFacts
  rw[P4,P3,P2,P1,P0,PZ]
  kernel_rfl
end Go.Proofs.YtdadkhcdoaeabaaGreatDoor