/-
  The closed facts of 'ResolveSeveral', one by one.
-/
import Derived.Test.YtdadkhcdoaeabaaGreatDoorProg
import Derived.Test.YtdadkhcdoaeabaaGreatDoorChecked
import Derived.Test.YtdadkhcdoaeabaaGreatDoorRows
import Derived.JoinedOf
import Derived.KernelRfl
set_option linter.unusedVariables false
set_option maxRecDepth 100000
namespace Go.Proofs.YtdadkhcdoaeabaaGreatDoor
theorem Gl:Tryz.pinned.checked.prog.funcNamed "postilion/postilionlaw08.ResolveSeveral"=some 7:=by kernel_rfl
theorem Oo:laidOutB Tryz.pinned.checked.prog=true:=by kernel_rfl
theorem On:mapsRowed Tryz.pinned.checked.prog=true:=by kernel_rfl
theorem Om:(Rows.resolveSeveralRow.inPlace == Tryz.pinned.checked.prog.inPlace 7)=true:=by kernel_rfl
theorem Ol:(Rows.resolveSeveralRow.unfollowed == Tryz.pinned.checked.prog.unfollowed 7)=true:=by kernel_rfl
theorem Oj:(Rows.resolveSeveralRow.recurses == Tryz.pinned.checked.prog.recurses 7)=true:=by kernel_rfl
theorem Oi:(Rows.resolveSeveralRow.named == Tryz.pinned.checked.prog.varsNamed 7)=true:=by kernel_rfl
theorem Kq:joinedFacts Tryz.pinned.checked.prog 7 Tryz.f7 Rows.resolveSeveralSpec Rows.resolveSeveralRow=true:=by
  unfold joinedFacts
  rw[Oo,On,Om,Ol,Oj,Oi]
  kernel_rfl
end Go.Proofs.YtdadkhcdoaeabaaGreatDoor