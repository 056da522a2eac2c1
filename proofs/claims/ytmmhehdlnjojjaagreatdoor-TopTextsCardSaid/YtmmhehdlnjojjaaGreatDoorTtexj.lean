/-
  The closed facts of 'TopTexts', one by one.
-/
import Derived.Test.YtmmhehdlnjojjaaGreatDoorProg
import Derived.Test.YtmmhehdlnjojjaaGreatDoorChecked
import Derived.Test.YtmmhehdlnjojjaaGreatDoorRows
import Derived.JoinedOf
import Derived.KernelRfl
set_option maxRecDepth 100000
set_option linter.unusedVariables false
set_option maxRecDepth 100000
namespace Go.Proofs.YtmmhehdlnjojjaaGreatDoor
theorem Md:Tryz.pinned.checked.prog.funcNamed "postilion/postiliontop.TopTexts"=some 3:=by kernel_rfl
theorem Z4:laidOutB Tryz.pinned.checked.prog=true:=by kernel_rfl
theorem Z3:mapsRowed Tryz.pinned.checked.prog=true:=by kernel_rfl
theorem Z2:(Rows.topTextsRow.inPlace == Tryz.pinned.checked.prog.inPlace 3)=true:=by kernel_rfl
theorem Z1:(Rows.topTextsRow.unfollowed == Tryz.pinned.checked.prog.unfollowed 3)=true:=by kernel_rfl
theorem Z0:(Rows.topTextsRow.recurses == Tryz.pinned.checked.prog.recurses 3)=true:=by kernel_rfl
theorem ZZ:(Rows.topTextsRow.named == Tryz.pinned.checked.prog.varsNamed 3)=true:=by kernel_rfl
theorem Sz:joinedFacts Tryz.pinned.checked.prog 3 Tryz.f3 Rows.topTextsSpec Rows.topTextsRow=true:=by
  unfold joinedFacts
  rw[Z4,Z3,Z2,Z1,Z0,ZZ]
  kernel_rfl
end Go.Proofs.YtmmhehdlnjojjaaGreatDoor