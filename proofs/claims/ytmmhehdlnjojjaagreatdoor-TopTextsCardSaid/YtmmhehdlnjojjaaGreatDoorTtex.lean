/-
  What is written is read again: 'TopTexts' answers true. Conditions: the listed tables hold what the program's text lays (the card ties them).
-/
import Derived.Test.YtmmhehdlnjojjaaGreatDoorTtexh
import Derived.Test.YtmmhehdlnjojjaaGreatDoorCards
import Derived.Test.YtmmhehdlnjojjaaGreatDoorTie
set_option maxRecDepth 100000
set_option linter.unusedVariables false
set_option maxRecDepth 100000
namespace Go.Proofs.YtmmhehdlnjojjaaGreatDoor
open Go.Av
theorem gY:Rows.topTextsRow.wfByText (OpenSpec.ofChange Rows.topTextsSpec)=true:=by kernel_rfl
theorem VI:false=Rows.topTextsRow.goesBy Tryz.pinned.checked.prog:=by kernel_rfl
theorem Th:([29,3,3,31].all λu=>!Tryz.prog.wantsStandIn u)=true:=by kernel_rfl
theorem topTexts_card:Rows.TopTextsCardSaid:=
  Claim7.holds_tied_plain_at .later [] [.data,.data,.data,.data,.sentinel,.sentinel,.data,.data,.data,.data,.pinned] true (true,"21732cf2cbe3177781b2a23944c86ed8eb735c15902de69498ee0f0584696e94") true
    Ti (λ_ h=>by cases h) gY (λ_ h=>by cases h) topTexts_row_tie rfl ⟨rfl,rfl⟩ sK rfl
    (λf fn hf Xo=>by
      obtain rfl:f=3:=Option.some.inj (Md.symm.trans hf) |>.symm
      obtain rfl:fn=Tryz.f3:=(Option.some.inj (Tryz.func3.symm.trans Xo)).symm
      exact⟨iK,λj t ht=>by
        rw[Tryz.params3]at ht
        have hm:t∈[29,3,3,31]:=by
          have:=Array.mem_of_getElem? ht
          simpa using this
        exact(show Tryz.prog.wantsStandIn t=false by simpa using List.all_eq_true.1 Th t hm)⟩)
    VI
end Go.Proofs.YtmmhehdlnjojjaaGreatDoor