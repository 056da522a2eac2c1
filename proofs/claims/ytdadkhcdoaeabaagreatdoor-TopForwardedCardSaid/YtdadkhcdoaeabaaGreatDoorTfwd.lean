/-
  What is found stays: 'TopForwarded' answers true. Conditions: the listed tables hold what the program's text lays (the card ties them).
-/
import Derived.Test.YtdadkhcdoaeabaaGreatDoorTfwdh
import Derived.Test.YtdadkhcdoaeabaaGreatDoorCards
import Derived.Test.YtdadkhcdoaeabaaGreatDoorTie
set_option linter.unusedVariables false
set_option maxRecDepth 100000
namespace Go.Proofs.YtdadkhcdoaeabaaGreatDoor
open Go.Av
theorem S1:Rows.topForwardedRow.wfByText (OpenSpec.ofChange Rows.topForwardedSpec)=true:=by kernel_rfl
theorem NZ:false=Rows.topForwardedRow.goesBy Tryz.pinned.checked.prog:=by kernel_rfl
theorem MY:([22,23,24,3,25,5,5].all λu=>!Tryz.prog.wantsStandIn u)=true:=by kernel_rfl
theorem topForwarded_card:Rows.TopForwardedCardSaid:=
  Claim7.holds_tied_plain_at .later [] [.data,.data,.data,.data,.sentinel,.sentinel,.pinned,.pinned] true (true,"8931e0eb94803aaf35e5ff9c5fa0e723648c44a4babe447c8fee7e74b0b01e9b") true
    MZ (λ_ h=>by cases h) S1 (λ_ h=>by cases h) topForwarded_row_tie rfl ⟨rfl,rfl⟩ EO rfl
    (λf fn hf MQ=>by
      obtain rfl:f=3:=Option.some.inj (He.symm.trans hf) |>.symm
      obtain rfl:fn=Tryz.f3:=(Option.some.inj (Tryz.func3.symm.trans MQ)).symm
      exact⟨DO,λj t ht=>by
        rw[Tryz.params3]at ht
        have hm:t∈[22,23,24,3,25,5,5]:=by
          have:=Array.mem_of_getElem? ht
          simpa using this
        exact(show Tryz.prog.wantsStandIn t=false by simpa using List.all_eq_true.1 MY t hm)⟩)
    NZ
end Go.Proofs.YtdadkhcdoaeabaaGreatDoor