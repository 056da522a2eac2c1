/-
  The order of the formats changes nothing: 'ResolveOrder' answers true. Conditions: the listed tables hold what the program's text lays (the card ties them).
-/
import Derived.Test.YtdadkhcdoaeabaaGreatDoorTordh
import Derived.Test.YtdadkhcdoaeabaaGreatDoorCards
import Derived.Test.YtdadkhcdoaeabaaGreatDoorTie
set_option linter.unusedVariables false
set_option maxRecDepth 100000
namespace Go.Proofs.YtdadkhcdoaeabaaGreatDoor
open Go.Av
theorem Tk:Rows.resolveOrderRow.wfByText (OpenSpec.ofChange Rows.resolveOrderSpec)=true:=by kernel_rfl
theorem Oz:false=Rows.resolveOrderRow.goesBy Tryz.pinned.checked.prog:=by kernel_rfl
theorem Na:([22,23,24,3,25,5].all λu=>!Tryz.prog.wantsStandIn u)=true:=by kernel_rfl
theorem resolveOrder_card:Rows.ResolveOrderCardSaid:=
  Claim7.holds_tied_plain_at .later [] [.data,.data,.data,.data,.sentinel,.sentinel,.pinned,.pinned] true (true,"8931e0eb94803aaf35e5ff9c5fa0e723648c44a4babe447c8fee7e74b0b01e9b") true
    Nb (λ_ h=>by cases h) Tk (λ_ h=>by cases h) resolveOrder_row_tie rfl ⟨rfl,rfl⟩ EO rfl
    (λf fn hf MQ=>by
      obtain rfl:f=8:=Option.some.inj (Ho.symm.trans hf) |>.symm
      obtain rfl:fn=Tryz.f8:=(Option.some.inj (Tryz.func8.symm.trans MQ)).symm
      exact⟨DO,λj t ht=>by
        rw[Tryz.params8]at ht
        have hm:t∈[22,23,24,3,25,5]:=by
          have:=Array.mem_of_getElem? ht
          simpa using this
        exact(show Tryz.prog.wantsStandIn t=false by simpa using List.all_eq_true.1 Na t hm)⟩)
    Oz
end Go.Proofs.YtdadkhcdoaeabaaGreatDoor