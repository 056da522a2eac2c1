/-
  The order of the formats changes nothing: 'ResolveOrder' answers true. Conditions: the listed tables hold what the program's text lays (the card ties them).
-/
import Derived.Test.YtdadkhcdoaeabaaGreatDoorTordh
import Derived.Test.YtdadkhcdoaeabaaGreatDoorCards
import Derived.Test.YtdadkhcdoaeabaaGreatDoorTie
set_option linter.unusedVariables false
set_option maxRecDepth 100000
namespace Go.Proofs.YtdadkhcdoaeabaaGreatDoor
open Go.Av
theorem Rv:Rows.resolveOrderRow.wfByText (OpenSpec.ofChange Rows.resolveOrderSpec)=true:=by kernel_rfl
theorem M5:false=Rows.resolveOrderRow.goesBy Tryz.pinned.checked.prog:=by kernel_rfl
theorem L4:([22,23,24,3,25,5].all λu=>!Tryz.prog.wantsStandIn u)=true:=by kernel_rfl
theorem resolveOrder_card:Rows.ResolveOrderCardSaid:=
  Claim7.holds_tied_plain_at .later [] [.data,.data,.data,.data,.sentinel,.sentinel,.pinned,.pinned] true (true,"8931e0eb94803aaf35e5ff9c5fa0e723648c44a4babe447c8fee7e74b0b01e9b") true
    L5 (λ_ h=>by cases h) Rv (λ_ h=>by cases h) resolveOrder_row_tie rfl ⟨rfl,rfl⟩ Ic rfl
    (λf fn hf JK=>by
      obtain rfl:f=8:=Option.some.inj (G4.symm.trans hf) |>.symm
      obtain rfl:fn=Tryz.f8:=(Option.some.inj (Tryz.func8.symm.trans JK)).symm
      exact⟨GU,λj t ht=>by
        rw[Tryz.params8]at ht
        have hm:t∈[22,23,24,3,25,5]:=by
          have:=Array.mem_of_getElem? ht
          simpa using this
        exact(show Tryz.prog.wantsStandIn t=false by simpa using List.all_eq_true.1 L4 t hm)⟩)
    M5
end Go.Proofs.YtdadkhcdoaeabaaGreatDoor