/-
  Printed addresses are resolved: 'ResolvePrinted' answers true. Conditions: the listed tables hold what the program's text lays (the card ties them).
-/
import Derived.Test.YtdadkhcdoaeabaaGreatDoorTprih
import Derived.Test.YtdadkhcdoaeabaaGreatDoorCards
import Derived.Test.YtdadkhcdoaeabaaGreatDoorTie
set_option linter.unusedVariables false
set_option maxRecDepth 100000
namespace Go.Proofs.YtdadkhcdoaeabaaGreatDoor
open Go.Av
theorem PQ:Rows.resolvePrintedRow.wfByText (OpenSpec.ofChange Rows.resolvePrintedSpec)=true:=by kernel_rfl
theorem Mk:false=Rows.resolvePrintedRow.goesBy Tryz.pinned.checked.prog:=by kernel_rfl
theorem KW:([22,23,24,3,34,5,5].all λu=>!Tryz.prog.wantsStandIn u)=true:=by kernel_rfl
theorem resolvePrinted_card:Rows.ResolvePrintedCardSaid:=
  Claim7.holds_tied_plain_at .later [] [.data,.data,.data,.data,.sentinel,.sentinel,.pinned,.pinned] true (true,"8931e0eb94803aaf35e5ff9c5fa0e723648c44a4babe447c8fee7e74b0b01e9b") true
    KX (λ_ h=>by cases h) PQ (λ_ h=>by cases h) resolvePrinted_row_tie rfl ⟨rfl,rfl⟩ EO rfl
    (λf fn hf MQ=>by
      obtain rfl:f=11:=Option.some.inj (Gm.symm.trans hf) |>.symm
      obtain rfl:fn=Tryz.f11:=(Option.some.inj (Tryz.func11.symm.trans MQ)).symm
      exact⟨DO,λj t ht=>by
        rw[Tryz.params11]at ht
        have hm:t∈[22,23,24,3,34,5,5]:=by
          have:=Array.mem_of_getElem? ht
          simpa using this
        exact(show Tryz.prog.wantsStandIn t=false by simpa using List.all_eq_true.1 KW t hm)⟩)
    Mk
end Go.Proofs.YtdadkhcdoaeabaaGreatDoor