/-
  Several points are in order and have addresses: 'ResolveSeveral' answers true. Conditions: the listed tables hold what the program's text lays (the card ties them).
-/
import Derived.Test.YtdadkhcdoaeabaaGreatDoorTsevh
import Derived.Test.YtdadkhcdoaeabaaGreatDoorCards
import Derived.Test.YtdadkhcdoaeabaaGreatDoorTie
set_option linter.unusedVariables false
set_option maxRecDepth 100000
namespace Go.Proofs.YtdadkhcdoaeabaaGreatDoor
open Go.Av
theorem PO:Rows.resolveSeveralRow.wfByText (OpenSpec.ofChange Rows.resolveSeveralSpec)=true:=by kernel_rfl
theorem Mj:false=Rows.resolveSeveralRow.goesBy Tryz.pinned.checked.prog:=by kernel_rfl
theorem KU:([22,23,24,3,25,5].all λu=>!Tryz.prog.wantsStandIn u)=true:=by kernel_rfl
theorem resolveSeveral_card:Rows.ResolveSeveralCardSaid:=
  Claim7.holds_tied_plain_at .later [] [.data,.data,.data,.data,.sentinel,.sentinel,.pinned,.pinned] true (true,"8931e0eb94803aaf35e5ff9c5fa0e723648c44a4babe447c8fee7e74b0b01e9b") true
    KV (λ_ h=>by cases h) PO (λ_ h=>by cases h) resolveSeveral_row_tie rfl ⟨rfl,rfl⟩ EO rfl
    (λf fn hf MQ=>by
      obtain rfl:f=7:=Option.some.inj (Gl.symm.trans hf) |>.symm
      obtain rfl:fn=Tryz.f7:=(Option.some.inj (Tryz.func7.symm.trans MQ)).symm
      exact⟨DO,λj t ht=>by
        rw[Tryz.params7]at ht
        have hm:t∈[22,23,24,3,25,5]:=by
          have:=Array.mem_of_getElem? ht
          simpa using this
        exact(show Tryz.prog.wantsStandIn t=false by simpa using List.all_eq_true.1 KU t hm)⟩)
    Mj
end Go.Proofs.YtdadkhcdoaeabaaGreatDoor