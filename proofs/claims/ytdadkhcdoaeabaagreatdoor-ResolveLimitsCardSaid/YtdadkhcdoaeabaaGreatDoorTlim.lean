/-
  A greater limit changes nothing but what is unknown: 'ResolveLimits' answers true. Conditions: the listed tables hold what the program's text lays (the card ties them).
-/
import Derived.Test.YtdadkhcdoaeabaaGreatDoorTlimh
import Derived.Test.YtdadkhcdoaeabaaGreatDoorCards
import Derived.Test.YtdadkhcdoaeabaaGreatDoorTie
set_option linter.unusedVariables false
set_option maxRecDepth 100000
namespace Go.Proofs.YtdadkhcdoaeabaaGreatDoor
open Go.Av
theorem R2:Rows.resolveLimitsRow.wfByText (OpenSpec.ofChange Rows.resolveLimitsSpec)=true:=by kernel_rfl
theorem Nc:false=Rows.resolveLimitsRow.goesBy Tryz.pinned.checked.prog:=by kernel_rfl
theorem Mp:([22,23,24,3,25,5,5].all λu=>!Tryz.prog.wantsStandIn u)=true:=by kernel_rfl
theorem resolveLimits_card:Rows.ResolveLimitsCardSaid:=
  Claim7.holds_tied_plain_at .later [] [.data,.data,.data,.data,.sentinel,.sentinel,.pinned,.pinned] true (true,"8931e0eb94803aaf35e5ff9c5fa0e723648c44a4babe447c8fee7e74b0b01e9b") true
    Mq (λ_ h=>by cases h) R2 (λ_ h=>by cases h) resolveLimits_row_tie rfl ⟨rfl,rfl⟩ EO rfl
    (λf fn hf MQ=>by
      obtain rfl:f=6:=Option.some.inj (GI.symm.trans hf) |>.symm
      obtain rfl:fn=Tryz.f6:=(Option.some.inj (Tryz.func6.symm.trans MQ)).symm
      exact⟨DO,λj t ht=>by
        rw[Tryz.params6]at ht
        have hm:t∈[22,23,24,3,25,5,5]:=by
          have:=Array.mem_of_getElem? ht
          simpa using this
        exact(show Tryz.prog.wantsStandIn t=false by simpa using List.all_eq_true.1 Mp t hm)⟩)
    Nc
end Go.Proofs.YtdadkhcdoaeabaaGreatDoor