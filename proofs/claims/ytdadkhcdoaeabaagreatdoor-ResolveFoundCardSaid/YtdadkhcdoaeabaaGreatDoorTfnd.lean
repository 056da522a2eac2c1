/-
  What is found: 'ResolveFound' answers true. Conditions: the listed tables hold what the program's text lays (the card ties them).
-/
import Derived.Test.YtdadkhcdoaeabaaGreatDoorTfndh
import Derived.Test.YtdadkhcdoaeabaaGreatDoorCards
import Derived.Test.YtdadkhcdoaeabaaGreatDoorTie
set_option linter.unusedVariables false
set_option maxRecDepth 100000
namespace Go.Proofs.YtdadkhcdoaeabaaGreatDoor
open Go.Av
theorem Tl:Rows.resolveFoundRow.wfByText (OpenSpec.ofChange Rows.resolveFoundSpec)=true:=by kernel_rfl
theorem OB:false=Rows.resolveFoundRow.goesBy Tryz.pinned.checked.prog:=by kernel_rfl
theorem Nd:([22,23,24,3,25,5].all λu=>!Tryz.prog.wantsStandIn u)=true:=by kernel_rfl
theorem resolveFound_card:Rows.ResolveFoundCardSaid:=
  Claim7.holds_tied_plain_at .later [] [.data,.data,.data,.data,.sentinel,.sentinel,.pinned,.pinned] true (true,"8931e0eb94803aaf35e5ff9c5fa0e723648c44a4babe447c8fee7e74b0b01e9b") true
    Nf (λ_ h=>by cases h) Tl (λ_ h=>by cases h) resolveFound_row_tie rfl ⟨rfl,rfl⟩ EO rfl
    (λf fn hf MQ=>by
      obtain rfl:f=5:=Option.some.inj (Hp.symm.trans hf) |>.symm
      obtain rfl:fn=Tryz.f5:=(Option.some.inj (Tryz.func5.symm.trans MQ)).symm
      exact⟨DO,λj t ht=>by
        rw[Tryz.params5]at ht
        have hm:t∈[22,23,24,3,25,5]:=by
          have:=Array.mem_of_getElem? ht
          simpa using this
        exact(show Tryz.prog.wantsStandIn t=false by simpa using List.all_eq_true.1 Nd t hm)⟩)
    OB
end Go.Proofs.YtdadkhcdoaeabaaGreatDoor