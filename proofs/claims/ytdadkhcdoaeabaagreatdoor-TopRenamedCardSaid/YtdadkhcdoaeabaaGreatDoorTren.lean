/-
  A street that is renamed: 'TopRenamed' answers true. Conditions: the listed tables hold what the program's text lays (the card ties them).
-/
import Derived.Test.YtdadkhcdoaeabaaGreatDoorTrenh
import Derived.Test.YtdadkhcdoaeabaaGreatDoorCards
import Derived.Test.YtdadkhcdoaeabaaGreatDoorTie
set_option linter.unusedVariables false
set_option maxRecDepth 100000
namespace Go.Proofs.YtdadkhcdoaeabaaGreatDoor
open Go.Av
theorem ZaZ:Rows.topRenamedRow.wfByText (OpenSpec.ofChange Rows.topRenamedSpec)=true:=by kernel_rfl
theorem ZaP:false=Rows.topRenamedRow.goesBy Tryz.pinned.checked.prog:=by kernel_rfl
theorem ZaL:([22,23,54,34,9,5,5].all λu=>!Tryz.prog.wantsStandIn u)=true:=by kernel_rfl
theorem topRenamed_card:Rows.TopRenamedCardSaid:=
  Claim7.holds_tied_plain_at .later [] [.data,.data,.data,.data,.sentinel,.sentinel,.pinned,.pinned] true (true,"8931e0eb94803aaf35e5ff9c5fa0e723648c44a4babe447c8fee7e74b0b01e9b") true
    ZaN (λ_ h=>by cases h) ZaZ (λ_ h=>by cases h) topRenamed_row_tie rfl ⟨rfl,rfl⟩ EO rfl
    (λf fn hf MQ=>by
      obtain rfl:f=4:=Option.some.inj (Zai.symm.trans hf) |>.symm
      obtain rfl:fn=Tryz.f4:=(Option.some.inj (Tryz.func4.symm.trans MQ)).symm
      exact⟨DO,λj t ht=>by
        rw[Tryz.params4]at ht
        have hm:t∈[22,23,54,34,9,5,5]:=by
          have:=Array.mem_of_getElem? ht
          simpa using this
        exact(show Tryz.prog.wantsStandIn t=false by simpa using List.all_eq_true.1 ZaL t hm)⟩)
    ZaP
end Go.Proofs.YtdadkhcdoaeabaaGreatDoor