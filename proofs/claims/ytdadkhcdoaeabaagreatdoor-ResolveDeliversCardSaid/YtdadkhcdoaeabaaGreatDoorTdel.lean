/-
  Who delivers: 'ResolveDelivers' answers true. Conditions: the listed tables hold what the program's text lays (the card ties them).
-/
import Derived.Test.YtdadkhcdoaeabaaGreatDoorTdelh
import Derived.Test.YtdadkhcdoaeabaaGreatDoorCards
import Derived.Test.YtdadkhcdoaeabaaGreatDoorTie
set_option linter.unusedVariables false
set_option maxRecDepth 100000
namespace Go.Proofs.YtdadkhcdoaeabaaGreatDoor
open Go.Av
theorem ZaN:Rows.resolveDeliversRow.wfByText (OpenSpec.ofChange Rows.resolveDeliversSpec)=true:=by kernel_rfl
theorem Zav:false=Rows.resolveDeliversRow.goesBy Tryz.pinned.checked.prog:=by kernel_rfl
theorem Zar:([54,23,3,34,9,69].all λu=>!Tryz.prog.wantsStandIn u)=true:=by kernel_rfl
theorem resolveDelivers_card:Rows.ResolveDeliversCardSaid:=
  Claim7.holds_tied_plain_at .later [] [.data,.data,.data,.data,.sentinel,.sentinel,.pinned,.pinned] true (true,"8931e0eb94803aaf35e5ff9c5fa0e723648c44a4babe447c8fee7e74b0b01e9b") true
    Zat (λ_ h=>by cases h) ZaN (λ_ h=>by cases h) resolveDelivers_row_tie rfl ⟨rfl,rfl⟩ Ic rfl
    (λf fn hf JK=>by
      obtain rfl:f=9:=Option.some.inj (Zak.symm.trans hf) |>.symm
      obtain rfl:fn=Tryz.f9:=(Option.some.inj (Tryz.func9.symm.trans JK)).symm
      exact⟨GU,λj t ht=>by
        rw[Tryz.params9]at ht
        have hm:t∈[54,23,3,34,9,69]:=by
          have:=Array.mem_of_getElem? ht
          simpa using this
        exact(show Tryz.prog.wantsStandIn t=false by simpa using List.all_eq_true.1 Zar t hm)⟩)
    Zav
end Go.Proofs.YtdadkhcdoaeabaaGreatDoor