/-
  A text that is parsed is parsed with other names and gaps to the network with these names: 'NetworkNames' answers true. Conditions: the listed tables hold what the program's text lays (the card ties them).
-/
import Derived.Test.YtmhlneeboefkgaaDoorT0
import Derived.Test.YtmhlneeboefkgaaDoorR11
import Derived.Test.YtmhlneeboefkgaaDoorCards
import Derived.Test.YtmhlneeboefkgaaDoorTie
import Derived.SevenTiedAt
set_option linter.unusedVariables false
set_option maxRecDepth 100000
namespace Go.Proofs.YtmhlneeboefkgaaDoor
open Go.Av
open Go.ChangeShapes Go.WideShapes Go.ChangeAt Go.RowKit
theorem networkNames_tyd (xs : List AV) (h : TydVs Tryd.prog 4 [9] xs) : Ctr Tryd.prog 7 xs (fun r => r = .bool true) := by
  obtain ⟨x0, _, rfl, h0, h⟩ := tyds_cons h
  obtain rfl := tyds_nil h
  obtain ⟨s, rfl, hs⟩ := tyd_str Tryd.underlying9 h0
  exact names_law s (by unfold maxLen at hs; omega)
theorem networkNames_lifted (os : Os) (started : os.Started) (H : Type) (enc : TypeId × Value → H) :
    ReturnsInHanded {} Tryd.checked os 7 .any (fun w args => (Rows.networkNamesSpec.pre enc Tryd.prog Tryd.f7 [] false w args ∧ laidMetH Tryd.prog Rows.networkNamesRow.laid w) ∧ sizedMet enc Tryd.prog Tryd.f7 (OpenSpec.ofChange Rows.networkNamesSpec) false w args)
      (Rows.networkNamesSpec.post enc Tryd.prog Tryd.f7 false true false false) := by
  refine returnsInHanded_of_change_and (C := Tryd.checked) (X := fun w _ => laidMetH Tryd.prog Rows.networkNamesRow.laid w) (fun _ _ _ hh h => h.of_heap hh) own started (by kernel_rfl) Tryd.func7
    (ChangeSpec.witness_shaped (enc := enc) (C := Tryd.checked) (os := os) (X := fun w _ => laidMetH Tryd.prog Rows.networkNamesRow.laid w) false (World.doorLaid Tryd.prog 400 os) #[.string .empty] 8 rfl (World.shaped_of_RefB (by kernel_rfl) (by kernel_rfl)) (by kernel_rfl) (by kernel_rfl) (by kernel_rfl) (door_met os _)) ?_
  intro W base args ds gs before hval hW q1 q2 q3 q4
  refine law_calls (P := Tryd.prog) (m := 4) (ps := [9]) (tb := 4) Tryd.params7 (by kernel_rfl) (by kernel_rfl) laidOut (by kernel_rfl) Tryd.underlying4 rfl (fun ds hl => ?_) networkNames_tyd hval ?_ hW
  · match ds, hl with
    | [_], _ => exact ⟨rfl, rfl, rfl⟩
  · exact gl_of (l := Rows.networkNamesRow.laid) (by assumption) (by kernel_rfl) (by simp only [Rows.networkNamesRow, List.mem_cons]; exact .inr (.inr (.inr (.inr (.inr (.inl rfl)))))) (by simp only [Rows.networkNamesRow, List.mem_cons]; exact .inr (.inr (.inr (.inr (.inr (.inr (.inl rfl)))))))
theorem networkNames_holds : Rows.NetworkNamesSaid :=
  OpenClaim.holds_of_wide 7 Tryd.f7 rfl rfl rfl rfl rfl rfl rfl ⟨rfl, rfl, rfl, rfl, rfl⟩ rfl rfl rfl rfl rfl (by kernel_rfl) Tryd.func7 (by kernel_rfl)
    (of_decide_eq_true (by kernel_rfl)) (by unfold Func.isWrapper; first | (rw [if_pos (by decide +kernel)]; kernel_rfl) | (rw [if_neg (by decide +kernel)]; exact ⟨rfl, rfl⟩))
    (fun os started H enc _ => networkNames_lifted os started H enc)
theorem networkNames_card : Rows.NetworkNamesCardSaid :=
  Claim7.holds_tied_plain_at .later [] [.data, .data, .data, .sentinel, .sentinel, .data, .data] true (true, "cd4ef0055b24664da83a0eff0c2c26b9e0f948ccc36dad1636cd89ac6d16daa5") true
    networkNames_holds (fun _ h => by cases h) (by kernel_rfl) (fun _ h => by cases h) networkNames_row_tie rfl ⟨rfl, rfl⟩ (by kernel_rfl) rfl
    (fun f fn hf hfn => by
      obtain rfl : f = 7 := Option.some.inj ((show Tryd.prog.funcNamed "postilion/postilionlaw09.NetworkNames" = some 7 by kernel_rfl).symm.trans hf) |>.symm
      obtain rfl : fn = Tryd.f7 := (Option.some.inj (Tryd.func7.symm.trans hfn)).symm
      exact ⟨by kernel_rfl, fun j t ht => by
        rw [Tryd.params7] at ht
        have hm : t ∈ [9] := by
          have := Array.mem_of_getElem? ht
          simpa using this
        have hall : ([9].all fun u => !Tryd.prog.wantsStandIn u) = true := by kernel_rfl
        exact (show Tryd.prog.wantsStandIn t = false by simpa using List.all_eq_true.1 hall t hm)⟩)
    (by kernel_rfl)
end Go.Proofs.YtmhlneeboefkgaaDoor
