/-
 For every text of at most 8100 bytes, Parse returns the same network, error and offset as the reference: 'NetworkMatchesReference' answers true. Conditions: the listed tables hold what the program's text lays (the card ties them).
-/
import Derived.Test.YtmhlneeboefkgaaGreatDoorT0z
import Derived.Test.YtmhlneeboefkgaaGreatDoorR25
import Derived.Test.YtmhlneeboefkgaaGreatDoorCards
import Derived.Test.YtmhlneeboefkgaaGreatDoorTie
import Derived.SevenTiedAt
set_option linter.unusedVariables false
set_option maxRecDepth 100000
set_option maxHeartbeats 4000000
namespace Go.Proofs.YtmhlneeboefkgaaGreatDoor
open Go.Av
open Go.ChangeShapes Go.WideShapes Go.ChangeAt Go.RowKit
theorem networkMatchesReference_tyd (xs : List AV) (h : TydVs Tryz.prog 4 [9] xs) : Ctr Tryz.prog 3 xs (fun r => r = .bool true) := by
 obtain ⟨x0, _, rfl, h0, h⟩ := tyds_cons h
 obtain rfl := tyds_nil h
 obtain ⟨s, rfl, hs⟩ := tyd_str Tryz.underlying9 h0
 exact matches_law s (by unfold maxLen at hs; omega)
theorem networkMatchesReference_lifted (os : Os) (started : os.Started) (H : Type) (enc : TypeId × Value → H) :
  ReturnsInHanded {} Tryz.checked os 3 .any (fun w args => (Rows.networkMatchesReferenceSpec.pre enc Tryz.prog Tryz.f3 [] false w args ∧ laidMetH Tryz.prog Rows.networkMatchesReferenceRow.laid w) ∧ sizedMet enc Tryz.prog Tryz.f3 (OpenSpec.ofChange Rows.networkMatchesReferenceSpec) false w args)
   (Rows.networkMatchesReferenceSpec.post enc Tryz.prog Tryz.f3 false true false false) := by
 refine returnsInHanded_of_change_and (C := Tryz.checked) (X := fun w _ => laidMetH Tryz.prog Rows.networkMatchesReferenceRow.laid w) (fun _ _ _ hh h => h.of_heap hh) own started (by kernel_rfl) Tryz.func3
  (ChangeSpec.witness_shaped (enc := enc) (C := Tryz.checked) (os := os) (X := fun w _ => laidMetH Tryz.prog Rows.networkMatchesReferenceRow.laid w) false (World.doorLaid Tryz.prog 400 os) #[.string .empty] 8 rfl (World.shaped_of_RefB (by kernel_rfl) (by kernel_rfl)) (by kernel_rfl) (by kernel_rfl) (by kernel_rfl) (door_met os _)) ?_
 intro W base args ds gs before hval hW q1 q2 q3 q4
 refine law_calls (P := Tryz.prog) (m := 4) (ps := [9]) (tb := 4) Tryz.params3 (by kernel_rfl) (by kernel_rfl) laidOut (by kernel_rfl) Tryz.underlying4 rfl (fun ds hl => ?_) networkMatchesReference_tyd hval ?_ hW
 ·match ds, hl with
  | [_], _ => exact ⟨rfl, rfl, rfl⟩
 ·exact gl_of (l := Rows.networkMatchesReferenceRow.laid) (by assumption) (by kernel_rfl) (by simp only [Rows.networkMatchesReferenceRow, List.mem_cons]; exact .inr (.inr (.inr (.inr (.inr (.inl rfl)))))) (by simp only [Rows.networkMatchesReferenceRow, List.mem_cons]; exact .inr (.inr (.inr (.inr (.inr (.inr (.inl rfl)))))))
theorem networkMatchesReference_holds : Rows.NetworkMatchesReferenceSaid :=
 OpenClaim.holds_of_wide 3 Tryz.f3 rfl rfl rfl rfl rfl rfl rfl ⟨rfl, rfl, rfl, rfl, rfl⟩ rfl rfl rfl rfl rfl (by kernel_rfl) Tryz.func3 (by kernel_rfl)
  (of_decide_eq_true (by kernel_rfl)) (by unfold Func.isWrapper; first | (rw [if_pos (by decide +kernel)]; kernel_rfl) | (rw [if_neg (by decide +kernel)]; exact ⟨rfl, rfl⟩))
  (fun os started H enc _ => networkMatchesReference_lifted os started H enc)
theorem networkMatchesReference_card : Rows.NetworkMatchesReferenceCardSaid :=
 Claim7.holds_tied_plain_at .later [] [.data, .data, .data, .sentinel, .sentinel, .data, .data] true (true, "618954443b80e23d7ad5b3df1c160a878f97d7854f0c930f9e97291e903881ec") true
  networkMatchesReference_holds (fun _ h => by cases h) (by kernel_rfl) (fun _ h => by cases h) networkMatchesReference_row_tie rfl ⟨rfl, rfl⟩ (by kernel_rfl) rfl
  (fun f fn hf hfn => by
   obtain rfl : f = 3 := Option.some.inj ((show Tryz.prog.funcNamed "postilion/postilionlaw09.NetworkMatchesReference" = some 3 by kernel_rfl).symm.trans hf) |>.symm
   obtain rfl : fn = Tryz.f3 := (Option.some.inj (Tryz.func3.symm.trans hfn)).symm
   exact ⟨by kernel_rfl, fun j t ht => by
    rw [Tryz.params3] at ht
    have hm : t ∈ [9] := by
     have := Array.mem_of_getElem? ht
     simpa using this
    have hall : ([9].all fun u => !Tryz.prog.wantsStandIn u) = true := by kernel_rfl
    exact (show Tryz.prog.wantsStandIn t = false by simpa using List.all_eq_true.1 hall t hm)⟩)
  (by kernel_rfl)
end Go.Proofs.YtmhlneeboefkgaaGreatDoor
