/-
  Two accepted documents with the same first signature agree, or two lists collide: 'HandoverBinding' answers true. Conditions: the three listed tables of the library hold what the program's text lays (the card ties them).
-/
import Derived.Test.YtobdkjjakdjnaaaDoorT0
import Derived.Test.YtobdkjjakdjnaaaDoorHb
import Derived.Test.YtobdkjjakdjnaaaDoorCards
import Derived.Test.YtobdkjjakdjnaaaDoorTie
import Derived.SevenTiedAt
set_option linter.unusedVariables false
set_option maxRecDepth 100000
namespace Go.Proofs.YtobdkjjakdjnaaaDoor
open Go.Av
open Go.ChangeShapes Go.WideShapes Go.ChangeAt Go.RowKit
theorem law4_tyd (xs : List AV) (h : TydVs Tryd.prog 4 [22, 25, 25] xs) : Ctr Tryd.prog 6 xs (fun r => r = .bool true) := by
  obtain ⟨x0, _, rfl, h0, h⟩ := tyds_cons h
  obtain ⟨x1, _, rfl, h1, h⟩ := tyds_cons h
  obtain ⟨x2, _, rfl, h2, h⟩ := tyds_cons h
  obtain rfl := tyds_nil h
  obtain ⟨keys, rfl, hkeys, _⟩ := tyd_ints (m := 2) Tryd.underlying22 Tryd.underlying3 (by kernel_rfl) h0
  obtain ⟨d1, rfl, hd1⟩ := tyd_doc (m := 2) h1
  obtain ⟨d2, rfl, hd2⟩ := tyd_doc (m := 2) h2
  exact law4 keys d1 d2 (by unfold maxLen at hkeys; omega) (bd_len hd1) (bd_len hd2)
theorem law4_lifted (os : Os) (started : os.Started) (H : Type) (enc : TypeId × Value → H) :
    ReturnsInHanded {} Tryd.checked os 6 .any (fun w args => (Rows.handoverBindingSpec.pre enc Tryd.prog Tryd.f6 [] false w args ∧ laidMetH Tryd.prog Rows.handoverBindingRow.laid w) ∧ sizedMet enc Tryd.prog Tryd.f6 (OpenSpec.ofChange Rows.handoverBindingSpec) false w args)
      (Rows.handoverBindingSpec.post enc Tryd.prog Tryd.f6 false true false false) := by
  refine returnsInHanded_of_change_and (C := Tryd.checked) (X := fun w _ => laidMetH Tryd.prog Rows.handoverBindingRow.laid w) (fun _ _ _ hh h => h.of_heap hh) own started (by kernel_rfl) Tryd.func6
    (ChangeSpec.witness_shaped (enc := enc) (C := Tryd.checked) (os := os) (X := fun w _ => laidMetH Tryd.prog Rows.handoverBindingRow.laid w) false (World.doorLaid Tryd.prog 400 os) #[.slice none 0 0, .agg #[.string .empty, .int .i64 0, .int .i64 0, .int .i64 0, .int .i64 0, .int .i64 0, .int .i64 0, .int .i64 0], .agg #[.string .empty, .int .i64 0, .int .i64 0, .int .i64 0, .int .i64 0, .int .i64 0, .int .i64 0, .int .i64 0]] 8 rfl (World.shaped_of_RefB (by kernel_rfl) (by kernel_rfl)) (by kernel_rfl) (by kernel_rfl) (by kernel_rfl) (door_met os _)) ?_
  intro W base args ds gs before hval hW _ _ _ _
  refine law_calls (P := Tryd.prog) (m := 4) (ps := [22, 25, 25]) (tb := 4) Tryd.params6 (by kernel_rfl) (by kernel_rfl) laidOut (by kernel_rfl) Tryd.underlying4 rfl (fun ds hl => ?_) law4_tyd hval hW
  match ds, hl with
  | [_, _, _], _ => exact ⟨rfl, rfl, rfl⟩
theorem law4_holds : Rows.HandoverBindingSaid :=
  OpenClaim.holds_of_wide 6 Tryd.f6 rfl rfl rfl rfl rfl rfl rfl ⟨rfl, rfl, rfl, rfl, rfl⟩ rfl rfl rfl rfl rfl (by kernel_rfl) Tryd.func6 (by kernel_rfl)
    (of_decide_eq_true (by kernel_rfl)) (by unfold Func.isWrapper; first | (rw [if_pos (by decide +kernel)]; kernel_rfl) | (rw [if_neg (by decide +kernel)]; exact ⟨rfl, rfl⟩))
    (fun os started H enc _ => law4_lifted os started H enc)
theorem law4_card : Rows.HandoverBindingCardSaid :=
  Claim7.holds_tied_plain_at .later [] [.data, .data, .data] true (true, "cfb96827ca4ee80e4c4d139e3db8e655ae95556a9f60b6cb5f0b0b1e7adb1396") false
    law4_holds (fun _ h => by cases h) (by kernel_rfl) (fun _ h => by cases h) handoverBinding_row_tie rfl ⟨rfl, rfl⟩ (by kernel_rfl) rfl
    (fun f fn hf hfn => by
      obtain rfl : f = 6 := Option.some.inj ((show Tryd.prog.funcNamed "postilion/postilionlaw33.HandoverBinding" = some 6 by kernel_rfl).symm.trans hf) |>.symm
      obtain rfl : fn = Tryd.f6 := (Option.some.inj (Tryd.func6.symm.trans hfn)).symm
      exact ⟨by kernel_rfl, fun j t ht => by
        rw [Tryd.params6] at ht
        have hm : t ∈ [22, 25, 25] := by
          have := Array.mem_of_getElem? ht
          simpa using this
        have hall : ([22, 25, 25].all fun u => !Tryd.prog.wantsStandIn u) = true := by kernel_rfl
        exact (show Tryd.prog.wantsStandIn t = false by simpa using List.all_eq_true.1 hall t hm)⟩)
    (by kernel_rfl)
end Go.Proofs.YtobdkjjakdjnaaaDoor
