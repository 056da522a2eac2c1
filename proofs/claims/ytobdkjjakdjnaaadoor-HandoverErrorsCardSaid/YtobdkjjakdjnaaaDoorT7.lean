/-
  A document is written, and a proof made, exactly if all is permitted: 'HandoverErrors' answers true. Conditions: the three listed tables of the library hold what the program's text lays (the card ties them).
-/
import Derived.Test.YtobdkjjakdjnaaaDoorT0
import Derived.Test.YtobdkjjakdjnaaaDoorHb
import Derived.Test.YtobdkjjakdjnaaaDoorCards
import Derived.Test.YtobdkjjakdjnaaaDoorTie
import Derived.SevenTiedAt
set_option linter.unusedVariables false
set_option maxRecDepth 100000
namespace Go.Proofs.YtobdkjjakdjnaaaDoor
open Go.Av
open Go.ChangeShapes Go.WideShapes Go.ChangeAt Go.RowKit
theorem law7_tyd (xs : List AV) (h : TydVs Tryd.prog 4 [22, 3, 3, 9, 3, 23, 3] xs) : Ctr Tryd.prog 9 xs (fun r => r = .bool true) := by
  obtain ⟨x0, _, rfl, h0, h⟩ := tyds_cons h
  obtain ⟨x1, _, rfl, h1, h⟩ := tyds_cons h
  obtain ⟨x2, _, rfl, h2, h⟩ := tyds_cons h
  obtain ⟨x3, _, rfl, h3, h⟩ := tyds_cons h
  obtain ⟨x4, _, rfl, h4, h⟩ := tyds_cons h
  obtain ⟨x5, _, rfl, h5, h⟩ := tyds_cons h
  obtain ⟨x6, _, rfl, h6, h⟩ := tyds_cons h
  obtain rfl := tyds_nil h
  obtain ⟨keys, rfl, hkeys, _⟩ := tyd_ints (m := 2) Tryd.underlying22 Tryd.underlying3 (by kernel_rfl) h0
  obtain ⟨n1, rfl, _⟩ := tyd_int Tryd.underlying3 h1
  obtain ⟨n2, rfl, _⟩ := tyd_int Tryd.underlying3 h2
  obtain ⟨s3, rfl, hs3⟩ := tyd_str Tryd.underlying9 h3
  obtain ⟨n4, rfl, _⟩ := tyd_int Tryd.underlying3 h4
  obtain ⟨l, rfl, hl, hls⟩ := tyd_strs (m := 2) Tryd.underlying23 Tryd.underlying9 (by kernel_rfl) h5
  obtain ⟨n6, rfl, _⟩ := tyd_int Tryd.underlying3 h6
  exact law7 keys n1 n2 s3 n4 l n6 (by unfold maxLen at hkeys; omega) (bd_len hs3) (by unfold maxLen at hl; omega) (fun s h => bd_len (hls s h))
theorem law7_lifted (os : Os) (started : os.Started) (H : Type) (enc : TypeId × Value → H) :
    ReturnsInHanded {} Tryd.checked os 9 .any (fun w args => (Rows.handoverErrorsSpec.pre enc Tryd.prog Tryd.f9 [] false w args ∧ laidMetH Tryd.prog Rows.handoverErrorsRow.laid w) ∧ sizedMet enc Tryd.prog Tryd.f9 (OpenSpec.ofChange Rows.handoverErrorsSpec) false w args)
      (Rows.handoverErrorsSpec.post enc Tryd.prog Tryd.f9 false true false false) := by
  refine returnsInHanded_of_change_and (C := Tryd.checked) (X := fun w _ => laidMetH Tryd.prog Rows.handoverErrorsRow.laid w) (fun _ _ _ hh h => h.of_heap hh) own started (by kernel_rfl) Tryd.func9
    (ChangeSpec.witness_shaped (enc := enc) (C := Tryd.checked) (os := os) (X := fun w _ => laidMetH Tryd.prog Rows.handoverErrorsRow.laid w) false (World.doorLaid Tryd.prog 400 os) #[.slice none 0 0, .int .i64 0, .int .i64 0, .string .empty, .int .i64 0, .slice none 0 0, .int .i64 0] 8 rfl (World.shaped_of_RefB (by kernel_rfl) (by kernel_rfl)) (by kernel_rfl) (by kernel_rfl) (by kernel_rfl) (door_met os _)) ?_
  intro W base args ds gs before hval hW _ _ _ _
  refine law_calls (P := Tryd.prog) (m := 4) (ps := [22, 3, 3, 9, 3, 23, 3]) (tb := 4) Tryd.params9 (by kernel_rfl) (by kernel_rfl) laidOut (by kernel_rfl) Tryd.underlying4 rfl (fun ds hl => ?_) law7_tyd hval hW
  match ds, hl with
  | [_, _, _, _, _, _, _], _ => exact ⟨rfl, rfl, rfl⟩
theorem law7_holds : Rows.HandoverErrorsSaid :=
  OpenClaim.holds_of_wide 9 Tryd.f9 rfl rfl rfl rfl rfl rfl rfl ⟨rfl, rfl, rfl, rfl, rfl⟩ rfl rfl rfl rfl rfl (by kernel_rfl) Tryd.func9 (by kernel_rfl)
    (of_decide_eq_true (by kernel_rfl)) (by unfold Func.isWrapper; first | (rw [if_pos (by decide +kernel)]; kernel_rfl) | (rw [if_neg (by decide +kernel)]; exact ⟨rfl, rfl⟩))
    (fun os started H enc _ => law7_lifted os started H enc)
theorem law7_card : Rows.HandoverErrorsCardSaid :=
  Claim7.holds_tied_plain_at .later [] [.data, .data, .data] true (true, "cfb96827ca4ee80e4c4d139e3db8e655ae95556a9f60b6cb5f0b0b1e7adb1396") false
    law7_holds (fun _ h => by cases h) (by kernel_rfl) (fun _ h => by cases h) handoverErrors_row_tie rfl ⟨rfl, rfl⟩ (by kernel_rfl) rfl
    (fun f fn hf hfn => by
      obtain rfl : f = 9 := Option.some.inj ((show Tryd.prog.funcNamed "postilion/postilionlaw33.HandoverErrors" = some 9 by kernel_rfl).symm.trans hf) |>.symm
      obtain rfl : fn = Tryd.f9 := (Option.some.inj (Tryd.func9.symm.trans hfn)).symm
      exact ⟨by kernel_rfl, fun j t ht => by
        rw [Tryd.params9] at ht
        have hm : t ∈ [22, 3, 3, 9, 3, 23, 3] := by
          have := Array.mem_of_getElem? ht
          simpa using this
        have hall : ([22, 3, 3, 9, 3, 23, 3].all fun u => !Tryd.prog.wantsStandIn u) = true := by kernel_rfl
        exact (show Tryd.prog.wantsStandIn t = false by simpa using List.all_eq_true.1 hall t hm)⟩)
    (by kernel_rfl)
end Go.Proofs.YtobdkjjakdjnaaaDoor
