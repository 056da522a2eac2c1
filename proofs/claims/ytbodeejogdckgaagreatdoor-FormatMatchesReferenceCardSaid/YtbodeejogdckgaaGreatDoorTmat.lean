/-
  All functions of package format return what the reference implementation returns: 'FormatMatchesReference' answers true. Conditions: the listed tables hold what the program's text lays (the card ties them).
-/
import Derived.Test.YtbodeejogdckgaaGreatDoorT0
import Derived.Test.YtbodeejogdckgaaGreatDoorL8
import Derived.Test.YtbodeejogdckgaaGreatDoorCards
import Derived.Test.YtbodeejogdckgaaGreatDoorTie
import Derived.SevenTiedAt
import Derived.Lay
set_option linter.unusedVariables false
set_option maxRecDepth 100000
namespace Go.Proofs.YtbodeejogdckgaaGreatDoor
open Go.Av Pl
open Go.ChangeShapes Go.WideShapes Go.ChangeAt Go.RowKit
theorem formatMatchesReference_tyd (xs : List AV) (h : TydVs Tryz.prog 5 [24, 25, 27] xs) : Ctr Tryz.prog 3 xs (fun r => r = .bool true) := by
  obtain ⟨x0, _, rfl, h0, h⟩ := tyds_cons h
  obtain ⟨x1, _, rfl, h1, h⟩ := tyds_cons h
  obtain ⟨x2, _, rfl, h2, h⟩ := tyds_cons h
  obtain rfl := tyds_nil h
  obtain ⟨f0, rfl⟩ := tyd_fm (m := 0) h0
  obtain ⟨l1, rfl, hl1, hs1⟩ := tyd_strs (m := 3) Tryz.underlying25 Tryz.underlying9 (by kernel_rfl) h1
  obtain ⟨a2, rfl, ra2⟩ := tyd_ad (m := 3) h2
  exact matches_law f0 l1 a2 ra2.1 ra2.2.1 ra2.2.2.1 ra2.2.2.2
theorem formatMatchesReference_lifted (os : Os) (started : os.Started) (H : Type) (enc : TypeId × Value → H) :
    ReturnsInHanded {} Tryz.checked os 3 .any (fun w args => (Rows.formatMatchesReferenceSpec.pre enc Tryz.prog Tryz.f3 [] false w args ∧ laidMetH Tryz.prog Rows.formatMatchesReferenceRow.laid w) ∧ sizedMet enc Tryz.prog Tryz.f3 (OpenSpec.ofChange Rows.formatMatchesReferenceSpec) false w args)
      (Rows.formatMatchesReferenceSpec.post enc Tryz.prog Tryz.f3 false true false false) := by
  refine returnsInHanded_of_change_and (C := Tryz.checked) (X := fun w _ => laidMetH Tryz.prog Rows.formatMatchesReferenceRow.laid w) (fun _ _ _ hh h => h.of_heap hh) own started (by kernel_rfl) Tryz.func3
    (ChangeSpec.witness_shaped (enc := enc) (C := Tryz.checked) (os := os) (X := fun w _ => laidMetH Tryz.prog Rows.formatMatchesReferenceRow.laid w) false (World.laidAll Tryz.prog os Rows.formatMatchesReferenceRow.laid) #[.agg #[.string .empty, .slice none 0 0], .slice none 0 0, .agg #[.string .empty, .string .empty, .int .i64 0, .string .empty, .string .empty]] 8 (World.laidAll_os _ _ _) (World.shaped_of_ZipB (by kernel_rfl) (by kernel_rfl)) (by kernel_rfl) (by kernel_rfl) (by kernel_rfl)
      (by rw [Go.MakeChecks.laidMetH_plain _ _ _ (by kernel_rfl)]; exact laidMet_laidAll _ (by kernel_rfl) (by kernel_rfl))) ?_
  intro W base args ds gs before hval hW q1 q2 q3 q4
  have hG := gl_all (l := Rows.formatMatchesReferenceRow.laid) (by assumption) (by kernel_rfl) (List.mem_of_getElem? (i := 4) rfl) (List.mem_of_getElem? (i := 5) rfl) (List.mem_of_getElem? (i := 2) rfl)
  refine law_calls (P := Tryz.prog) (m := 5) (ps := [24, 25, 27]) (tb := 4) Tryz.params3 (by kernel_rfl) (by kernel_rfl) laidOut (by kernel_rfl) Tryz.underlying4 rfl (fun ds hl => ?_) formatMatchesReference_tyd hval (fun x hx => (hG x hx).1) (fun x hx _ => (hG x hx).2) q2 hW
  match ds, hl with
  | [_, _, _], _ => exact ⟨rfl, rfl, rfl⟩
theorem formatMatchesReference_holds : Rows.FormatMatchesReferenceSaid :=
  OpenClaim.holds_of_wide 3 Tryz.f3 rfl rfl rfl rfl rfl rfl rfl ⟨rfl, rfl, rfl, rfl, rfl⟩ rfl rfl rfl rfl rfl (by kernel_rfl) Tryz.func3 (by kernel_rfl)
    (of_decide_eq_true (by kernel_rfl)) (by unfold Func.isWrapper; first | (rw [if_pos (by decide +kernel)]; kernel_rfl) | (rw [if_neg (by decide +kernel)]; exact ⟨rfl, rfl⟩))
    (fun os started H enc _ => formatMatchesReference_lifted os started H enc)
theorem formatMatchesReference_card : Rows.FormatMatchesReferenceCardSaid :=
  Claim7.holds_tied_plain_at .later [] [.data, .data, .data, .data, .sentinel, .sentinel, .pinned, .pinned] true (true, "eca9102eb172e97bf6d0b74e51c7ca020b919fcce66d93d535c0692e1e7d325a") true
    formatMatchesReference_holds (fun _ h => by cases h) (by kernel_rfl) (fun _ h => by cases h) formatMatchesReference_row_tie rfl ⟨rfl, rfl⟩ (by kernel_rfl) rfl
    (fun f fn hf hfn => by
      obtain rfl : f = 3 := Option.some.inj ((show Tryz.prog.funcNamed "postilion/postilionlaw04.FormatMatchesReference" = some 3 by kernel_rfl).symm.trans hf) |>.symm
      obtain rfl : fn = Tryz.f3 := (Option.some.inj (Tryz.func3.symm.trans hfn)).symm
      exact ⟨by kernel_rfl, fun j t ht => by
        rw [Tryz.params3] at ht
        have hm : t ∈ [24, 25, 27] := by
          have := Array.mem_of_getElem? ht
          simpa using this
        have hall : ([24, 25, 27].all fun u => !Tryz.prog.wantsStandIn u) = true := by kernel_rfl
        exact (show Tryz.prog.wantsStandIn t = false by simpa using List.all_eq_true.1 hall t hm)⟩)
    (by kernel_rfl)
end Go.Proofs.YtbodeejogdckgaaGreatDoor
