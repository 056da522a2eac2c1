/-
  The text of a network has as many lines as its things ask for, and ends with a line feed: 'PrinterLines' answers true. Conditions: the listed tables hold what the program's text lays (the card ties them).
-/
import Derived.Test.YtbedaolpfedacaaGreatDoorT0a
import Derived.Test.YtbedaolpfedacaaGreatDoorWc
import Derived.Test.YtbedaolpfedacaaGreatDoorCards
import Derived.Test.YtbedaolpfedacaaGreatDoorTie
import Derived.SevenTiedAt
import Derived.Lay
set_option linter.unusedVariables false
set_option maxRecDepth 100000
namespace Go.Proofs.YtbedaolpfedacaaGreatDoor
open Go.Av Go.Av.Net Pl
open Go.ChangeShapes Go.WideShapes Go.ChangeAt Go.RowKit
theorem printerLines_tyd (xs : List AV) (h : TydVs Tryz.prog 5 [29] xs) : Ctr Tryz.prog 7 xs (fun r => r = .bool true) := by
  obtain ⟨x0, _, rfl, h0, h⟩ := tyds_cons h
  obtain rfl := tyds_nil h
  obtain ⟨n0, rfl, hn0⟩ := tyd_net (m := 0) h0
  exact lines_law n0 hn0
theorem printerLines_lifted (os : Os) (started : os.Started) (H : Type) (enc : TypeId × Value → H) :
    ReturnsInHanded {} Tryz.checked os 7 .any (fun w args => (Rows.printerLinesSpec.pre enc Tryz.prog Tryz.f7 [] false w args ∧ laidMetH Tryz.prog Rows.printerLinesRow.laid w) ∧ sizedMet enc Tryz.prog Tryz.f7 (OpenSpec.ofChange Rows.printerLinesSpec) false w args)
      (Rows.printerLinesSpec.post enc Tryz.prog Tryz.f7 false true false false) := by
  refine returnsInHanded_of_change_and (C := Tryz.checked) (X := fun w _ => laidMetH Tryz.prog Rows.printerLinesRow.laid w) (fun _ _ _ hh h => h.of_heap hh) own started (by kernel_rfl) Tryz.func7
    (ChangeSpec.witness_shaped (enc := enc) (C := Tryz.checked) (os := os) (X := fun w _ => laidMetH Tryz.prog Rows.printerLinesRow.laid w) false (World.laidAll Tryz.prog os Rows.printerLinesRow.laid) #[.agg #[.slice none 0 0, .slice none 0 0, .slice none 0 0, .slice none 0 0, .slice none 0 0, .slice none 0 0]] 8 (World.laidAll_os _ _ _) (World.shaped_of_ZipB (by kernel_rfl) (by kernel_rfl)) (by kernel_rfl) (by kernel_rfl) (by kernel_rfl)
      (by rw [Go.MakeChecks.laidMetH_plain _ _ _ (by kernel_rfl)]; exact laidMet_laidAll _ (by kernel_rfl) (by kernel_rfl))) ?_
  intro W base args ds gs before hval hW q1 q2 q3 q4
  have hG := gl_all (l := Rows.printerLinesRow.laid) (by assumption) (by kernel_rfl) (List.mem_of_getElem? (i := 3) rfl) (List.mem_of_getElem? (i := 4) rfl) (List.mem_of_getElem? (i := 2) rfl) (List.mem_of_getElem? (i := 5) rfl) (List.mem_of_getElem? (i := 6) rfl) (List.mem_of_getElem? (i := 7) rfl)
  refine law_calls (P := Tryz.prog) (m := 5) (ps := [29]) (tb := 4) Tryz.params7 (by kernel_rfl) (by kernel_rfl) laidOut (by kernel_rfl) Tryz.underlying4 rfl (fun ds hl => ?_) printerLines_tyd hval (fun x hx => (hG x hx).1) (fun x hx _ => (hG x hx).2) q2 hW
  match ds, hl with
  | [_], _ => exact ⟨rfl, rfl, rfl⟩
theorem printerLines_holds : Rows.PrinterLinesSaid :=
  OpenClaim.holds_of_wide 7 Tryz.f7 rfl rfl rfl rfl rfl rfl rfl ⟨rfl, rfl, rfl, rfl, rfl⟩ rfl rfl rfl rfl rfl (by kernel_rfl) Tryz.func7 (by kernel_rfl)
    (of_decide_eq_true (by kernel_rfl)) (by unfold Func.isWrapper; first | (rw [if_pos (by decide +kernel)]; kernel_rfl) | (rw [if_neg (by decide +kernel)]; exact ⟨rfl, rfl⟩))
    (fun os started H enc _ => printerLines_lifted os started H enc)
theorem printerLines_card : Rows.PrinterLinesCardSaid :=
  Claim7.holds_tied_plain_at .later [] [.data, .data, .data, .sentinel, .sentinel, .data, .data, .data] true (true, "1fcde861958a27aef426cf6f5e6ff796aea9df6ae363604e13bbda554a95a657") true
    printerLines_holds (fun _ h => by cases h) (by kernel_rfl) (fun _ h => by cases h) printerLines_row_tie rfl ⟨rfl, rfl⟩ (by kernel_rfl) rfl
    (fun f fn hf hfn => by
      obtain rfl : f = 7 := Option.some.inj ((show Tryz.prog.funcNamed "postilion/postilionlaw10.PrinterLines" = some 7 by kernel_rfl).symm.trans hf) |>.symm
      obtain rfl : fn = Tryz.f7 := (Option.some.inj (Tryz.func7.symm.trans hfn)).symm
      exact ⟨by kernel_rfl, fun j t ht => by
        rw [Tryz.params7] at ht
        have hm : t ∈ [29] := by
          have := Array.mem_of_getElem? ht
          simpa using this
        have hall : ([29].all fun u => !Tryz.prog.wantsStandIn u) = true := by kernel_rfl
        exact (show Tryz.prog.wantsStandIn t = false by simpa using List.all_eq_true.1 hall t hm)⟩)
    (by kernel_rfl)
end Go.Proofs.YtbedaolpfedacaaGreatDoor
