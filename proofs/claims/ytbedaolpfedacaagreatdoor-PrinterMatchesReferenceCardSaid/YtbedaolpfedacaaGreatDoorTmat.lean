/-
  Both functions return what the reference implementation returns: 'PrinterMatchesReference' answers true. Conditions: the listed tables hold what the program's text lays (the card ties them).
-/
import Derived.Test.YtbedaolpfedacaaGreatDoorT03
import Derived.Test.YtbedaolpfedacaaGreatDoorXb3
import Derived.Test.YtbedaolpfedacaaGreatDoorCards
import Derived.Test.YtbedaolpfedacaaGreatDoorTie
import Derived.SevenTiedAt
import Derived.Lay
set_option linter.unusedVariables false
set_option maxRecDepth 100000
namespace Go.Proofs.YtbedaolpfedacaaGreatDoor
open Go.Av Go.Av.Net Pl
open Go.ChangeShapes Go.WideShapes Go.ChangeAt Go.RowKit
theorem printerMatchesReference_tyd (xs : List AV) (h : TydVs Tryz.prog 5 [29] xs) : Ctr Tryz.prog 3 xs (fun r => r = .bool true) := by
  obtain ⟨x0, _, rfl, h0, h⟩ := tyds_cons h
  obtain rfl := tyds_nil h
  obtain ⟨n0, rfl, hn0⟩ := tyd_net (m := 0) h0
  exact matches_law n0 hn0
theorem printerMatchesReference_lifted (os : Os) (started : os.Started) (H : Type) (enc : TypeId × Value → H) :
    ReturnsInHanded {} Tryz.checked os 3 .any (fun w args => (Rows.printerMatchesReferenceSpec.pre enc Tryz.prog Tryz.f3 [] false w args ∧ laidMetH Tryz.prog Rows.printerMatchesReferenceRow.laid w) ∧ sizedMet enc Tryz.prog Tryz.f3 (OpenSpec.ofChange Rows.printerMatchesReferenceSpec) false w args)
      (Rows.printerMatchesReferenceSpec.post enc Tryz.prog Tryz.f3 false true false false) := by
  refine returnsInHanded_of_change_and (C := Tryz.checked) (X := fun w _ => laidMetH Tryz.prog Rows.printerMatchesReferenceRow.laid w) (fun _ _ _ hh h => h.of_heap hh) own started (by kernel_rfl) Tryz.func3
    (ChangeSpec.witness_shaped (enc := enc) (C := Tryz.checked) (os := os) (X := fun w _ => laidMetH Tryz.prog Rows.printerMatchesReferenceRow.laid w) false (World.laidAll Tryz.prog os Rows.printerMatchesReferenceRow.laid) #[.agg #[.slice none 0 0, .slice none 0 0, .slice none 0 0, .slice none 0 0, .slice none 0 0, .slice none 0 0]] 8 (World.laidAll_os _ _ _) (World.shaped_of_ZipB (by kernel_rfl) (by kernel_rfl)) (by kernel_rfl) (by kernel_rfl) (by kernel_rfl)
      (by rw [Go.MakeChecks.laidMetH_plain _ _ _ (by kernel_rfl)]; exact laidMet_laidAll _ (by kernel_rfl) (by kernel_rfl))) ?_
  intro W base args ds gs before hval hW q1 q2 q3 q4
  have hG := gl_all (l := Rows.printerMatchesReferenceRow.laid) (by assumption) (by kernel_rfl) (List.mem_of_getElem? (i := 3) rfl) (List.mem_of_getElem? (i := 4) rfl) (List.mem_of_getElem? (i := 2) rfl) (List.mem_of_getElem? (i := 5) rfl) (List.mem_of_getElem? (i := 6) rfl) (List.mem_of_getElem? (i := 7) rfl)
  refine law_calls (P := Tryz.prog) (m := 5) (ps := [29]) (tb := 4) Tryz.params3 (by kernel_rfl) (by kernel_rfl) laidOut (by kernel_rfl) Tryz.underlying4 rfl (fun ds hl => ?_) printerMatchesReference_tyd hval (fun x hx => (hG x hx).1) (fun x hx _ => (hG x hx).2) q2 hW
  match ds, hl with
  | [_], _ => exact ⟨rfl, rfl, rfl⟩
theorem printerMatchesReference_holds : Rows.PrinterMatchesReferenceSaid :=
  OpenClaim.holds_of_wide 3 Tryz.f3 rfl rfl rfl rfl rfl rfl rfl ⟨rfl, rfl, rfl, rfl, rfl⟩ rfl rfl rfl rfl rfl (by kernel_rfl) Tryz.func3 (by kernel_rfl)
    (of_decide_eq_true (by kernel_rfl)) (by unfold Func.isWrapper; first | (rw [if_pos (by decide +kernel)]; kernel_rfl) | (rw [if_neg (by decide +kernel)]; exact ⟨rfl, rfl⟩))
    (fun os started H enc _ => printerMatchesReference_lifted os started H enc)
theorem printerMatchesReference_card : Rows.PrinterMatchesReferenceCardSaid :=
  Claim7.holds_tied_plain_at .later [] [.data, .data, .data, .sentinel, .sentinel, .data, .data, .data] true (true, "1fcde861958a27aef426cf6f5e6ff796aea9df6ae363604e13bbda554a95a657") true
    printerMatchesReference_holds (fun _ h => by cases h) (by kernel_rfl) (fun _ h => by cases h) printerMatchesReference_row_tie rfl ⟨rfl, rfl⟩ (by kernel_rfl) rfl
    (fun f fn hf hfn => by
      obtain rfl : f = 3 := Option.some.inj ((show Tryz.prog.funcNamed "postilion/postilionlaw10.PrinterMatchesReference" = some 3 by kernel_rfl).symm.trans hf) |>.symm
      obtain rfl : fn = Tryz.f3 := (Option.some.inj (Tryz.func3.symm.trans hfn)).symm
      exact ⟨by kernel_rfl, fun j t ht => by
        rw [Tryz.params3] at ht
        have hm : t ∈ [29] := by
          have := Array.mem_of_getElem? ht
          simpa using this
        have hall : ([29].all fun u => !Tryz.prog.wantsStandIn u) = true := by kernel_rfl
        exact (show Tryz.prog.wantsStandIn t = false by simpa using List.all_eq_true.1 hall t hm)⟩)
    (by kernel_rfl)
end Go.Proofs.YtbedaolpfedacaaGreatDoor
