/-
  A network with a line to no office, or from an office whose name stands twice, cannot be printed: 'PrinterReferences' answers true. Conditions: the listed tables hold what the program's text lays (the card ties them).
-/
import Derived.Test.YtbedaolpfedacaaGreatDoorT0a
import Derived.Test.YtbedaolpfedacaaGreatDoorWd
import Derived.Test.YtbedaolpfedacaaGreatDoorCards
import Derived.Test.YtbedaolpfedacaaGreatDoorTie
import Derived.SevenTiedAt
import Derived.Lay
set_option linter.unusedVariables false
set_option maxRecDepth 100000
namespace Go.Proofs.YtbedaolpfedacaaGreatDoor
open Go.Av Go.Av.Net Pl
open Go.ChangeShapes Go.WideShapes Go.ChangeAt Go.RowKit
theorem printerReferences_tyd (xs : List AV) (h : TydVs Tryz.prog 5 [29, 5, 3] xs) : Ctr Tryz.prog 8 xs (fun r => r = .bool true) := by
  obtain ⟨x0, _, rfl, h0, h⟩ := tyds_cons h
  obtain ⟨x1, _, rfl, h1, h⟩ := tyds_cons h
  obtain ⟨x2, _, rfl, h2, h⟩ := tyds_cons h
  obtain rfl := tyds_nil h
  obtain ⟨n0, rfl, hn0⟩ := tyd_net (m := 0) h0
  obtain ⟨u1, rfl, k1⟩ := tyd_int Tryz.underlying5 h1
  obtain ⟨i2, rfl, k2⟩ := tyd_int Tryz.underlying3 h2
  exact references_law n0 hn0 u1 k1 i2 k2
theorem printerReferences_lifted (os : Os) (started : os.Started) (H : Type) (enc : TypeId × Value → H) :
    ReturnsInHanded {} Tryz.checked os 8 .any (fun w args => (Rows.printerReferencesSpec.pre enc Tryz.prog Tryz.f8 [] false w args ∧ laidMetH Tryz.prog Rows.printerReferencesRow.laid w) ∧ sizedMet enc Tryz.prog Tryz.f8 (OpenSpec.ofChange Rows.printerReferencesSpec) false w args)
      (Rows.printerReferencesSpec.post enc Tryz.prog Tryz.f8 false true false false) := by
  refine returnsInHanded_of_change_and (C := Tryz.checked) (X := fun w _ => laidMetH Tryz.prog Rows.printerReferencesRow.laid w) (fun _ _ _ hh h => h.of_heap hh) own started (by kernel_rfl) Tryz.func8
    (ChangeSpec.witness_shaped (enc := enc) (C := Tryz.checked) (os := os) (X := fun w _ => laidMetH Tryz.prog Rows.printerReferencesRow.laid w) false (World.laidAll Tryz.prog os Rows.printerReferencesRow.laid) #[.agg #[.slice none 0 0, .slice none 0 0, .slice none 0 0, .slice none 0 0, .slice none 0 0, .slice none 0 0], .int .u8 0, .int .i64 0] 8 (World.laidAll_os _ _ _) (World.shaped_of_ZipB (by kernel_rfl) (by kernel_rfl)) (by kernel_rfl) (by kernel_rfl) (by kernel_rfl)
      (by rw [Go.MakeChecks.laidMetH_plain _ _ _ (by kernel_rfl)]; exact laidMet_laidAll _ (by kernel_rfl) (by kernel_rfl))) ?_
  intro W base args ds gs before hval hW q1 q2 q3 q4
  have hG := gl_all (l := Rows.printerReferencesRow.laid) (by assumption) (by kernel_rfl) (List.mem_of_getElem? (i := 3) rfl) (List.mem_of_getElem? (i := 4) rfl) (List.mem_of_getElem? (i := 2) rfl) (List.mem_of_getElem? (i := 5) rfl) (List.mem_of_getElem? (i := 6) rfl) (List.mem_of_getElem? (i := 7) rfl)
  refine law_calls (P := Tryz.prog) (m := 5) (ps := [29, 5, 3]) (tb := 4) Tryz.params8 (by kernel_rfl) (by kernel_rfl) laidOut (by kernel_rfl) Tryz.underlying4 rfl (fun ds hl => ?_) printerReferences_tyd hval (fun x hx => (hG x hx).1) (fun x hx _ => (hG x hx).2) q2 hW
  match ds, hl with
  | [_, _, _], _ => exact ⟨rfl, rfl, rfl⟩
theorem printerReferences_holds : Rows.PrinterReferencesSaid :=
  OpenClaim.holds_of_wide 8 Tryz.f8 rfl rfl rfl rfl rfl rfl rfl ⟨rfl, rfl, rfl, rfl, rfl⟩ rfl rfl rfl rfl rfl (by kernel_rfl) Tryz.func8 (by kernel_rfl)
    (of_decide_eq_true (by kernel_rfl)) (by unfold Func.isWrapper; first | (rw [if_pos (by decide +kernel)]; kernel_rfl) | (rw [if_neg (by decide +kernel)]; exact ⟨rfl, rfl⟩))
    (fun os started H enc _ => printerReferences_lifted os started H enc)
theorem printerReferences_card : Rows.PrinterReferencesCardSaid :=
  Claim7.holds_tied_plain_at .later [] [.data, .data, .data, .sentinel, .sentinel, .data, .data, .data] true (true, "1fcde861958a27aef426cf6f5e6ff796aea9df6ae363604e13bbda554a95a657") true
    printerReferences_holds (fun _ h => by cases h) (by kernel_rfl) (fun _ h => by cases h) printerReferences_row_tie rfl ⟨rfl, rfl⟩ (by kernel_rfl) rfl
    (fun f fn hf hfn => by
      obtain rfl : f = 8 := Option.some.inj ((show Tryz.prog.funcNamed "postilion/postilionlaw10.PrinterReferences" = some 8 by kernel_rfl).symm.trans hf) |>.symm
      obtain rfl : fn = Tryz.f8 := (Option.some.inj (Tryz.func8.symm.trans hfn)).symm
      exact ⟨by kernel_rfl, fun j t ht => by
        rw [Tryz.params8] at ht
        have hm : t ∈ [29, 5, 3] := by
          have := Array.mem_of_getElem? ht
          simpa using this
        have hall : ([29, 5, 3].all fun u => !Tryz.prog.wantsStandIn u) = true := by kernel_rfl
        exact (show Tryz.prog.wantsStandIn t = false by simpa using List.all_eq_true.1 hall t hm)⟩)
    (by kernel_rfl)
end Go.Proofs.YtbedaolpfedacaaGreatDoor
