/-
  Words divided among a street and a town have as many readings as there are ways to divide them: 'FormatAll' answers true. Conditions: the listed tables hold what the program's text lays (the card ties them).
-/
import Derived.Test.YtbodeejogdckgaaGreatDoorT0
import Derived.Test.YtbodeejogdckgaaGreatDoorL3
import Derived.Test.YtbodeejogdckgaaGreatDoorCards
import Derived.Test.YtbodeejogdckgaaGreatDoorTie
import Derived.SevenTiedAt
import Derived.Lay
set_option linter.unusedVariables false
set_option maxRecDepth 100000
namespace Go.Proofs.YtbodeejogdckgaaGreatDoor
open Go.Av Pl
open Go.ChangeShapes Go.WideShapes Go.ChangeAt Go.RowKit
theorem formatAll_tyd (xs : List AV) (h : TydVs Tryz.prog 5 [25] xs) : Ctr Tryz.prog 9 xs (fun r => r = .bool true) := by
  obtain ⟨x0, _, rfl, h0, h⟩ := tyds_cons h
  obtain rfl := tyds_nil h
  obtain ⟨l0, rfl, hl0, hs0⟩ := tyd_strs (m := 3) Tryz.underlying25 Tryz.underlying9 (by kernel_rfl) h0
  exact all_law l0
theorem formatAll_lifted (os : Os) (started : os.Started) (H : Type) (enc : TypeId × Value → H) :
    ReturnsInHanded {} Tryz.checked os 9 .any (fun w args => (Rows.formatAllSpec.pre enc Tryz.prog Tryz.f9 [] false w args ∧ laidMetH Tryz.prog Rows.formatAllRow.laid w) ∧ sizedMet enc Tryz.prog Tryz.f9 (OpenSpec.ofChange Rows.formatAllSpec) false w args)
      (Rows.formatAllSpec.post enc Tryz.prog Tryz.f9 false true false false) := by
  refine returnsInHanded_of_change_and (C := Tryz.checked) (X := fun w _ => laidMetH Tryz.prog Rows.formatAllRow.laid w) (fun _ _ _ hh h => h.of_heap hh) own started (by kernel_rfl) Tryz.func9
    (ChangeSpec.witness_shaped (enc := enc) (C := Tryz.checked) (os := os) (X := fun w _ => laidMetH Tryz.prog Rows.formatAllRow.laid w) false (World.laidAll Tryz.prog os Rows.formatAllRow.laid) #[.slice none 0 0] 8 (World.laidAll_os _ _ _) (World.shaped_of_ZipB (by kernel_rfl) (by kernel_rfl)) (by kernel_rfl) (by kernel_rfl) (by kernel_rfl)
      (by rw [Go.MakeChecks.laidMetH_plain _ _ _ (by kernel_rfl)]; exact laidMet_laidAll _ (by kernel_rfl) (by kernel_rfl))) ?_
  intro W base args ds gs before hval hW q1 q2 q3 q4
  have hG := gl_all (l := Rows.formatAllRow.laid) (by assumption) (by kernel_rfl) (List.mem_of_getElem? (i := 4) rfl) (List.mem_of_getElem? (i := 5) rfl) (List.mem_of_getElem? (i := 2) rfl)
  refine law_calls (P := Tryz.prog) (m := 5) (ps := [25]) (tb := 4) Tryz.params9 (by kernel_rfl) (by kernel_rfl) laidOut (by kernel_rfl) Tryz.underlying4 rfl (fun ds hl => ?_) formatAll_tyd hval (fun x hx => (hG x hx).1) (fun x hx _ => (hG x hx).2) q2 hW
  match ds, hl with
  | [_], _ => exact ⟨rfl, rfl, rfl⟩
theorem formatAll_holds : Rows.FormatAllSaid :=
  OpenClaim.holds_of_wide 9 Tryz.f9 rfl rfl rfl rfl rfl rfl rfl ⟨rfl, rfl, rfl, rfl, rfl⟩ rfl rfl rfl rfl rfl (by kernel_rfl) Tryz.func9 (by kernel_rfl)
    (of_decide_eq_true (by kernel_rfl)) (by unfold Func.isWrapper; first | (rw [if_pos (by decide +kernel)]; kernel_rfl) | (rw [if_neg (by decide +kernel)]; exact ⟨rfl, rfl⟩))
    (fun os started H enc _ => formatAll_lifted os started H enc)
theorem formatAll_card : Rows.FormatAllCardSaid :=
  Claim7.holds_tied_plain_at .later [] [.data, .data, .data, .data, .sentinel, .sentinel, .pinned, .pinned] true (true, "eca9102eb172e97bf6d0b74e51c7ca020b919fcce66d93d535c0692e1e7d325a") true
    formatAll_holds (fun _ h => by cases h) (by kernel_rfl) (fun _ h => by cases h) formatAll_row_tie rfl ⟨rfl, rfl⟩ (by kernel_rfl) rfl
    (fun f fn hf hfn => by
      obtain rfl : f = 9 := Option.some.inj ((show Tryz.prog.funcNamed "postilion/postilionlaw04.FormatAll" = some 9 by kernel_rfl).symm.trans hf) |>.symm
      obtain rfl : fn = Tryz.f9 := (Option.some.inj (Tryz.func9.symm.trans hfn)).symm
      exact ⟨by kernel_rfl, fun j t ht => by
        rw [Tryz.params9] at ht
        have hm : t ∈ [25] := by
          have := Array.mem_of_getElem? ht
          simpa using this
        have hall : ([25].all fun u => !Tryz.prog.wantsStandIn u) = true := by kernel_rfl
        exact (show Tryz.prog.wantsStandIn t = false by simpa using List.all_eq_true.1 hall t hm)⟩)
    (by kernel_rfl)
end Go.Proofs.YtbodeejogdckgaaGreatDoor
