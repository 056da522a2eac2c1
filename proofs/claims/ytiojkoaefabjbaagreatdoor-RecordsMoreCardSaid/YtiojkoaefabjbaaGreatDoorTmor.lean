/-
  Normal with a further record has one more; with a further scanner, at least the same: 'RecordsMore' answers true. Conditions: the listed tables hold what the program's text lays (the card ties them).
-/
import Derived.Test.YtiojkoaefabjbaaGreatDoorT0
import Derived.Test.YtiojkoaefabjbaaGreatDoorL5
import Derived.Test.YtiojkoaefabjbaaGreatDoorCards
import Derived.Test.YtiojkoaefabjbaaGreatDoorTie
import Derived.SevenTiedAt
import Derived.Lay
set_option linter.unusedVariables false
set_option maxRecDepth 100000
namespace Go.Proofs.YtiojkoaefabjbaaGreatDoor
open Go.Av
open Go.ChangeShapes Go.WideShapes Go.ChangeAt Go.RowKit
theorem recordsMore_tyd (xs : List AV) (h : TydVs Tryz.prog 5 [22, 23, 28, 45] xs) : Ctr Tryz.prog 8 xs (fun r => r = .bool true) := by
  obtain ⟨x0, _, rfl, h0, h⟩ := tyds_cons h
  obtain ⟨x1, _, rfl, h1, h⟩ := tyds_cons h
  obtain ⟨x2, _, rfl, h2, h⟩ := tyds_cons h
  obtain ⟨x3, _, rfl, h3, h⟩ := tyds_cons h
  obtain rfl := tyds_nil h
  obtain ⟨l0, rfl, hl0⟩ := tyd_sns (m := 2) h0
  obtain ⟨l1, rfl, hl1⟩ := tyd_recs (m := 1) h1
  obtain ⟨r2, rfl⟩ := tyd_rec (m := 2) h2
  obtain ⟨s3, rfl⟩ := tyd_sn (m := 3) h3
  exact more_law l0 l1 r2 s3
theorem recordsMore_lifted (os : Os) (started : os.Started) (H : Type) (enc : TypeId × Value → H) :
    ReturnsInHanded {} Tryz.checked os 8 .any (fun w args => (Rows.recordsMoreSpec.pre enc Tryz.prog Tryz.f8 [] false w args ∧ laidMetH Tryz.prog Rows.recordsMoreRow.laid w) ∧ sizedMet enc Tryz.prog Tryz.f8 (OpenSpec.ofChange Rows.recordsMoreSpec) false w args)
      (Rows.recordsMoreSpec.post enc Tryz.prog Tryz.f8 false true false false) := by
  refine returnsInHanded_of_change_and (C := Tryz.checked) (X := fun w _ => laidMetH Tryz.prog Rows.recordsMoreRow.laid w) (fun _ _ _ hh h => h.of_heap hh) own started (by kernel_rfl) Tryz.func8
    (ChangeSpec.witness_shaped (enc := enc) (C := Tryz.checked) (os := os) (X := fun w _ => laidMetH Tryz.prog Rows.recordsMoreRow.laid w) false (World.laidAll Tryz.prog os Rows.recordsMoreRow.laid) #[.slice none 0 0, .slice none 0 0, .agg #[.int .i64 0, .int .i64 0, .int .i64 0, .int .i64 0, .string .empty, .slice none 0 0], .agg #[.int .i64 0, .int .i64 0, .int .i64 0]] 8 (World.laidAll_os _ _ _) (World.shaped_of_ZipB (by kernel_rfl) (by kernel_rfl)) (by kernel_rfl) (by kernel_rfl) (by kernel_rfl)
      (by rw [Go.MakeChecks.laidMetH_plain _ _ _ (by kernel_rfl)]; exact laidMet_laidAll _ (by kernel_rfl) (by kernel_rfl))) ?_
  intro W base args ds gs before hval hW q1 q2 q3 q4
  have hG := gl_all (l := Rows.recordsMoreRow.laid) (by assumption) (by kernel_rfl) (List.mem_of_getElem? (i := 4) rfl) (List.mem_of_getElem? (i := 5) rfl) (List.mem_of_getElem? (i := 2) rfl)
  refine law_calls (P := Tryz.prog) (m := 5) (ps := [22, 23, 28, 45]) (tb := 4) Tryz.params8 (by kernel_rfl) (by kernel_rfl) laidOut (by kernel_rfl) Tryz.underlying4 rfl (fun ds hl => ?_) recordsMore_tyd hval (fun x hx => (hG x hx).1) (fun x hx _ => (hG x hx).2) hW
  match ds, hl with
  | [_, _, _, _], _ => exact ⟨rfl, rfl, rfl⟩
theorem recordsMore_holds : Rows.RecordsMoreSaid :=
  OpenClaim.holds_of_wide 8 Tryz.f8 rfl rfl rfl rfl rfl rfl rfl ⟨rfl, rfl, rfl, rfl, rfl⟩ rfl rfl rfl rfl rfl (by kernel_rfl) Tryz.func8 (by kernel_rfl)
    (of_decide_eq_true (by kernel_rfl)) (by unfold Func.isWrapper; first | (rw [if_pos (by decide +kernel)]; kernel_rfl) | (rw [if_neg (by decide +kernel)]; exact ⟨rfl, rfl⟩))
    (fun os started H enc _ => recordsMore_lifted os started H enc)
theorem recordsMore_card : Rows.RecordsMoreCardSaid :=
  Claim7.holds_tied_plain_at .later [] [.data, .data, .data, .data, .sentinel, .sentinel, .pinned] true (true, "adeb7db94b87507fefd269f10a56e60a8e57e21c6746bc0e7316986f77bb799e") true
    recordsMore_holds (fun _ h => by cases h) (by kernel_rfl) (fun _ h => by cases h) recordsMore_row_tie rfl ⟨rfl, rfl⟩ (by kernel_rfl) rfl
    (fun f fn hf hfn => by
      obtain rfl : f = 8 := Option.some.inj ((show Tryz.prog.funcNamed "postilion/postilionlaw25.RecordsMore" = some 8 by kernel_rfl).symm.trans hf) |>.symm
      obtain rfl : fn = Tryz.f8 := (Option.some.inj (Tryz.func8.symm.trans hfn)).symm
      exact ⟨by kernel_rfl, fun j t ht => by
        rw [Tryz.params8] at ht
        have hm : t ∈ [22, 23, 28, 45] := by
          have := Array.mem_of_getElem? ht
          simpa using this
        have hall : ([22, 23, 28, 45].all fun u => !Tryz.prog.wantsStandIn u) = true := by kernel_rfl
        exact (show Tryz.prog.wantsStandIn t = false by simpa using List.all_eq_true.1 hall t hm)⟩)
    (by kernel_rfl)
end Go.Proofs.YtiojkoaefabjbaaGreatDoor
