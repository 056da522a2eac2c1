/-
  An accepted paper's label is one of the contents with its root, or two lists collide: 'HandoverContents' answers true. Conditions: the three listed tables of the library hold what the program's text lays (the card ties them).
-/
import Derived.Test.YtobdkjjakdjnaaaDoorT0
import Derived.Test.YtobdkjjakdjnaaaDoorHc
import Derived.Test.YtobdkjjakdjnaaaDoorCards
import Derived.Test.YtobdkjjakdjnaaaDoorTie
import Derived.SevenTiedAt
set_option linter.unusedVariables false
set_option maxRecDepth 100000
namespace Go.Proofs.YtobdkjjakdjnaaaDoor
open Go.Av
open Go.ChangeShapes Go.WideShapes Go.ChangeAt Go.RowKit
theorem law5_tyd (xs : List AV) (h : TydVs Tryd.prog 4 [22, 29, 23] xs) : Ctr Tryd.prog 7 xs (fun r => r = .bool true) := by
  obtain ⟨x0, _, rfl, h0, h⟩ := tyds_cons h
  obtain ⟨x1, _, rfl, h1, h⟩ := tyds_cons h
  obtain ⟨x2, _, rfl, h2, h⟩ := tyds_cons h
  obtain rfl := tyds_nil h
  obtain ⟨keys, rfl, hkeys, _⟩ := tyd_ints (m := 2) Tryd.underlying22 Tryd.underlying3 (by kernel_rfl) h0
  obtain ⟨d, ps, pi, pp, rfl, hd, hps⟩ := tyd_paper (m := 0) h1
  obtain ⟨l, rfl, hl, hls⟩ := tyd_strs (m := 2) Tryd.underlying23 Tryd.underlying9 (by kernel_rfl) h2
  exact law5 keys d ps pi pp l (by unfold maxLen at hkeys; omega) (bd_len hd) (bd_len hps) (by unfold maxLen at hl; omega) (fun s h => bd_len (hls s h))
theorem law5_lifted (os : Os) (started : os.Started) (H : Type) (enc : TypeId × Value → H) :
    ReturnsInHanded {} Tryd.checked os 7 .any (fun w args => (Rows.handoverContentsSpec.pre enc Tryd.prog Tryd.f7 [] false w args ∧ laidMetH Tryd.prog Rows.handoverContentsRow.laid w) ∧ sizedMet enc Tryd.prog Tryd.f7 (OpenSpec.ofChange Rows.handoverContentsSpec) false w args)
      (Rows.handoverContentsSpec.post enc Tryd.prog Tryd.f7 false true false false) := by
  refine returnsInHanded_of_change_and (C := Tryd.checked) (X := fun w _ => laidMetH Tryd.prog Rows.handoverContentsRow.laid w) (fun _ _ _ hh h => h.of_heap hh) own started (by kernel_rfl) Tryd.func7
    (ChangeSpec.witness_shaped (enc := enc) (C := Tryd.checked) (os := os) (X := fun w _ => laidMetH Tryd.prog Rows.handoverContentsRow.laid w) false (World.doorLaid Tryd.prog 400 os) #[.slice none 0 0, .agg #[.string .empty, .int .i64 0, .int .i64 0, .int .i64 0, .int .i64 0, .int .i64 0, .int .i64 0, .int .i64 0, .string .empty, .int .i64 0, .slice none 0 0], .slice none 0 0] 8 rfl (World.shaped_of_RefB (by kernel_rfl) (by kernel_rfl)) (by kernel_rfl) (by kernel_rfl) (by kernel_rfl) (door_met os _)) ?_
  intro W base args ds gs before hval hW _ _ _ _
  refine law_calls (P := Tryd.prog) (m := 4) (ps := [22, 29, 23]) (tb := 4) Tryd.params7 (by kernel_rfl) (by kernel_rfl) laidOut (by kernel_rfl) Tryd.underlying4 rfl (fun ds hl => ?_) law5_tyd hval hW
  match ds, hl with
  | [_, _, _], _ => exact ⟨rfl, rfl, rfl⟩
theorem law5_holds : Rows.HandoverContentsSaid :=
  OpenClaim.holds_of_wide 7 Tryd.f7 rfl rfl rfl rfl rfl rfl rfl ⟨rfl, rfl, rfl, rfl, rfl⟩ rfl rfl rfl rfl rfl (by kernel_rfl) Tryd.func7 (by kernel_rfl)
    (of_decide_eq_true (by kernel_rfl)) (by unfold Func.isWrapper; first | (rw [if_pos (by decide +kernel)]; kernel_rfl) | (rw [if_neg (by decide +kernel)]; exact ⟨rfl, rfl⟩))
    (fun os started H enc _ => law5_lifted os started H enc)
theorem law5_card : Rows.HandoverContentsCardSaid :=
  Claim7.holds_tied_plain_at .later [] [.data, .data, .data] true (true, "cfb96827ca4ee80e4c4d139e3db8e655ae95556a9f60b6cb5f0b0b1e7adb1396") false
    law5_holds (fun _ h => by cases h) (by kernel_rfl) (fun _ h => by cases h) handoverContents_row_tie rfl ⟨rfl, rfl⟩ (by kernel_rfl) rfl
    (fun f fn hf hfn => by
      obtain rfl : f = 7 := Option.some.inj ((show Tryd.prog.funcNamed "postilion/postilionlaw33.HandoverContents" = some 7 by kernel_rfl).symm.trans hf) |>.symm
      obtain rfl : fn = Tryd.f7 := (Option.some.inj (Tryd.func7.symm.trans hfn)).symm
      exact ⟨by kernel_rfl, fun j t ht => by
        rw [Tryd.params7] at ht
        have hm : t ∈ [22, 29, 23] := by
          have := Array.mem_of_getElem? ht
          simpa using this
        have hall : ([22, 29, 23].all fun u => !Tryd.prog.wantsStandIn u) = true := by kernel_rfl
        exact (show Tryd.prog.wantsStandIn t = false by simpa using List.all_eq_true.1 hall t hm)⟩)
    (by kernel_rfl)
end Go.Proofs.YtobdkjjakdjnaaaDoor
