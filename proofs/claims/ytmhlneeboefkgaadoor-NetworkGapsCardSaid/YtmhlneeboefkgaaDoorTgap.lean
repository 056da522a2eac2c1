/-
  Other gaps between the tokens of a text change neither the network nor the error, which is at the same token: 'NetworkGaps' answers true. Conditions: the listed tables hold what the program's text lays (the card ties them).
-/
import Derived.Test.YtmhlneeboefkgaaDoorT0
import Derived.Test.YtmhlneeboefkgaaDoorR10
import Derived.Test.YtmhlneeboefkgaaDoorCards
import Derived.Test.YtmhlneeboefkgaaDoorTie
import Derived.SevenTiedAt
set_option linter.unusedVariables false
set_option maxRecDepth 100000
namespace Go.Proofs.YtmhlneeboefkgaaDoor
open Go.Av
open Go.ChangeShapes Go.WideShapes Go.ChangeAt Go.RowKit
theorem networkGaps_tyd (xs : List AV) (h : TydVs Tryd.prog 4 [9, 22] xs) : Ctr Tryd.prog 3 xs (fun r => r = .bool true) := by
  obtain ⟨x0, _, rfl, h0, h⟩ := tyds_cons h
  obtain ⟨x1, _, rfl, h1, h⟩ := tyds_cons h
  obtain rfl := tyds_nil h
  obtain ⟨s, rfl, hs⟩ := tyd_str Tryd.underlying9 h0
  obtain ⟨g, rfl, hg, hgs⟩ := tyd_ints (m := 2) Tryd.underlying22 Tryd.underlying5 (by kernel_rfl) h1
  have e : g.map (AV.int .u8) = byts (g.map fun n => n.toNat.toUInt8) := by
    unfold byts
    rw [List.map_map]
    refine List.map_congr_left fun n hn => ?_
    obtain ⟨q1, q2⟩ := inKu8.1 (hgs n hn)
    have : (n.toNat.toUInt8).toNat = n.toNat := by simp; omega
    simp only [Function.comp_def, this]
    congr 1
    omega
  rw [e]
  exact gaps_law s _ (by unfold maxLen at hs; omega) (by unfold maxLen at hg; simpa using (by omega : g.length ≤ 9223372036854775807))
theorem networkGaps_lifted (os : Os) (started : os.Started) (H : Type) (enc : TypeId × Value → H) :
    ReturnsInHanded {} Tryd.checked os 3 .any (fun w args => (Rows.networkGapsSpec.pre enc Tryd.prog Tryd.f3 [] false w args ∧ laidMetH Tryd.prog Rows.networkGapsRow.laid w) ∧ sizedMet enc Tryd.prog Tryd.f3 (OpenSpec.ofChange Rows.networkGapsSpec) false w args)
      (Rows.networkGapsSpec.post enc Tryd.prog Tryd.f3 false true false false) := by
  refine returnsInHanded_of_change_and (C := Tryd.checked) (X := fun w _ => laidMetH Tryd.prog Rows.networkGapsRow.laid w) (fun _ _ _ hh h => h.of_heap hh) own started (by kernel_rfl) Tryd.func3
    (ChangeSpec.witness_shaped (enc := enc) (C := Tryd.checked) (os := os) (X := fun w _ => laidMetH Tryd.prog Rows.networkGapsRow.laid w) false (World.doorLaid Tryd.prog 400 os) #[.string .empty, .slice none 0 0] 8 rfl (World.shaped_of_RefB (by kernel_rfl) (by kernel_rfl)) (by kernel_rfl) (by kernel_rfl) (by kernel_rfl) (door_met os _)) ?_
  intro W base args ds gs before hval hW q1 q2 q3 q4
  refine law_calls (P := Tryd.prog) (m := 4) (ps := [9, 22]) (tb := 4) Tryd.params3 (by kernel_rfl) (by kernel_rfl) laidOut (by kernel_rfl) Tryd.underlying4 rfl (fun ds hl => ?_) networkGaps_tyd hval ?_ hW
  · match ds, hl with
    | [_, _], _ => exact ⟨rfl, rfl, rfl⟩
  · exact gl_of (l := Rows.networkGapsRow.laid) (by assumption) (by kernel_rfl) (by simp only [Rows.networkGapsRow, List.mem_cons]; exact .inr (.inr (.inr (.inr (.inr (.inl rfl)))))) (by simp only [Rows.networkGapsRow, List.mem_cons]; exact .inr (.inr (.inr (.inr (.inr (.inr (.inl rfl)))))))
theorem networkGaps_holds : Rows.NetworkGapsSaid :=
  OpenClaim.holds_of_wide 3 Tryd.f3 rfl rfl rfl rfl rfl rfl rfl ⟨rfl, rfl, rfl, rfl, rfl⟩ rfl rfl rfl rfl rfl (by kernel_rfl) Tryd.func3 (by kernel_rfl)
    (of_decide_eq_true (by kernel_rfl)) (by unfold Func.isWrapper; first | (rw [if_pos (by decide +kernel)]; kernel_rfl) | (rw [if_neg (by decide +kernel)]; exact ⟨rfl, rfl⟩))
    (fun os started H enc _ => networkGaps_lifted os started H enc)
theorem networkGaps_card : Rows.NetworkGapsCardSaid :=
  Claim7.holds_tied_plain_at .later [] [.data, .data, .data, .sentinel, .sentinel, .data, .data] true (true, "cd4ef0055b24664da83a0eff0c2c26b9e0f948ccc36dad1636cd89ac6d16daa5") true
    networkGaps_holds (fun _ h => by cases h) (by kernel_rfl) (fun _ h => by cases h) networkGaps_row_tie rfl ⟨rfl, rfl⟩ (by kernel_rfl) rfl
    (fun f fn hf hfn => by
      obtain rfl : f = 3 := Option.some.inj ((show Tryd.prog.funcNamed "postilion/postilionlaw09.NetworkGaps" = some 3 by kernel_rfl).symm.trans hf) |>.symm
      obtain rfl : fn = Tryd.f3 := (Option.some.inj (Tryd.func3.symm.trans hfn)).symm
      exact ⟨by kernel_rfl, fun j t ht => by
        rw [Tryd.params3] at ht
        have hm : t ∈ [9, 22] := by
          have := Array.mem_of_getElem? ht
          simpa using this
        have hall : ([9, 22].all fun u => !Tryd.prog.wantsStandIn u) = true := by kernel_rfl
        exact (show Tryd.prog.wantsStandIn t = false by simpa using List.all_eq_true.1 hall t hm)⟩)
    (by kernel_rfl)
end Go.Proofs.YtmhlneeboefkgaaDoor
