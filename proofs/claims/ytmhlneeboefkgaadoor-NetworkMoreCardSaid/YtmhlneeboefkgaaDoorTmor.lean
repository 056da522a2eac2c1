/-
  A further class at the end of a text that is parsed, and a further operator at its beginning where there are no calendars, are parsed to one thing more: 'NetworkMore' answers true. Conditions: the listed tables hold what the program's text lays (the card ties them).
-/
import Derived.Test.YtmhlneeboefkgaaDoorT0
import Derived.Test.YtmhlneeboefkgaaDoorR12
import Derived.Test.YtmhlneeboefkgaaDoorCards
import Derived.Test.YtmhlneeboefkgaaDoorTie
import Derived.SevenTiedAt
set_option linter.unusedVariables false
set_option maxRecDepth 100000
namespace Go.Proofs.YtmhlneeboefkgaaDoor
open Go.Av
open Go.ChangeShapes Go.WideShapes Go.ChangeAt Go.RowKit
theorem networkMore_tyd (xs : List AV) (h : TydVs Tryd.prog 4 [9, 9, 60, 60] xs) : Ctr Tryd.prog 6 xs (fun r => r = .bool true) := by
  obtain ⟨x0, _, rfl, h0, h⟩ := tyds_cons h
  obtain ⟨x1, _, rfl, h1, h⟩ := tyds_cons h
  obtain ⟨x2, _, rfl, h2, h⟩ := tyds_cons h
  obtain ⟨x3, _, rfl, h3, h⟩ := tyds_cons h
  obtain rfl := tyds_nil h
  obtain ⟨s, rfl, hs⟩ := tyd_str Tryd.underlying9 h0
  obtain ⟨name, rfl, hn⟩ := tyd_str Tryd.underlying9 h1
  obtain ⟨a, rfl, ha⟩ := tyd_int Tryd.underlying60 h2
  obtain ⟨b, rfl, hb⟩ := tyd_int Tryd.underlying60 h3
  have u16 : ∀ {n : Int}, inK .u16 n → 0 ≤ n ∧ n < 65536 := fun {n} h => by
    unfold inK IntKind.min IntKind.max at h; simp [IntKind.signed, IntKind.bits] at h; omega
  obtain ⟨a1, a2⟩ := u16 ha
  obtain ⟨b1, b2⟩ := u16 hb
  obtain ⟨a, rfl⟩ := Int.eq_ofNat_of_zero_le a1
  obtain ⟨b, rfl⟩ := Int.eq_ofNat_of_zero_le b1
  exact more_law s name a b (by omega) (by omega) (by unfold maxLen at hs; omega) (by unfold maxLen at hn; omega)
theorem networkMore_lifted (os : Os) (started : os.Started) (H : Type) (enc : TypeId × Value → H) :
    ReturnsInHanded {} Tryd.checked os 6 .any (fun w args => (Rows.networkMoreSpec.pre enc Tryd.prog Tryd.f6 [] false w args ∧ laidMetH Tryd.prog Rows.networkMoreRow.laid w) ∧ sizedMet enc Tryd.prog Tryd.f6 (OpenSpec.ofChange Rows.networkMoreSpec) false w args)
      (Rows.networkMoreSpec.post enc Tryd.prog Tryd.f6 false true false false) := by
  refine returnsInHanded_of_change_and (C := Tryd.checked) (X := fun w _ => laidMetH Tryd.prog Rows.networkMoreRow.laid w) (fun _ _ _ hh h => h.of_heap hh) own started (by kernel_rfl) Tryd.func6
    (ChangeSpec.witness_shaped (enc := enc) (C := Tryd.checked) (os := os) (X := fun w _ => laidMetH Tryd.prog Rows.networkMoreRow.laid w) false (World.doorLaid Tryd.prog 400 os) #[.string .empty, .string .empty, .int .u16 0, .int .u16 0] 8 rfl (World.shaped_of_RefB (by kernel_rfl) (by kernel_rfl)) (by kernel_rfl) (by kernel_rfl) (by kernel_rfl) (door_met os _)) ?_
  intro W base args ds gs before hval hW q1 q2 q3 q4
  refine law_calls (P := Tryd.prog) (m := 4) (ps := [9, 9, 60, 60]) (tb := 4) Tryd.params6 (by kernel_rfl) (by kernel_rfl) laidOut (by kernel_rfl) Tryd.underlying4 rfl (fun ds hl => ?_) networkMore_tyd hval ?_ hW
  · match ds, hl with
    | [_, _, _, _], _ => exact ⟨rfl, rfl, rfl⟩
  · exact gl_of (l := Rows.networkMoreRow.laid) (by assumption) (by kernel_rfl) (by simp only [Rows.networkMoreRow, List.mem_cons]; exact .inr (.inr (.inr (.inr (.inr (.inl rfl)))))) (by simp only [Rows.networkMoreRow, List.mem_cons]; exact .inr (.inr (.inr (.inr (.inr (.inr (.inl rfl)))))))
theorem networkMore_holds : Rows.NetworkMoreSaid :=
  OpenClaim.holds_of_wide 6 Tryd.f6 rfl rfl rfl rfl rfl rfl rfl ⟨rfl, rfl, rfl, rfl, rfl⟩ rfl rfl rfl rfl rfl (by kernel_rfl) Tryd.func6 (by kernel_rfl)
    (of_decide_eq_true (by kernel_rfl)) (by unfold Func.isWrapper; first | (rw [if_pos (by decide +kernel)]; kernel_rfl) | (rw [if_neg (by decide +kernel)]; exact ⟨rfl, rfl⟩))
    (fun os started H enc _ => networkMore_lifted os started H enc)
theorem networkMore_card : Rows.NetworkMoreCardSaid :=
  Claim7.holds_tied_plain_at .later [] [.data, .data, .data, .sentinel, .sentinel, .data, .data] true (true, "cd4ef0055b24664da83a0eff0c2c26b9e0f948ccc36dad1636cd89ac6d16daa5") true
    networkMore_holds (fun _ h => by cases h) (by kernel_rfl) (fun _ h => by cases h) networkMore_row_tie rfl ⟨rfl, rfl⟩ (by kernel_rfl) rfl
    (fun f fn hf hfn => by
      obtain rfl : f = 6 := Option.some.inj ((show Tryd.prog.funcNamed "postilion/postilionlaw09.NetworkMore" = some 6 by kernel_rfl).symm.trans hf) |>.symm
      obtain rfl : fn = Tryd.f6 := (Option.some.inj (Tryd.func6.symm.trans hfn)).symm
      exact ⟨by kernel_rfl, fun j t ht => by
        rw [Tryd.params6] at ht
        have hm : t ∈ [9, 9, 60, 60] := by
          have := Array.mem_of_getElem? ht
          simpa using this
        have hall : ([9, 9, 60, 60].all fun u => !Tryd.prog.wantsStandIn u) = true := by kernel_rfl
        exact (show Tryd.prog.wantsStandIn t = false by simpa using List.all_eq_true.1 hall t hm)⟩)
    (by kernel_rfl)
end Go.Proofs.YtmhlneeboefkgaaDoor
