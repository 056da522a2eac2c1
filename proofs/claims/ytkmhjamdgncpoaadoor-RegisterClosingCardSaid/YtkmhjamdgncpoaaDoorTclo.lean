/-
  After a street is closed and opened again its points have no address, and their addresses are those of the new street: 'RegisterClosing' answers true. Conditions: the listed tables hold what the program's text lays (the card ties them).
-/
import Derived.Test.YtkmhjamdgncpoaaDoorT0
import Derived.Test.YtkmhjamdgncpoaaDoorG9
import Derived.Test.YtkmhjamdgncpoaaDoorCards
import Derived.Test.YtkmhjamdgncpoaaDoorTie
import Derived.SevenTiedAt
import Derived.Lay
set_option linter.unusedVariables false
set_option maxRecDepth 100000
namespace Go.Proofs.YtkmhjamdgncpoaaDoor
open Go.Av Pl
open Go.ChangeShapes Go.WideShapes Go.ChangeAt Go.RowKit
theorem registerClosing_tyd (xs : List AV) (h : TydVs Tryd.prog 5 [22, 5, 54] xs) : Ctr Tryd.prog 9 xs (fun r => r = .bool true) := by
  obtain ⟨x0, _, rfl, h0, h⟩ := tyds_cons h
  obtain ⟨x1, _, rfl, h1, h⟩ := tyds_cons h
  obtain ⟨x2, _, rfl, h2, h⟩ := tyds_cons h
  obtain rfl := tyds_nil h
  obtain ⟨l0, rfl⟩ := tyd_chs (m := 2) h0
  obtain ⟨n1, rfl, k1⟩ := tyd_int Tryd.underlying5 h1
  obtain ⟨n2, rfl, k2⟩ := tyd_int Tryd.underlying54 h2
  exact closing_law l0 n1 k1 n2 k2
theorem registerClosing_lifted (os : Os) (started : os.Started) (H : Type) (enc : TypeId × Value → H) :
    ReturnsInHanded {} Tryd.checked os 9 .any (fun w args => (Rows.registerClosingSpec.pre enc Tryd.prog Tryd.f9 [] false w args ∧ laidMetH Tryd.prog Rows.registerClosingRow.laid w) ∧ sizedMet enc Tryd.prog Tryd.f9 (OpenSpec.ofChange Rows.registerClosingSpec) false w args)
      (Rows.registerClosingSpec.post enc Tryd.prog Tryd.f9 false true false false) := by
  refine returnsInHanded_of_change_and (C := Tryd.checked) (X := fun w _ => laidMetH Tryd.prog Rows.registerClosingRow.laid w) (fun _ _ _ hh h => h.of_heap hh) own started (by kernel_rfl) Tryd.func9
    (ChangeSpec.witness_shaped (enc := enc) (C := Tryd.checked) (os := os) (X := fun w _ => laidMetH Tryd.prog Rows.registerClosingRow.laid w) false (World.laidAll Tryd.prog os Rows.registerClosingRow.laid) #[.slice none 0 0, .int .u8 0, .int .u16 0] 8 (World.laidAll_os _ _ _) (World.shaped_of_ZipB (by kernel_rfl) (by kernel_rfl)) (by kernel_rfl) (by kernel_rfl) (by kernel_rfl)
      (by rw [Go.MakeChecks.laidMetH_plain _ _ _ (by kernel_rfl)]; exact laidMet_laidAll _ (by kernel_rfl) (by kernel_rfl))) ?_
  intro W base args ds gs before hval hW q1 q2 q3 q4
  refine law_calls (P := Tryd.prog) (m := 5) (ps := [22, 5, 54]) (tb := 4) Tryd.params9 (by kernel_rfl) (by kernel_rfl) laidOut (by kernel_rfl) Tryd.underlying4 rfl (fun ds hl => ?_) registerClosing_tyd hval (fun x hx => by cases hx) (fun x hx _ => by cases hx) q2 hW
  match ds, hl with
  | [_, _, _], _ => exact ⟨rfl, rfl, rfl⟩
theorem registerClosing_holds : Rows.RegisterClosingSaid :=
  OpenClaim.holds_of_wide 9 Tryd.f9 rfl rfl rfl rfl rfl rfl rfl ⟨rfl, rfl, rfl, rfl, rfl⟩ rfl rfl rfl rfl rfl (by kernel_rfl) Tryd.func9 (by kernel_rfl)
    (of_decide_eq_true (by kernel_rfl)) (by unfold Func.isWrapper; first | (rw [if_pos (by decide +kernel)]; kernel_rfl) | (rw [if_neg (by decide +kernel)]; exact ⟨rfl, rfl⟩))
    (fun os started H enc _ => registerClosing_lifted os started H enc)
theorem registerClosing_card : Rows.RegisterClosingCardSaid :=
  Claim7.holds_tied_plain_at .later [] [.data, .pinned] true (true, "836676f9853d23201c0907c5913d4cb508eba2e9362c545785283d284f4ebabf") true
    registerClosing_holds (fun _ h => by cases h) (by kernel_rfl) (fun _ h => by cases h) registerClosing_row_tie rfl ⟨rfl, rfl⟩ (by kernel_rfl) rfl
    (fun f fn hf hfn => by
      obtain rfl : f = 9 := Option.some.inj ((show Tryd.prog.funcNamed "postilion/postilionlaw05.RegisterClosing" = some 9 by kernel_rfl).symm.trans hf) |>.symm
      obtain rfl : fn = Tryd.f9 := (Option.some.inj (Tryd.func9.symm.trans hfn)).symm
      exact ⟨by kernel_rfl, fun j t ht => by
        rw [Tryd.params9] at ht
        have hm : t ∈ [22, 5, 54] := by
          have := Array.mem_of_getElem? ht
          simpa using this
        have hall : ([22, 5, 54].all fun u => !Tryd.prog.wantsStandIn u) = true := by kernel_rfl
        exact (show Tryd.prog.wantsStandIn t = false by simpa using List.all_eq_true.1 hall t hm)⟩)
    (by kernel_rfl)
end Go.Proofs.YtkmhjamdgncpoaaDoor
