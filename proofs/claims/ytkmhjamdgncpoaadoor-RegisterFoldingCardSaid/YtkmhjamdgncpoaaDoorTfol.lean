/-
  Capital letters in place of small ones, another person and another town do not change what is found: 'RegisterFolding' answers true. Conditions: the listed tables hold what the program's text lays (the card ties them).
-/
import Derived.Test.YtkmhjamdgncpoaaDoorT0
import Derived.Test.YtkmhjamdgncpoaaDoorG7
import Derived.Test.YtkmhjamdgncpoaaDoorCards
import Derived.Test.YtkmhjamdgncpoaaDoorTie
import Derived.SevenTiedAt
import Derived.Lay
set_option linter.unusedVariables false
set_option maxRecDepth 100000
namespace Go.Proofs.YtkmhjamdgncpoaaDoor
open Go.Av Pl
open Go.ChangeShapes Go.WideShapes Go.ChangeAt Go.RowKit
theorem registerFolding_tyd (xs : List AV) (h : TydVs Tryd.prog 5 [22, 3, 37, 50, 9] xs) : Ctr Tryd.prog 7 xs (fun r => r = .bool true) := by
  obtain ⟨x0, _, rfl, h0, h⟩ := tyds_cons h
  obtain ⟨x1, _, rfl, h1, h⟩ := tyds_cons h
  obtain ⟨x2, _, rfl, h2, h⟩ := tyds_cons h
  obtain ⟨x3, _, rfl, h3, h⟩ := tyds_cons h
  obtain ⟨x4, _, rfl, h4, h⟩ := tyds_cons h
  obtain rfl := tyds_nil h
  obtain ⟨l0, rfl⟩ := tyd_chs (m := 2) h0
  obtain ⟨n1, rfl, k1⟩ := tyd_int Tryd.underlying3 h1
  obtain ⟨a2, rfl, ka2⟩ := tyd_ad (m := 3) h2
  obtain ⟨n3, rfl, k3⟩ := tyd_int Tryd.underlying50 h3
  obtain ⟨s4, rfl, z4⟩ := tyd_str Tryd.underlying9 h4
  exact folding_law l0 n1 a2 n3 k3 s4
theorem registerFolding_lifted (os : Os) (started : os.Started) (H : Type) (enc : TypeId × Value → H) :
    ReturnsInHanded {} Tryd.checked os 7 .any (fun w args => (Rows.registerFoldingSpec.pre enc Tryd.prog Tryd.f7 [] false w args ∧ laidMetH Tryd.prog Rows.registerFoldingRow.laid w) ∧ sizedMet enc Tryd.prog Tryd.f7 (OpenSpec.ofChange Rows.registerFoldingSpec) false w args)
      (Rows.registerFoldingSpec.post enc Tryd.prog Tryd.f7 false true false false) := by
  refine returnsInHanded_of_change_and (C := Tryd.checked) (X := fun w _ => laidMetH Tryd.prog Rows.registerFoldingRow.laid w) (fun _ _ _ hh h => h.of_heap hh) own started (by kernel_rfl) Tryd.func7
    (ChangeSpec.witness_shaped (enc := enc) (C := Tryd.checked) (os := os) (X := fun w _ => laidMetH Tryd.prog Rows.registerFoldingRow.laid w) false (World.laidAll Tryd.prog os Rows.registerFoldingRow.laid) #[.slice none 0 0, .int .i64 0, .agg #[.string .empty, .string .empty, .int .i64 0, .string .empty, .string .empty], .int .u32 0, .string .empty] 8 (World.laidAll_os _ _ _) (World.shaped_of_ZipB (by kernel_rfl) (by kernel_rfl)) (by kernel_rfl) (by kernel_rfl) (by kernel_rfl)
      (by rw [Go.MakeChecks.laidMetH_plain _ _ _ (by kernel_rfl)]; exact laidMet_laidAll _ (by kernel_rfl) (by kernel_rfl))) ?_
  intro W base args ds gs before hval hW q1 q2 q3 q4
  refine law_calls (P := Tryd.prog) (m := 5) (ps := [22, 3, 37, 50, 9]) (tb := 4) Tryd.params7 (by kernel_rfl) (by kernel_rfl) laidOut (by kernel_rfl) Tryd.underlying4 rfl (fun ds hl => ?_) registerFolding_tyd hval (fun x hx => by cases hx) (fun x hx _ => by cases hx) q2 hW
  match ds, hl with
  | [_, _, _, _, _], _ => exact ⟨rfl, rfl, rfl⟩
theorem registerFolding_holds : Rows.RegisterFoldingSaid :=
  OpenClaim.holds_of_wide 7 Tryd.f7 rfl rfl rfl rfl rfl rfl rfl ⟨rfl, rfl, rfl, rfl, rfl⟩ rfl rfl rfl rfl rfl (by kernel_rfl) Tryd.func7 (by kernel_rfl)
    (of_decide_eq_true (by kernel_rfl)) (by unfold Func.isWrapper; first | (rw [if_pos (by decide +kernel)]; kernel_rfl) | (rw [if_neg (by decide +kernel)]; exact ⟨rfl, rfl⟩))
    (fun os started H enc _ => registerFolding_lifted os started H enc)
theorem registerFolding_card : Rows.RegisterFoldingCardSaid :=
  Claim7.holds_tied_plain_at .later [] [.data, .pinned] true (true, "836676f9853d23201c0907c5913d4cb508eba2e9362c545785283d284f4ebabf") true
    registerFolding_holds (fun _ h => by cases h) (by kernel_rfl) (fun _ h => by cases h) registerFolding_row_tie rfl ⟨rfl, rfl⟩ (by kernel_rfl) rfl
    (fun f fn hf hfn => by
      obtain rfl : f = 7 := Option.some.inj ((show Tryd.prog.funcNamed "postilion/postilionlaw05.RegisterFolding" = some 7 by kernel_rfl).symm.trans hf) |>.symm
      obtain rfl : fn = Tryd.f7 := (Option.some.inj (Tryd.func7.symm.trans hfn)).symm
      exact ⟨by kernel_rfl, fun j t ht => by
        rw [Tryd.params7] at ht
        have hm : t ∈ [22, 3, 37, 50, 9] := by
          have := Array.mem_of_getElem? ht
          simpa using this
        have hall : ([22, 3, 37, 50, 9].all fun u => !Tryd.prog.wantsStandIn u) = true := by kernel_rfl
        exact (show Tryd.prog.wantsStandIn t = false by simpa using List.all_eq_true.1 hall t hm)⟩)
    (by kernel_rfl)
end Go.Proofs.YtkmhjamdgncpoaaDoor
