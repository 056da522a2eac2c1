/-
  A point that has an address keeps it but for the changes of its street: 'RegisterPointsStay' answers true. Conditions: the listed tables hold what the program's text lays (the card ties them).
-/
import Derived.Test.YtkmhjamdgncpoaaDoorT0
import Derived.Test.YtkmhjamdgncpoaaDoorG6
import Derived.Test.YtkmhjamdgncpoaaDoorCards
import Derived.Test.YtkmhjamdgncpoaaDoorTie
import Derived.SevenTiedAt
import Derived.Lay
set_option linter.unusedVariables false
set_option maxRecDepth 100000
namespace Go.Proofs.YtkmhjamdgncpoaaDoor
open Go.Av Pl
open Go.ChangeShapes Go.WideShapes Go.ChangeAt Go.RowKit
theorem registerPointsStay_tyd (xs : List AV) (h : TydVs Tryd.prog 5 [22, 3, 5, 35] xs) : Ctr Tryd.prog 6 xs (fun r => r = .bool true) := by
  obtain ⟨x0, _, rfl, h0, h⟩ := tyds_cons h
  obtain ⟨x1, _, rfl, h1, h⟩ := tyds_cons h
  obtain ⟨x2, _, rfl, h2, h⟩ := tyds_cons h
  obtain ⟨x3, _, rfl, h3, h⟩ := tyds_cons h
  obtain rfl := tyds_nil h
  obtain ⟨l0, rfl⟩ := tyd_chs (m := 2) h0
  obtain ⟨n1, rfl, k1⟩ := tyd_int Tryd.underlying3 h1
  obtain ⟨n2, rfl, k2⟩ := tyd_int Tryd.underlying5 h2
  obtain ⟨p3, rfl, kp3, kq3⟩ := tyd_pt (m := 3) h3
  exact stay_law l0 n1 n2 k2 p3 kp3
theorem registerPointsStay_lifted (os : Os) (started : os.Started) (H : Type) (enc : TypeId × Value → H) :
    ReturnsInHanded {} Tryd.checked os 6 .any (fun w args => (Rows.registerPointsStaySpec.pre enc Tryd.prog Tryd.f6 [] false w args ∧ laidMetH Tryd.prog Rows.registerPointsStayRow.laid w) ∧ sizedMet enc Tryd.prog Tryd.f6 (OpenSpec.ofChange Rows.registerPointsStaySpec) false w args)
      (Rows.registerPointsStaySpec.post enc Tryd.prog Tryd.f6 false true false false) := by
  refine returnsInHanded_of_change_and (C := Tryd.checked) (X := fun w _ => laidMetH Tryd.prog Rows.registerPointsStayRow.laid w) (fun _ _ _ hh h => h.of_heap hh) own started (by kernel_rfl) Tryd.func6
    (ChangeSpec.witness_shaped (enc := enc) (C := Tryd.checked) (os := os) (X := fun w _ => laidMetH Tryd.prog Rows.registerPointsStayRow.laid w) false (World.laidAll Tryd.prog os Rows.registerPointsStayRow.laid) #[.slice none 0 0, .int .i64 0, .int .u8 0, .agg #[.int .i64 0, .int .i64 0]] 8 (World.laidAll_os _ _ _) (World.shaped_of_ZipB (by kernel_rfl) (by kernel_rfl)) (by kernel_rfl) (by kernel_rfl) (by kernel_rfl)
      (by rw [Go.MakeChecks.laidMetH_plain _ _ _ (by kernel_rfl)]; exact laidMet_laidAll _ (by kernel_rfl) (by kernel_rfl))) ?_
  intro W base args ds gs before hval hW q1 q2 q3 q4
  refine law_calls (P := Tryd.prog) (m := 5) (ps := [22, 3, 5, 35]) (tb := 4) Tryd.params6 (by kernel_rfl) (by kernel_rfl) laidOut (by kernel_rfl) Tryd.underlying4 rfl (fun ds hl => ?_) registerPointsStay_tyd hval (fun x hx => by cases hx) (fun x hx _ => by cases hx) q2 hW
  match ds, hl with
  | [_, _, _, _], _ => exact ⟨rfl, rfl, rfl⟩
theorem registerPointsStay_holds : Rows.RegisterPointsStaySaid :=
  OpenClaim.holds_of_wide 6 Tryd.f6 rfl rfl rfl rfl rfl rfl rfl ⟨rfl, rfl, rfl, rfl, rfl⟩ rfl rfl rfl rfl rfl (by kernel_rfl) Tryd.func6 (by kernel_rfl)
    (of_decide_eq_true (by kernel_rfl)) (by unfold Func.isWrapper; first | (rw [if_pos (by decide +kernel)]; kernel_rfl) | (rw [if_neg (by decide +kernel)]; exact ⟨rfl, rfl⟩))
    (fun os started H enc _ => registerPointsStay_lifted os started H enc)
theorem registerPointsStay_card : Rows.RegisterPointsStayCardSaid :=
  Claim7.holds_tied_plain_at .later [] [.data, .pinned] true (true, "836676f9853d23201c0907c5913d4cb508eba2e9362c545785283d284f4ebabf") true
    registerPointsStay_holds (fun _ h => by cases h) (by kernel_rfl) (fun _ h => by cases h) registerPointsStay_row_tie rfl ⟨rfl, rfl⟩ (by kernel_rfl) rfl
    (fun f fn hf hfn => by
      obtain rfl : f = 6 := Option.some.inj ((show Tryd.prog.funcNamed "postilion/postilionlaw05.RegisterPointsStay" = some 6 by kernel_rfl).symm.trans hf) |>.symm
      obtain rfl : fn = Tryd.f6 := (Option.some.inj (Tryd.func6.symm.trans hfn)).symm
      exact ⟨by kernel_rfl, fun j t ht => by
        rw [Tryd.params6] at ht
        have hm : t ∈ [22, 3, 5, 35] := by
          have := Array.mem_of_getElem? ht
          simpa using this
        have hall : ([22, 3, 5, 35].all fun u => !Tryd.prog.wantsStandIn u) = true := by kernel_rfl
        exact (show Tryd.prog.wantsStandIn t = false by simpa using List.all_eq_true.1 hall t hm)⟩)
    (by kernel_rfl)
end Go.Proofs.YtkmhjamdgncpoaaDoor
