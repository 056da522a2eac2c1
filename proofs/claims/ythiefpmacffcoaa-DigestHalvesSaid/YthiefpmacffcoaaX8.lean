/-
  For all labels, the root of a whole is made of the roots of its halves: 'DigestHalves' answers true.
-/
import Derived.Test.YthiefpmacffcoaaDc
import Derived.Test.YthiefpmacffcoaaRows
import Derived.Test.YthiefpmacffcoaaKd
set_option linter.unusedVariables false
namespace Go.Proofs.Ythiefpmacffcoaa
open Go.Av
open Go.ChangeShapes Go.WideShapes Go.ChangeAt Go.RowKit
theorem own : ownKnob Try.prog.godebug = none := by kernel_rfl
theorem laidOut : laidOutB Try.prog = true := by kernel_rfl
set_option maxRecDepth 100000 in
theorem law8_tyd (xs : List AV) (h : TydVs Try.prog 2 [23] xs) : Ctr Try.prog 8 xs (fun r => r = .bool true) := by
  obtain ⟨b, _, rfl, hb, h⟩ := tyds_cons h
  obtain rfl := tyds_nil h
  obtain ⟨l, rfl, hl, _⟩ := tyd_strs (m := 0) Try.underlying23 Try.underlying9 (by kernel_rfl) hb
  exact law8 l (by unfold maxLen at hl; omega)
set_option maxRecDepth 100000 in
theorem law8_lifted (os : Os) (started : os.Started) (H : Type) (enc : TypeId × Value → H) :
    ReturnsInHanded {} Try.checked os 8 .any (Rows.digestHalvesSpec.pre6 enc Try.prog Try.f8 Rows.digestHalvesRow.domain false) (Rows.digestHalvesSpec.post enc Try.prog Try.f8 false true false false) := by
  refine returnsInHanded_of_change (C := Try.checked) own started (by kernel_rfl) Try.func8
    (ChangeSpec.witness6 (enc := enc) (C := Try.checked) false ⟨#[], #[.slice none 0 0], []⟩ 8 (by kernel_rfl) (by kernel_rfl) (by kernel_rfl) (by kernel_rfl)) ?_
  intro W base args ds gs before hval hW _ _
  refine law_calls (P := Try.prog) (m := 2) (ps := [23]) (tb := 4) Try.params8 (by kernel_rfl) (by kernel_rfl) laidOut (by kernel_rfl) Try.underlying4 rfl (fun ds hl => ?_) law8_tyd hval hW
  match ds, hl with
  | [_], _ => exact ⟨rfl, rfl, rfl⟩
theorem law8_holds : Rows.DigestHalvesSaid :=
  OpenClaim.holds_of_wide 8 Try.f8 rfl rfl rfl rfl rfl rfl rfl ⟨rfl, rfl, rfl, rfl, rfl⟩ rfl rfl rfl rfl rfl (by kernel_rfl) Try.func8 (by kernel_rfl)
    (of_decide_eq_true (by kernel_rfl)) (by unfold Func.isWrapper; first | (rw [if_pos (by decide +kernel)]; kernel_rfl) | (rw [if_neg (by decide +kernel)]; exact ⟨rfl, rfl⟩))
    (fun os started H enc _ => law8_lifted os started H enc)
end Go.Proofs.Ythiefpmacffcoaa
