/-
  For all labels, every path leads from its label to the root: 'DigestPaths' answers true.
-/
import Derived.Test.YthiefpmacffcoaaDd
import Derived.Test.YthiefpmacffcoaaRows
import Derived.Test.YthiefpmacffcoaaKd
set_option linter.unusedVariables false
namespace Go.Proofs.Ythiefpmacffcoaa
open Go.Av
open Go.ChangeShapes Go.WideShapes Go.ChangeAt Go.RowKit
theorem own : ownKnob Try.prog.godebug = none := by kernel_rfl
theorem laidOut : laidOutB Try.prog = true := by kernel_rfl
set_option maxRecDepth 100000 in
theorem law6_tyd (xs : List AV) (h : TydVs Try.prog 2 [23, 5] xs) : Ctr Try.prog 6 xs (fun r => r = .bool true) := by
  obtain ⟨b, _, rfl, hb, h⟩ := tyds_cons h
  obtain ⟨c, _, rfl, hc, h⟩ := tyds_cons h
  obtain rfl := tyds_nil h
  obtain ⟨l, rfl, hl, _⟩ := tyd_strs (m := 0) Try.underlying23 Try.underlying9 (by kernel_rfl) hb
  obtain ⟨n, rfl, hn⟩ := tyd_int Try.underlying5 hc
  exact law6 l n (by unfold maxLen at hl; omega) (inKu8.1 hn).1 (inKu8.1 hn).2
set_option maxRecDepth 100000 in
theorem law6_lifted (os : Os) (started : os.Started) (H : Type) (enc : TypeId × Value → H) :
    ReturnsInHanded {} Try.checked os 6 .any (Rows.digestPathsSpec.pre6 enc Try.prog Try.f6 Rows.digestPathsRow.domain false) (Rows.digestPathsSpec.post enc Try.prog Try.f6 false true false false) := by
  refine returnsInHanded_of_change (C := Try.checked) own started (by kernel_rfl) Try.func6
    (ChangeSpec.witness6 (enc := enc) (C := Try.checked) false ⟨#[], #[.slice none 0 0, .int .u8 0], []⟩ 8 (by kernel_rfl) (by kernel_rfl) (by kernel_rfl) (by kernel_rfl)) ?_
  intro W base args ds gs before hval hW _ _
  refine law_calls (P := Try.prog) (m := 2) (ps := [23, 5]) (tb := 4) Try.params6 (by kernel_rfl) (by kernel_rfl) laidOut (by kernel_rfl) Try.underlying4 rfl (fun ds hl => ?_) law6_tyd hval hW
  match ds, hl with
  | [_, _], _ => exact ⟨rfl, rfl, rfl⟩
theorem law6_holds : Rows.DigestPathsSaid :=
  OpenClaim.holds_of_wide 6 Try.f6 rfl rfl rfl rfl rfl rfl rfl ⟨rfl, rfl, rfl, rfl, rfl⟩ rfl rfl rfl rfl rfl (by kernel_rfl) Try.func6 (by kernel_rfl)
    (of_decide_eq_true (by kernel_rfl)) (by unfold Func.isWrapper; first | (rw [if_pos (by decide +kernel)]; kernel_rfl) | (rw [if_neg (by decide +kernel)]; exact ⟨rfl, rfl⟩))
    (fun os started H enc _ => law6_lifted os started H enc)
end Go.Proofs.Ythiefpmacffcoaa
