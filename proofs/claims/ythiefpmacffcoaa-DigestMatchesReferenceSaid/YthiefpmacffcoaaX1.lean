/-
  For all numbers, labels, a label, an index and a path, the functions of digest agree with the reference: 'DigestMatchesReference' answers true.
-/
import Derived.Test.YthiefpmacffcoaaDb
import Derived.Test.YthiefpmacffcoaaRows
import Derived.Test.YthiefpmacffcoaaKd
set_option linter.unusedVariables false
namespace Go.Proofs.Ythiefpmacffcoaa
open Go.Av
open Go.ChangeShapes Go.WideShapes Go.ChangeAt Go.RowKit
theorem own : ownKnob Try.prog.godebug = none := by kernel_rfl
theorem laidOut : laidOutB Try.prog = true := by kernel_rfl
set_option maxRecDepth 100000 in
theorem law1_tyd (xs : List AV) (h : TydVs Try.prog 2 [22, 23, 9, 3, 22] xs) : Ctr Try.prog 3 xs (fun r => r = .bool true) := by
  obtain ⟨a, _, rfl, ha, h⟩ := tyds_cons h
  obtain ⟨b, _, rfl, hb, h⟩ := tyds_cons h
  obtain ⟨c, _, rfl, hc, h⟩ := tyds_cons h
  obtain ⟨d, _, rfl, hd, h⟩ := tyds_cons h
  obtain ⟨e, _, rfl, he, h⟩ := tyds_cons h
  obtain rfl := tyds_nil h
  obtain ⟨nums, rfl, _⟩ := tyd_ints (m := 0) Try.underlying22 Try.underlying3 (by kernel_rfl) ha
  obtain ⟨l, rfl, hl, _⟩ := tyd_strs (m := 0) Try.underlying23 Try.underlying9 (by kernel_rfl) hb
  obtain ⟨s, rfl, _⟩ := tyd_str Try.underlying9 hc
  obtain ⟨i, rfl, hi⟩ := tyd_int Try.underlying3 hd
  obtain ⟨path, rfl, _⟩ := tyd_ints (m := 0) Try.underlying22 Try.underlying3 (by kernel_rfl) he
  exact law1 nums l s i path (by unfold maxLen at hl; omega) (inK64.1 hi).2
set_option maxRecDepth 100000 in
theorem law1_lifted (os : Os) (started : os.Started) (H : Type) (enc : TypeId × Value → H) :
    ReturnsInHanded {} Try.checked os 3 .any (Rows.digestMatchesReferenceSpec.pre6 enc Try.prog Try.f3 Rows.digestMatchesReferenceRow.domain false) (Rows.digestMatchesReferenceSpec.post enc Try.prog Try.f3 false true false false) := by
  refine returnsInHanded_of_change (C := Try.checked) own started (by kernel_rfl) Try.func3
    (ChangeSpec.witness6 (enc := enc) (C := Try.checked) false ⟨#[], #[.slice none 0 0, .slice none 0 0, .string .empty, .int .i64 0, .slice none 0 0], []⟩ 8 (by kernel_rfl) (by kernel_rfl) (by kernel_rfl) (by kernel_rfl)) ?_
  intro W base args ds gs before hval hW _ _
  refine law_calls (P := Try.prog) (m := 2) (ps := [22, 23, 9, 3, 22]) (tb := 4) Try.params3 (by kernel_rfl) (by kernel_rfl) laidOut (by kernel_rfl) Try.underlying4 rfl (fun ds hl => ?_) law1_tyd hval hW
  match ds, hl with
  | [_, _, _, _, _], _ => exact ⟨rfl, rfl, rfl⟩
theorem law1_holds : Rows.DigestMatchesReferenceSaid :=
  OpenClaim.holds_of_wide 3 Try.f3 rfl rfl rfl rfl rfl rfl rfl ⟨rfl, rfl, rfl, rfl, rfl⟩ rfl rfl rfl rfl rfl (by kernel_rfl) Try.func3 (by kernel_rfl)
    (of_decide_eq_true (by kernel_rfl)) (by unfold Func.isWrapper; first | (rw [if_pos (by decide +kernel)]; kernel_rfl) | (rw [if_neg (by decide +kernel)]; exact ⟨rfl, rfl⟩))
    (fun os started H enc _ => law1_lifted os started H enc)
end Go.Proofs.Ythiefpmacffcoaa
