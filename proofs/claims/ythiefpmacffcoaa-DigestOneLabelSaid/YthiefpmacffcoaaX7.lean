/-
  For all labels, an index and another label, the rows and the root change exactly where they must: 'DigestOneLabel' answers true.
-/
import Derived.Test.YthiefpmacffcoaaDe
import Derived.Test.YthiefpmacffcoaaRows
import Derived.Test.YthiefpmacffcoaaKd
set_option linter.unusedVariables false
namespace Go.Proofs.Ythiefpmacffcoaa
open Go.Av
open Go.ChangeShapes Go.WideShapes Go.ChangeAt Go.RowKit
theorem own : ownKnob Try.prog.godebug = none := by kernel_rfl
theorem laidOut : laidOutB Try.prog = true := by kernel_rfl
set_option maxRecDepth 100000 in
theorem law7_tyd (xs : List AV) (h : TydVs Try.prog 2 [23, 5, 9] xs) : Ctr Try.prog 7 xs (fun r => r = .bool true) := by
  obtain ⟨b, _, rfl, hb, h⟩ := tyds_cons h
  obtain ⟨c, _, rfl, hc, h⟩ := tyds_cons h
  obtain ⟨d, _, rfl, hd, h⟩ := tyds_cons h
  obtain rfl := tyds_nil h
  obtain ⟨l, rfl, hl, _⟩ := tyd_strs (m := 0) Try.underlying23 Try.underlying9 (by kernel_rfl) hb
  obtain ⟨n, rfl, hn⟩ := tyd_int Try.underlying5 hc
  obtain ⟨s, rfl, _⟩ := tyd_str Try.underlying9 hd
  exact law7 l n s (by unfold maxLen at hl; omega) (inKu8.1 hn).1 (inKu8.1 hn).2
set_option maxRecDepth 100000 in
theorem law7_lifted (os : Os) (started : os.Started) (H : Type) (enc : TypeId × Value → H) :
    ReturnsInHanded {} Try.checked os 7 .any (Rows.digestOneLabelSpec.pre6 enc Try.prog Try.f7 Rows.digestOneLabelRow.domain false) (Rows.digestOneLabelSpec.post enc Try.prog Try.f7 false true false false) := by
  refine returnsInHanded_of_change (C := Try.checked) own started (by kernel_rfl) Try.func7
    (ChangeSpec.witness6 (enc := enc) (C := Try.checked) false ⟨#[], #[.slice none 0 0, .int .u8 0, .string .empty], []⟩ 8 (by kernel_rfl) (by kernel_rfl) (by kernel_rfl) (by kernel_rfl)) ?_
  intro W base args ds gs before hval hW _ _
  refine law_calls (P := Try.prog) (m := 2) (ps := [23, 5, 9]) (tb := 4) Try.params7 (by kernel_rfl) (by kernel_rfl) laidOut (by kernel_rfl) Try.underlying4 rfl (fun ds hl => ?_) law7_tyd hval hW
  match ds, hl with
  | [_, _, _], _ => exact ⟨rfl, rfl, rfl⟩
theorem law7_holds : Rows.DigestOneLabelSaid :=
  OpenClaim.holds_of_wide 7 Try.f7 rfl rfl rfl rfl rfl rfl rfl ⟨rfl, rfl, rfl, rfl, rfl⟩ rfl rfl rfl rfl rfl (by kernel_rfl) Try.func7 (by kernel_rfl)
    (of_decide_eq_true (by kernel_rfl)) (by unfold Func.isWrapper; first | (rw [if_pos (by decide +kernel)]; kernel_rfl) | (rw [if_neg (by decide +kernel)]; exact ⟨rfl, rfl⟩))
    (fun os started H enc _ => law7_lifted os started H enc)
end Go.Proofs.Ythiefpmacffcoaa
