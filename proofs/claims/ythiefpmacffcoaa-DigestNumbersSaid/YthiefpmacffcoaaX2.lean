/-
  For all lists of numbers, a place and a number, the digest of a list changes when a number in it changes: 'DigestNumbers' answers true.
-/
import Derived.Test.YthiefpmacffcoaaDc
import Derived.Test.YthiefpmacffcoaaRows
import Derived.Test.YthiefpmacffcoaaKd
set_option linter.unusedVariables false
namespace Go.Proofs.Ythiefpmacffcoaa
open Go.Av
open Go.ChangeShapes Go.WideShapes Go.ChangeAt Go.RowKit
theorem own : ownKnob Try.prog.godebug = none := by kernel_rfl
theorem laidOut : laidOutB Try.prog = true := by kernel_rfl
set_option maxRecDepth 100000 in
theorem law2_tyd (xs : List AV) (h : TydVs Try.prog 2 [22, 22, 5, 21] xs) : Ctr Try.prog 4 xs (fun r => r = .bool true) := by
  obtain ⟨a, _, rfl, ha, h⟩ := tyds_cons h
  obtain ⟨b, _, rfl, hb, h⟩ := tyds_cons h
  obtain ⟨c, _, rfl, hc, h⟩ := tyds_cons h
  obtain ⟨d, _, rfl, hd, h⟩ := tyds_cons h
  obtain rfl := tyds_nil h
  obtain ⟨a, rfl, _⟩ := tyd_ints (m := 0) Try.underlying22 Try.underlying3 (by kernel_rfl) ha
  obtain ⟨b, rfl, _⟩ := tyd_ints (m := 0) Try.underlying22 Try.underlying3 (by kernel_rfl) hb
  obtain ⟨n, rfl, hn⟩ := tyd_int Try.underlying5 hc
  obtain ⟨o, rfl, ho⟩ := tyd_int Try.underlying21 hd
  have ho' : -2147483648 ≤ o ∧ o ≤ 2147483647 := by unfold inK IntKind.min IntKind.max at ho; simp [IntKind.signed, IntKind.bits] at ho; omega
  exact law2 a b n o (inKu8.1 hn).1 (inKu8.1 hn).2 ho'.1 ho'.2
set_option maxRecDepth 100000 in
theorem law2_lifted (os : Os) (started : os.Started) (H : Type) (enc : TypeId × Value → H) :
    ReturnsInHanded {} Try.checked os 4 .any (Rows.digestNumbersSpec.pre6 enc Try.prog Try.f4 Rows.digestNumbersRow.domain false) (Rows.digestNumbersSpec.post enc Try.prog Try.f4 false true false false) := by
  refine returnsInHanded_of_change (C := Try.checked) own started (by kernel_rfl) Try.func4
    (ChangeSpec.witness6 (enc := enc) (C := Try.checked) false ⟨#[], #[.slice none 0 0, .slice none 0 0, .int .u8 0, .int .i32 0], []⟩ 8 (by kernel_rfl) (by kernel_rfl) (by kernel_rfl) (by kernel_rfl)) ?_
  intro W base args ds gs before hval hW _ _
  refine law_calls (P := Try.prog) (m := 2) (ps := [22, 22, 5, 21]) (tb := 4) Try.params4 (by kernel_rfl) (by kernel_rfl) laidOut (by kernel_rfl) Try.underlying4 rfl (fun ds hl => ?_) law2_tyd hval hW
  match ds, hl with
  | [_, _, _, _], _ => exact ⟨rfl, rfl, rfl⟩
theorem law2_holds : Rows.DigestNumbersSaid :=
  OpenClaim.holds_of_wide 4 Try.f4 rfl rfl rfl rfl rfl rfl rfl ⟨rfl, rfl, rfl, rfl, rfl⟩ rfl rfl rfl rfl rfl (by kernel_rfl) Try.func4 (by kernel_rfl)
    (of_decide_eq_true (by kernel_rfl)) (by unfold Func.isWrapper; first | (rw [if_pos (by decide +kernel)]; kernel_rfl) | (rw [if_neg (by decide +kernel)]; exact ⟨rfl, rfl⟩))
    (fun os started H enc _ => law2_lifted os started H enc)
end Go.Proofs.Ythiefpmacffcoaa
