/-
  One text, one record.
-/
import Derived.Test.YtiojkoaefabjbaaGreatDoorP6
set_option linter.unusedVariables false
set_option linter.unusedSimpArgs false
namespace Go.Proofs.YtiojkoaefabjbaaGreatDoor
open Go.Av Pl
theorem words_inj {r r' : Rc} (h : completeB r = true) (h' : completeB r' = true) (hw : wordsR r' = wordsR r) : r = r' := by
  have hf := complete_facts h'
  have e := cand_eq h hw (a := r'.sc) (b := r'.nu) (c := r'.ti) (ki := r'.ki) (by simp [wordsR]) (atoi_itoa hf.sc0 hf.sc1) (atoi_itoa hf.nu0 hf.nu1) (atoi_itoa hf.ti0 hf.ti1) (by
    show (kindB r'.ki = _ ∧ _) ∨ (kindB r'.ki ≠ _ ∧ _)
    rcases hf.ki with ⟨k, _⟩ | ⟨k, _⟩
    · rw [k]; exact .inr ⟨by decide, rfl⟩
    · rw [k]; exact .inl ⟨rfl, rfl⟩)
  rw [e]
  rfl
theorem text_inj {r r' : Rc} (h : completeB r = true) (h' : completeB r' = true) (ht : textR r' = textR r) : r = r' :=
  words_inj h h' (by rw [← split_text h, ← split_text h', ht])
/-- No complete record has this text: the only candidate is not complete, or has another text. -/
theorem text_none {s : Bs} {ws : List Bs} {a b c ki : Int} (hs : splitB s = ws) (h5 : 5 ≤ ws.length) (ha : Lib.atoiAll ws[1] = .ok a) (hb : Lib.atoiAll ws[2] = .ok b) (hc : Lib.atoiAll ws[3] = .ok c)
    (hk : (ws[0] = [109, 97, 110, 105, 102, 101, 115, 116] ∧ ki = 2) ∨ (ws[0] ≠ [109, 97, 110, 105, 102, 101, 115, 116] ∧ ki = 1))
    (hn : completeB ⟨a, b, ki, c, ws[4], ws.drop 5⟩ = false ∨ textR ⟨a, b, ki, c, ws[4], ws.drop 5⟩ ≠ s) (r : Rc) (h : completeB r = true) : textR r ≠ s := by
  intro ht
  have hw : ws = wordsR r := by rw [← hs, ← ht]; exact split_text h
  have e := cand_eq h hw h5 ha hb hc hk
  rw [← e] at hn
  rcases hn with hn | hn
  · rw [h] at hn; cases hn
  · exact hn ht
end Go.Proofs.YtiojkoaefabjbaaGreatDoor
