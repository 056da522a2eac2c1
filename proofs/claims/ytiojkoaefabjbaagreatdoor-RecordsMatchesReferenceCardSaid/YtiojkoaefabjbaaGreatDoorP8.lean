/-
  Numbers in decimal, read digit by digit; texts joined again.
-/
import Derived.Test.YtiojkoaefabjbaaGreatDoorP7
set_option linter.unusedVariables false
set_option linter.unusedSimpArgs false
namespace Go.Proofs.YtiojkoaefabjbaaGreatDoor
open Go.Av Pl
def valB (s : Bs) : Nat := s.foldl (fun n c => 10 * n + (c.toNat - 48)) 0
theorem val_snoc (s : Bs) (c : UInt8) : valB (s ++ [c]) = 10 * valB s + (c.toNat - 48) := by simp [valB]
theorem val_dec : ∀ u : Nat, valB (Lib.decDigits u) = u := by
  intro u
  induction u using Nat.strongRecOn with
  | _ u ih =>
    rw [Lib.decDigits]
    split
    · rename_i h
      have := dec_byte u h
      show 10 * 0 + ((UInt8.ofNat (48 + u)).toNat - 48) = u
      omega
    · rename_i h
      rw [val_snoc, ih (u / 10) (by omega), dec_byte _ (Nat.mod_lt _ (by omega))]
      omega
def digB (c : UInt8) : Bool := decide (48 ≤ c.toNat) && decide (c.toNat ≤ 57)
theorem byte_of (c : UInt8) (h : digB c = true) : UInt8.ofNat (48 + (c.toNat - 48)) = c := by
  unfold digB at h
  simp at h
  rw [show 48 + (c.toNat - 48) = c.toNat by omega]
  simp
theorem val_lt (s : Bs) (h : ∀ c ∈ s, digB c = true) : ∀ k, k ≤ s.length → valB (s.take k) < 10 ^ k
  | 0, _ => by simp [valB]
  | k + 1, hk => by
    have ih := val_lt s h k (by omega)
    rw [List.take_succ_eq_append_getElem (by omega), val_snoc, Nat.pow_succ]
    have := h _ (List.getElem_mem (show k < s.length by omega))
    unfold digB at this
    simp at this
    omega
theorem dec_val (s : Bs) (h : ∀ c ∈ s, digB c = true) (h0 : s[0]? ≠ some 48 ∨ s.length ≤ 1) : ∀ k, 1 ≤ k → k ≤ s.length → Lib.decDigits (valB (s.take k)) = s.take k
  | 0, h1, _ => by omega
  | k + 1, _, hk => by
    have hc := h _ (List.getElem_mem (show k < s.length by omega))
    have hb := byte_of _ hc
    unfold digB at hc
    simp at hc
    rw [List.take_succ_eq_append_getElem (by omega), val_snoc]
    by_cases hk0 : k = 0
    · subst hk0
      simp only [List.take_zero, List.nil_append]
      rw [show valB [] = 0 from rfl, Lib.decDigits, dif_pos (by omega)]
      simp [hb]
    · have ih := dec_val s h h0 k (by omega) (by omega)
      have hv : 1 ≤ valB (s.take k) := by
        rcases Nat.eq_zero_or_pos (valB (s.take k)) with hz | hz
        · exfalso
          rw [hz] at ih
          have h1 : (Lib.decDigits 0)[0]? = some 48 := by rw [Lib.decDigits, dif_pos (by omega)]; rfl
          rw [ih, List.getElem?_take_of_lt (by omega)] at h1
          rcases h0 with h0 | h0
          · exact h0 h1
          · omega
        · exact hz
      rw [Lib.decDigits, dif_neg (by omega), show (10 * valB (s.take k) + ((s[k]).toNat - 48)) / 10 = valB (s.take k) by omega, ih, show (10 * valB (s.take k) + ((s[k]).toNat - 48)) % 10 = (s[k]).toNat - 48 by omega, hb]
def numR (s : Bs) : Int := if decide (1 ≤ s.length) && decide (s.length ≤ 7) && !(decide (s[0]? = some 48) && decide (1 < s.length)) && s.all digB && decide (valB s ≤ 1000000) then valB s else -1
theorem numR_text {s : Bs} (h : 0 ≤ numR s) : s = Lib.itoa (numR s) := by
  unfold numR at h ⊢
  split
  · rename_i hc
    simp only [Bool.and_eq_true, decide_eq_true_eq, Bool.not_eq_true', Bool.and_eq_false_iff, decide_eq_false_iff_not, List.all_eq_true] at hc
    obtain ⟨⟨⟨⟨h1, h2⟩, h3⟩, h4⟩, h5⟩ := hc
    have := dec_val s h4 (by rcases h3 with h3 | h3; exact .inl h3; exact .inr (by omega)) s.length h1 (Nat.le_refl _)
    rw [List.take_length] at this
    unfold Lib.itoa
    rw [if_neg (by omega), Int.toNat_natCast, this]
  · rename_i hc
    rw [if_neg hc] at h
    omega
theorem head_dec : ∀ u : Nat, (Lib.decDigits u)[0]? = some 48 → u = 0 := by
  intro u
  induction u using Nat.strongRecOn with
  | _ u ih =>
    intro h
    rw [Lib.decDigits] at h
    split at h
    · rename_i hu
      simp only [List.getElem?_cons_zero, Option.some.injEq] at h
      have := dec_byte u hu
      rw [h] at this
      have h48 : (48 : UInt8).toNat = 48 := rfl
      omega
    · rename_i hu
      have hn := dec_ne (u / 10)
      have : (Lib.decDigits (u / 10))[0]? = some 48 := by
        rw [List.getElem?_append_left (List.length_pos_iff.2 hn)] at h
        exact h
      have := ih (u / 10) (by omega) this
      omega
theorem numR_itoa {n : Int} (h0 : 0 ≤ n) (h1 : n ≤ 1000000) : numR (Lib.itoa n) = n := by
  obtain ⟨u, rfl⟩ : ∃ u : Nat, n = u := ⟨n.toNat, by omega⟩
  have e : Lib.itoa (u : Int) = Lib.decDigits u := by unfold Lib.itoa; rw [if_neg (by omega)]; simp
  have hl := itoa_len h0 h1
  rw [e] at hl ⊢
  have hv := val_dec u
  have hn := dec_ne u
  unfold numR
  rw [if_pos, hv]
  simp only [Bool.and_eq_true, decide_eq_true_eq, Bool.not_eq_true', Bool.and_eq_false_iff, decide_eq_false_iff_not, List.all_eq_true]
  refine ⟨⟨⟨⟨List.length_pos_iff.2 hn, hl⟩, ?_⟩, fun c hc => ?_⟩, by rw [hv]; omega⟩
  · by_cases hz : u = 0
    · right; subst hz; rw [Lib.decDigits, dif_pos (by omega)]; simp
    · left; exact fun h => hz (head_dec u h)
  · have := dec_bytes u c hc
    unfold digB
    simp; exact this
theorem numR_le (s : Bs) : numR s ≤ 1000000 := by
  unfold numR
  split
  · rename_i hc
    simp only [Bool.and_eq_true, decide_eq_true_eq] at hc
    omega
  · omega
theorem join_split : ∀ s : Bs, Lib.join (splitB s) [32] = s
  | [] => by simp [splitB, Lib.join_one]
  | x :: r => by
    have ih := join_split r
    rw [splitB_cons]
    split
    · rename_i hx
      subst hx
      have hp := splitB_pos r
      cases hs : splitB r with
      | nil => rw [hs] at hp; simp at hp
      | cons y ys =>
        rw [hs, Lib.join_cons] at ih
        rw [Lib.join_cons, ← ih]
        simp [Lib.joinTail]
    · have hp := splitB_pos r
      cases hs : splitB r with
      | nil => rw [hs] at hp; simp at hp
      | cons y ys =>
        rw [hs, Lib.join_cons] at ih
        simp only
        rw [Lib.join_cons, ← ih]
        rfl
/-- The kind that a word names. -/
def kindW (w : Bs) : Int := if w = [109, 97, 110, 105, 102, 101, 115, 116] then 2 else if w = [115, 99, 97, 110] then 1 else 0
def candR (ws : List Bs) (h : 5 ≤ ws.length) : Rc := ⟨numR ws[1], numR ws[2], kindW ws[0], numR ws[3], ws[4], ws.drop 5⟩
theorem cand_of {r : Rc} (hr : completeB r = true) (ws : List Bs) (hw : ws = wordsR r) (h5 : 5 ≤ ws.length) : candR ws h5 = r := by
  subst hw
  have hf := complete_facts hr
  have e1 : numR (wordsR r)[1] = r.sc := numR_itoa hf.sc0 hf.sc1
  have e2 : numR (wordsR r)[2] = r.nu := numR_itoa hf.nu0 hf.nu1
  have e3 : numR (wordsR r)[3] = r.ti := numR_itoa hf.ti0 hf.ti1
  have e0 : kindW (wordsR r)[0] = r.ki := by
    show kindW (kindB r.ki) = r.ki
    rcases hf.ki with ⟨k, _⟩ | ⟨k, _⟩ <;> rw [k] <;> decide
  unfold candR
  rw [e0, e1, e2, e3]
  rfl
theorem cand_text {s : Bs} (h5 : 5 ≤ (splitB s).length) (hc : completeB (candR (splitB s) h5) = true) : textR (candR (splitB s) h5) = s := by
  have hf := complete_facts hc
  have hj := join_split s
  unfold textR
  rw [if_pos hc]
  have e : wordsR (candR (splitB s) h5) = splitB s := by
    generalize splitB s = ws at *
    match ws, h5 with
    | a :: b :: c :: d :: e :: rest, h5 =>
      have e1 : b = Lib.itoa (numR b) := numR_text hf.sc0
      have e2 : c = Lib.itoa (numR c) := numR_text hf.nu0
      have e3 : d = Lib.itoa (numR d) := numR_text hf.ti0
      have hk : kindB (kindW a) = a := by
        have hk := hf.ki
        change (kindW a = 1 ∧ _) ∨ (kindW a = 2 ∧ _) at hk
        unfold kindW at hk ⊢
        split
        · rename_i h; rw [h]; rfl
        · rename_i h
          rw [if_neg h] at hk
          split
          · rename_i h2; rw [h2]; rfl
          · rename_i h2; rw [if_neg h2] at hk; omega
      show [kindB (kindW a), Lib.itoa (numR b), Lib.itoa (numR c), Lib.itoa (numR d), e] ++ rest = _
      rw [← e1, ← e2, ← e3, hk]
      rfl
  rw [e, hj]
end Go.Proofs.YtiojkoaefabjbaaGreatDoor
