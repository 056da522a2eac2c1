/-
  Records: plain facts on well-formed records and their texts.
-/
import Derived.Test.YtiojkoaefabjbaaGreatDoorP2
import Derived.Lib.ItoaMem
set_option linter.unusedVariables false
set_option linter.unusedSimpArgs false
namespace Go.Proofs.YtiojkoaefabjbaaGreatDoor
open Go.Av Pl
theorem fresh_labels : ∀ (l seen : List Bs), freshB seen l = true → ∀ x ∈ l, labelB x = true
  | [], _, _, x, hx => by cases hx
  | y :: l, seen, h, x, hx => by
    have h : ((labelB y && !seen.contains y) && freshB (seen ++ [y]) l) = true := h
    simp only [Bool.and_eq_true] at h
    rcases List.mem_cons.1 hx with rfl | hx
    · exact h.1.1
    · exact fresh_labels l _ h.2 x hx
structure Facts (r : Rc) : Prop where
  sc0 : 0 ≤ r.sc
  sc1 : r.sc ≤ 1000000
  nu0 : 0 ≤ r.nu
  nu1 : r.nu ≤ 1000000
  ti0 : 0 ≤ r.ti
  ti1 : r.ti ≤ 1000000
  la : labelB r.la = true
  ki : (r.ki = 1 ∧ r.co = []) ∨ (r.ki = 2 ∧ r.co.length ≤ 40 ∧ freshB [r.la] r.co = true)
theorem complete_facts {r : Rc} (h : completeB r = true) : Facts r := by
  unfold completeB at h
  simp only [Bool.and_eq_true, decide_eq_true_eq] at h
  obtain ⟨⟨⟨⟨⟨h1, h2⟩, h3, h4⟩, h5, h6⟩, h7⟩, h8⟩ := h
  refine ⟨h1, h2, h3, h4, h5, h6, h7, ?_⟩
  split at h8
  · rename_i hk; exact .inl ⟨hk, List.eq_nil_of_length_eq_zero (by simpa using h8)⟩
  · split at h8
    · rename_i hk
      simp only [Bool.and_eq_true, decide_eq_true_eq] at h8
      exact .inr ⟨hk, h8.1, h8.2⟩
    · cases h8
theorem Facts.complete {r : Rc} (h : Facts r) : completeB r = true := by
  unfold completeB
  have h8 : (if r.ki = 1 then decide (r.co.length = 0) else if r.ki = 2 then decide (r.co.length ≤ 40) && freshB [r.la] r.co else false) = true := by
    rcases h.ki with ⟨h1, h2⟩ | ⟨h1, h2, h3⟩
    · rw [if_pos h1, h2]; rfl
    · rw [if_neg (by omega), if_pos h1, h3]; simp [h2]
  rw [h8]
  simp [h.sc0, h.sc1, h.nu0, h.nu1, h.ti0, h.ti1, h.la]
theorem label_len {s : Bs} (h : labelB s = true) : 1 ≤ s.length ∧ s.length ≤ 20 := by
  unfold labelB at h
  simp only [Bool.and_eq_true, decide_eq_true_eq] at h
  exact h.1
theorem Facts.cos {r : Rc} (h : Facts r) : r.co.length ≤ 40 ∧ ∀ x ∈ r.co, labelB x = true := by
  rcases h.ki with ⟨_, h2⟩ | ⟨_, h2, h3⟩
  · rw [h2]; exact ⟨by simp, fun x hx => by cases hx⟩
  · exact ⟨h2, fresh_labels _ _ h3⟩
theorem dec_len : ∀ (k u : Nat), u < 10 ^ (k + 1) → (Lib.decDigits u).length ≤ k + 1
  | 0, u, h => by
    unfold Lib.decDigits
    rw [dif_pos (by simpa using h)]
    simp
  | k + 1, u, h => by
    unfold Lib.decDigits
    split
    · simp
    · have := dec_len k (u / 10) (by rw [Nat.pow_succ] at h; omega)
      simp; omega
theorem itoa_len {n : Int} (h0 : 0 ≤ n) (h1 : n ≤ 1000000) : (Lib.itoa n).length ≤ 7 := by
  unfold Lib.itoa
  rw [if_neg (by omega)]
  exact dec_len 6 _ (by omega)
theorem tail_len (sep : Bs) (M : Nat) : ∀ l : List Bs, (∀ x ∈ l, x.length ≤ M) → (Lib.joinTail sep l).length ≤ l.length * (M + sep.length)
  | [], _ => by simp [Lib.joinTail]
  | x :: l, h => by
    have := tail_len sep M l (fun z hz => h z (List.mem_cons_of_mem _ hz))
    have hx := h x (by simp)
    unfold Lib.joinTail at *
    simp only [List.map_cons, List.flatten_cons, List.length_append, List.length_cons] at this ⊢
    rw [Nat.add_mul]
    omega
theorem join_len (sep : Bs) (M : Nat) : ∀ l : List Bs, (∀ x ∈ l, x.length ≤ M) → (Lib.join l sep).length ≤ l.length * (M + sep.length)
  | [], _ => by simp [Lib.join_nil]
  | x :: l, h => by
    have := tail_len sep M l (fun z hz => h z (List.mem_cons_of_mem _ hz))
    have hx := h x (by simp)
    rw [Lib.join_cons]
    simp only [List.length_append, List.length_cons]
    rw [Nat.add_mul]
    omega
theorem kind_len (k : Int) : (kindB k).length ≤ 8 := by unfold kindB; split <;> simp
theorem words_len {r : Rc} (h : Facts r) : (wordsR r).length ≤ 45 ∧ ∀ x ∈ wordsR r, x.length ≤ 20 := by
  obtain ⟨h1, h2⟩ := h.cos
  unfold wordsR
  refine ⟨by simp; omega, fun x hx => ?_⟩
  rcases List.mem_append.1 hx with hx | hx
  · simp only [List.mem_cons, List.not_mem_nil, or_false] at hx
    rcases hx with rfl | rfl | rfl | rfl | rfl
    · have := kind_len r.ki; omega
    · have := itoa_len h.sc0 h.sc1; omega
    · have := itoa_len h.nu0 h.nu1; omega
    · have := itoa_len h.ti0 h.ti1; omega
    · exact (label_len h.la).2
  · exact (label_len (h2 x hx)).2
theorem text_len {r : Rc} (h : Facts r) : (Lib.join (wordsR r) [32]).length ≤ 945 := by
  obtain ⟨h1, h2⟩ := words_len h
  have := join_len [32] 20 _ h2
  simp at this
  omega
end Go.Proofs.YtiojkoaefabjbaaGreatDoor
