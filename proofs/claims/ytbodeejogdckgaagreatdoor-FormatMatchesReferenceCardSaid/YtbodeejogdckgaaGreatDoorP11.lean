/-
  An address that fits is small.
-/
import Derived.Test.YtbodeejogdckgaaGreatDoorF3
import Derived.Test.YtbodeejogdckgaaGreatDoorP4
set_option linter.unusedVariables false
set_option linter.unusedSimpArgs false
namespace Go.Proofs.YtbodeejogdckgaaGreatDoor
open Go.Av Pl
theorem clear_agr {x : Ad} : ∀ (P : List Pt), goodK P → ∀ x, Agr P x (P.foldl clearP x)
  | [], _, x => Agr.refl _ _
  | p :: P, hg, x => by
    rw [List.foldl_cons]
    have h1 := clear_agr P (fun q hq => hg q (by simp [hq])) (x := x) (clearP x p)
    have h2 : Agr [p] x (clearP x p) := by
      have n : ∀ k, p.k = k → ¬ ¬ hasK [p] k := fun k e h => h ⟨p, by simp, e⟩
      unfold clearP
      rcases hg p (by simp) with h | h | h | h | h | h <;> simp only [h] <;> constructor <;> intro y <;> first | rfl | exact absurd y (n _ h)
    exact (h2.mono fun q hq => by simp at hq; simp [hq]).trans (h1.mono fun q hq => by simp [hq])
theorem clear_same {p : Pt} {P : List Pt} {a b : Ad} (hp : p.k = 1 ∨ p.k = 2 ∨ p.k = 3 ∨ p.k = 4 ∨ p.k = 5 ∨ p.k = 6) (h : Agr (p :: P) a b) : Agr P (clearP a p) (clearP b p) := by
  unfold clearP
  rcases hp with hk | hk | hk | hk | hk | hk <;> simp only [hk] <;> constructor <;> intro x <;> first
    | rfl
    | exact h.nu (hasK_cons (by omega) x)
    | exact h.co (hasK_cons (by omega) x)
    | exact h.st (hasK_cons (by omega) x)
    | exact h.to (hasK_cons (by omega) x)
    | exact h.pe (hasK_cons (by omega) x)
theorem clears_same : ∀ (P : List Pt) (a b : Ad), goodK P → Agr P a b → P.foldl clearP a = P.foldl clearP b
  | [], a, b, _, h => Agr.nil h
  | p :: P, a, b, hg, h => clears_same P _ _ (fun q hq => hg q (by simp [hq])) (clear_same (hg p (by simp)) h)
theorem clears_zero : ∀ (P : List Pt), P.foldl clearP ad0 = ad0
  | [] => rfl
  | p :: P => by
    rw [List.foldl_cons]
    have : clearP ad0 p = ad0 := by
      unfold clearP ad0
      repeat' split
      all_goals rfl
    rw [this]
    exact clears_zero P
theorem clears_iff {P : List Pt} (hg : goodK P) (a : Ad) : P.foldl clearP a = ad0 ↔ Agr P a ad0 := by
  constructor
  · intro h
    have := clear_agr (x := a) P hg a
    rw [h] at this
    exact this
  · intro h
    rw [clears_same P a ad0 hg h, clears_zero]
theorem fits_small {f : Fm} {x : Ad} (hp : ∀ p ∈ f.lines.flatten, partB p = true) (hx : fitsF f x = true) : x.st.length ≤ 84 ∧ x.to.length ≤ 84 ∧ x.pe.length ≤ 84 ∧ x.co.length ≤ 8 := by
  have hg : goodK f.lines.flatten := fun p hq => part_kind (hp p hq)
  unfold fitsF at hx
  simp only [Bool.and_eq_true, decide_eq_true_eq] at hx
  have hA := (clears_iff hg x).1 hx.2
  have hfit := List.all_eq_true.1 hx.1
  have hwl : ∀ s : Bs, isWordsB s = true → s.length ≤ 84 := fun s h => by
    unfold isWordsB at h
    simp only [Bool.and_eq_true, decide_eq_true_eq] at h
    exact h.1.1
  refine ⟨?_, ?_, ?_, ?_⟩
  · by_cases hk : hasK f.lines.flatten 4
    · obtain ⟨p, hp1, hp2⟩ := hk
      have := hfit p hp1
      unfold fitP at this
      simp only [hp2] at this
      exact hwl _ (by simpa using this)
    · rw [hA.st hk]; exact Nat.zero_le _
  · by_cases hk : hasK f.lines.flatten 5
    · obtain ⟨p, hp1, hp2⟩ := hk
      have := hfit p hp1
      unfold fitP at this
      simp only [hp2] at this
      exact hwl _ (by simpa using this)
    · rw [hA.to hk]; exact Nat.zero_le _
  · by_cases hk : hasK f.lines.flatten 6
    · obtain ⟨p, hp1, hp2⟩ := hk
      have := hfit p hp1
      unfold fitP at this
      simp only [hp2] at this
      exact hwl _ (by simpa using this)
    · rw [hA.pe hk]; exact Nat.zero_le _
  · by_cases hk : hasK f.lines.flatten 3
    · obtain ⟨p, hp1, hp2⟩ := hk
      have h3 := hfit p hp1
      unfold fitP at h3
      simp only [hp2] at h3
      have h4 : matchB x.co p.t = true ∧ x.co = upB x.co := by simpa using h3
      have h6 : x.co.length = p.t.length := Classical.byContradiction fun e => by rw [match_len e] at h4; cases h4.1
      have h7 := hp p hp1
      unfold partB at h7
      rw [if_neg (by omega), if_pos hp2] at h7
      unfold patB at h7
      simp only [Bool.and_eq_true, decide_eq_true_eq] at h7
      omega
    · rw [hA.co hk]; exact Nat.zero_le _
end Go.Proofs.YtbodeejogdckgaaGreatDoor
