/-
  Formats with one reading at most; how often words are divided; further blanks.
-/
import Derived.Test.YtbodeejogdckgaaGreatDoorP7
set_option linter.unusedVariables false
set_option linter.unusedSimpArgs false
namespace Go.Proofs.YtbodeejogdckgaaGreatDoor
open Go.Av Pl
def sevN (l : List Pt) : Nat := (l.filter fun p => decide (4 ≤ p.k)).length
theorem sevN_many {l : List Pt} (h : goodK l) : sevN l = manyP l := by
  unfold sevN manyP
  congr 1
  refine List.filter_congr fun p hp => ?_
  unfold manyB mostP
  rcases h p hp with h | h | h | h | h | h <;> simp [h]
theorem readF_one {F : List (List Pt)} (hg : goodK F.flatten) (h : ∀ l ∈ F, sevN l ≤ 1) (W : List (List Bs)) (a : Ad) : (readF F W a).length ≤ 1 := by
  have h1 := readF_bound F W a
  have h2 : manyF F = 0 := by
    unfold manyF
    have : ∀ x ∈ F.map (fun l => manyP l - 1), x = 0 := by
      intro x hx
      obtain ⟨l, hl, rfl⟩ := List.mem_map.1 hx
      have h3 := h l hl
      rw [sevN_many fun p hp => hg p (List.mem_flatten.2 ⟨l, hl, hp⟩)] at h3
      omega
    generalize F.map (fun l => manyP l - 1) = M at *
    induction M with
    | nil => rfl
    | cons x M ih => rw [List.sum_cons, this x (by simp), ih fun y hy => this y (by simp [hy])]
  rw [h2] at h1
  exact h1
theorem readF_len : ∀ (F : List (List Pt)) (W : List (List Bs)) (a : Ad), readF F W a ≠ [] → F.length = W.length
  | [], [], a, _ => rfl
  | [], _ :: _, a, h => absurd rfl h
  | _ :: _, [], a, h => absurd rfl h
  | l :: ls, w :: W, a, h => by
    have h : (readL l w a).flatMap (readF ls W) ≠ [] := h
    cases hx : (readL l w a).flatMap (readF ls W) with
    | nil => exact absurd hx h
    | cons y ys =>
      have hy : y ∈ (readL l w a).flatMap (readF ls W) := by rw [hx]; simp
      obtain ⟨b, _, hb⟩ := List.mem_flatMap.1 hy
      have := readF_len ls W b (fun e => by rw [e] at hb; cases hb)
      simp [this]
/-! ### A street and a town -/
def divF : List (List Pt) := [[⟨4, []⟩, ⟨5, []⟩]]
theorem flat_len_sum (f : Nat → List Ad) : ∀ n, ((List.range n).flatMap f).length = ((List.range n).map fun i => (f i).length).sum
  | 0 => rfl
  | n + 1 => by
    rw [List.range_succ, List.flatMap_append, List.length_append, flat_len_sum f n, List.map_append, List.sum_append]
    simp
theorem read_last (k : Int) (hk : k = 5) (ws : List Bs) (a : Ad) : (readL [⟨k, []⟩] ws a).length = if 1 ≤ ws.length ∧ ws.length ≤ 4 then 1 else 0 := by
  subst hk
  rw [readL_cons, flat_len_sum]
  have hm : mostP ⟨5, []⟩ = 4 := rfl
  rw [hm]
  have hs : ∀ i, i < min 4 ws.length → (stepL ⟨5, []⟩ [] ws a i).length = if ws.length = i + 1 then 1 else 0 := by
    intro i hi
    have hok : okS ⟨5, []⟩ (ws.take (i + 1)) = true := rfl
    unfold stepL
    rw [if_pos hok]
    by_cases h : ws.length = i + 1
    · rw [if_pos h, List.drop_eq_nil_of_le (by omega)]
      rfl
    · rw [if_neg h]
      cases hd : ws.drop (i + 1) with
      | nil => have := congrArg List.length hd; simp at this; omega
      | cons x xs => rfl
  have e : (List.range (min 4 ws.length)).map (fun i => (stepL ⟨5, []⟩ [] ws a i).length) = (List.range (min 4 ws.length)).map fun i => if ws.length = i + 1 then 1 else 0 :=
    List.map_congr_left fun i hi => hs i (List.mem_range.1 hi)
  rw [e]
  generalize ws.length = n
  by_cases h4 : n ≤ 4
  · have hn : n = 0 ∨ n = 1 ∨ n = 2 ∨ n = 3 ∨ n = 4 := by omega
    rcases hn with rfl | rfl | rfl | rfl | rfl <;> rfl
  · rw [Nat.min_eq_left (by omega), if_neg (by omega)]
    have : (List.range 4).map (fun i => if n = i + 1 then 1 else 0) = [0, 0, 0, 0] := by
      show [if n = 0 + 1 then 1 else 0, if n = 1 + 1 then 1 else 0, if n = 2 + 1 then 1 else 0, if n = 3 + 1 then 1 else 0] = _
      rw [if_neg (by omega), if_neg (by omega), if_neg (by omega), if_neg (by omega)]
    rw [this]
    rfl
/-- In how many ways n words can be divided, the first of them taking at most k. -/
def waysN (n : Nat) : Nat → Nat
  | 0 => 0
  | k + 1 => waysN n k + if 1 + (k + 1) ≤ n ∧ n ≤ 4 + (k + 1) then 1 else 0
theorem read_div (ws : List Bs) (h : ws.length ≤ 12) : (readF divF [ws] ad0).length = waysN ws.length 4 := by
  have e : readF divF [ws] ad0 = readL [⟨4, []⟩, ⟨5, []⟩] ws ad0 := by
    show (readL [⟨4, []⟩, ⟨5, []⟩] ws ad0).flatMap (readF [] []) = _
    have : (readF [] [] : Ad → List Ad) = fun a => [a] := rfl
    rw [this]
    simp
  rw [e, readL_cons, flat_len_sum]
  have hm : mostP ⟨4, []⟩ = 4 := rfl
  rw [hm]
  have e2 : (List.range (min 4 ws.length)).map (fun i => (stepL ⟨4, []⟩ [⟨5, []⟩] ws ad0 i).length) = (List.range (min 4 ws.length)).map fun i => if 1 ≤ ws.length - (i + 1) ∧ ws.length - (i + 1) ≤ 4 then 1 else 0 := by
    refine List.map_congr_left fun i hi => ?_
    have hok : okS ⟨4, []⟩ (ws.take (i + 1)) = true := rfl
    unfold stepL
    rw [if_pos hok, read_last 5 rfl, List.length_drop]
  rw [e2]
  generalize ws.length = n at h
  have key : ∀ n, n < 13 → ((List.range (min 4 n)).map fun i => if 1 ≤ n - (i + 1) ∧ n - (i + 1) ≤ 4 then 1 else 0).sum = waysN n 4 := by decide
  exact key n (by omega)
/-! ### Further blanks -/
def endB (s : Bs) : Prop := s = [] ∨ ∃ t, s = t ++ [32]
theorem end_app {s : Bs} (h : endB s) (r : Bs) : wordsW (s ++ r) = wordsW s ++ wordsW r := by
  rcases h with rfl | ⟨t, rfl⟩
  · rfl
  · have e1 := words_app t r 32 (by decide)
    have e2 := words_app t [] 32 (by decide)
    rw [List.append_assoc, List.singleton_append, e1, e2]
    have : wordsW [] = [] := rfl
    rw [this, List.append_nil]
theorem word_blank {w : Bs} (h : isW w) : wordsW (w ++ [32]) = [w] := by
  rw [words_app w [] 32 (by decide), words_isW h]; rfl
theorem end_word {s w : Bs} (h : endB s) (hw : isW w) : endB (s ++ w ++ [32]) ∧ wordsW (s ++ w ++ [32]) = wordsW s ++ [w] := by
  refine ⟨.inr ⟨_, rfl⟩, ?_⟩
  rw [List.append_assoc, end_app h, word_blank hw]
theorem end_tab {s : Bs} (h : endB s) : endB (s ++ [9, 32]) ∧ wordsW (s ++ [9, 32]) = wordsW s := by
  refine ⟨.inr ⟨s ++ [9], by simp⟩, ?_⟩
  rw [end_app h]
  have : wordsW [9, 32] = [] := by decide
  rw [this, List.append_nil]
theorem end_more {s : Bs} (h : endB s) : wordsW (s ++ [32, 32]) = wordsW s := by
  rw [end_app h]
  have : wordsW [32, 32] = [] := by decide
  rw [this, List.append_nil]
end Go.Proofs.YtbodeejogdckgaaGreatDoor
