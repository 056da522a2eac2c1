/-
  Insertion sort, in plain words.
-/
import Derived.Test.YtiojkoaefabjbaaGreatDoorP2
set_option linter.unusedVariables false
set_option linter.unusedSimpArgs false
namespace Go.Proofs.YtiojkoaefabjbaaGreatDoor
open Go.Av Pl
/-- The first k places of a list are sorted, the others as they were. -/
structure InsP (l l1 : List Rc) (k : Nat) : Prop where
  len : l1.length = min k l.length
  perm : l1.Perm (l.take k)
  sorted : Sorted cmpR l1
abbrev rv (l : List Rc) : List AV := l.map Rc.v
/-- An element on its way down. -/
def insA (l1 : List Rc) (x : Rc) (r : List Rc) (j : Nat) : List Rc := l1.take j ++ x :: (l1.drop j ++ r)
theorem insA_get (l1 : List Rc) (x : Rc) (r : List Rc) (j : Nat) (h : j ≤ l1.length) : (rv (insA l1 x r j))[j]? = some x.v := by
  simp [rv, insA, List.getElem?_append_right, h]
theorem insA_pre (l1 : List Rc) (x : Rc) (r : List Rc) (j : Nat) (h : j < l1.length) : (rv (insA l1 x r (j + 1)))[j]? = some (l1[j]).v := by
  unfold rv insA
  rw [List.getElem?_map, List.getElem?_append_left (by simp; omega), List.getElem?_take_of_lt (by omega), List.getElem?_eq_getElem h]
  rfl
theorem insA_swap (l1 : List Rc) (x : Rc) (r : List Rc) (j : Nat) (h : j < l1.length) : ((rv (insA l1 x r (j + 1))).set (j + 1) (l1[j]).v).set j x.v = rv (insA l1 x r j) := by
  have h1 : l1.take (j + 1) = l1.take j ++ [l1[j]] := by rw [List.take_succ_eq_append_getElem h]
  have h2 : l1.drop j = l1[j] :: l1.drop (j + 1) := List.drop_eq_getElem_cons h
  have e1 : insA l1 x r (j + 1) = l1.take j ++ l1[j] :: x :: (l1.drop (j + 1) ++ r) := by unfold insA; rw [h1, List.append_assoc]; rfl
  have e2 : insA l1 x r j = l1.take j ++ x :: l1[j] :: (l1.drop (j + 1) ++ r) := by unfold insA; rw [h2]; rfl
  rw [e1, e2]
  have hl : (l1.take j).length = j := by simp; omega
  simp only [rv, List.map_append, List.map_cons]
  rw [List.set_append_right (h := by simp; omega), List.set_append_right (h := by simp; omega)]
  rw [List.length_map, hl]
  simp
theorem insA_len (l1 : List Rc) (x : Rc) (r : List Rc) (j : Nat) : (insA l1 x r j).length = l1.length + 1 + r.length := by
  simp [insA]; omega
theorem le_trans0 {c : Rc → Rc → Int} (h : CmpOK c) {x y z : Rc} (h1 : c x y ≤ 0) (h2 : c y z ≤ 0) : c x z ≤ 0 := by
  rcases h.rng x y with k | k | k
  · rcases h.rng y z with m | m | m
    · have := h.tr _ _ _ k m; omega
    · have := (h.eq0 y z).1 m; subst this; omega
    · omega
  · have := (h.eq0 x y).1 k; subst this; exact h2
  · omega
theorem insP_next {l l1 : List Rc} {k j : Nat} (hk : k < l.length) (h : InsP l l1 k) (hj : j ≤ k) (hb : ∀ y ∈ l1.drop j, cmpR l[k] y < 0) (ha : ∀ i, j = i + 1 → ∀ hi : i < l1.length, ¬ cmpR l[k] l1[i] < 0) : InsP l (insA l1 l[k] [] j) (k + 1) := by
  have hl : l1.length = k := by rw [h.len]; omega
  refine ⟨by rw [insA_len]; simp; omega, ?_, ?_⟩
  · have h1 : l.take (k + 1) = l.take k ++ [l[k]] := by rw [List.take_succ_eq_append_getElem hk]
    rw [h1]
    refine .trans ?_ (h.perm.append_right _)
    unfold insA
    have : l1.take j ++ l[k] :: (l1.drop j ++ []) = l1.take j ++ ([l[k]] ++ l1.drop j) := by simp
    rw [this]
    refine .trans (List.Perm.append_left _ List.perm_append_comm) ?_
    rw [← List.append_assoc, List.take_append_drop]
  · unfold insA
    have hs := h.sorted
    rw [← List.take_append_drop j l1] at hs
    obtain ⟨s1, s2, s3⟩ := List.pairwise_append.1 hs
    refine List.pairwise_append.2 ⟨s1, List.pairwise_cons.2 ⟨fun y hy => ?_, by simpa using s2⟩, fun a ha' b hb' => ?_⟩
    · have := hb y (by simpa using hy); omega
    · have hax : cmpR a l[k] ≤ 0 := by
        obtain ⟨i, hi, rfl⟩ := List.getElem_of_mem ha'
        simp only [List.length_take] at hi
        simp only [List.getElem_take]
        obtain ⟨m, rfl⟩ : ∃ m, j = m + 1 := ⟨j - 1, by omega⟩
        have hm : m < l1.length := by omega
        have h1 := ha m rfl hm
        have h2 : cmpR l1[m] l[k] ≤ 0 := by rw [cmpR_ok.anti l[k] l1[m]]; omega
        by_cases him : i = m
        · subst him; exact h2
        · have h3 : cmpR l1[i] l1[m] ≤ 0 := List.pairwise_iff_getElem.1 h.sorted i m (by omega) hm (by omega)
          exact le_trans0 cmpR_ok h3 h2
      rcases List.mem_cons.1 hb' with rfl | hb'
      · exact hax
      · exact s3 a ha' b (by simpa using hb')
end Go.Proofs.YtiojkoaefabjbaaGreatDoor
