/-
  How many readings there can be.
-/
import Derived.Test.YtbodeejogdckgaaGreatDoorP4
set_option linter.unusedVariables false
set_option linter.unusedSimpArgs false
namespace Go.Proofs.YtbodeejogdckgaaGreatDoor
open Go.Av Pl
def manyB (p : Pt) : Bool := decide (mostP p = 4)
def manyP (l : List Pt) : Nat := (l.filter manyB).length
theorem most_cases (p : Pt) : mostP p = 1 ∨ mostP p = 4 := by unfold mostP; split <;> simp
theorem manyP_cons (p : Pt) (l : List Pt) : manyP (p :: l) = (if mostP p = 4 then 1 else 0) + manyP l := by
  unfold manyP manyB
  rw [List.filter_cons]
  by_cases h : mostP p = 4
  · simp [h]; omega
  · simp [h]
theorem stepL_le (p : Pt) (ps : List Pt) (ws : List Bs) (a : Ad) (i : Nat) : stepL p ps ws a i = [] ∨ stepL p ps ws a i = readL ps (ws.drop (i + 1)) (putP p (ws.take (i + 1)) a) := by
  unfold stepL
  split
  · exact .inr rfl
  · exact .inl rfl
theorem flat_range_bound (f : Nat → List Ad) (B : Nat) : ∀ N, (∀ i, i < N → (f i).length ≤ B) → ((List.range N).flatMap f).length ≤ N * B := by
  intro N
  induction N with
  | zero => intro _; simp
  | succ N ih =>
    intro h
    rw [List.range_succ, List.flatMap_append, List.length_append]
    have h1 := ih fun i hi => h i (by omega)
    have h2 := h N (by omega)
    have e : [N].flatMap f = f N := by simp
    rw [Nat.add_mul, e]
    omega
theorem flat_range_none (f : Nat → List Ad) : ∀ N, (∀ i, i < N → f i = []) → (List.range N).flatMap f = [] := by
  intro N
  induction N with
  | zero => intro _; simp
  | succ N ih =>
    intro h
    rw [List.range_succ, List.flatMap_append, ih fun i hi => h i (by omega)]
    simp [h N (by omega)]
theorem flat_range_one (f : Nat → List Ad) (i0 : Nat) : ∀ N, (∀ i, i < N → (f i).length ≤ 1 ∧ (f i ≠ [] → i = i0)) → ((List.range N).flatMap f).length ≤ 1 := by
  intro N
  induction N with
  | zero => intro _; simp
  | succ N ih =>
    intro h
    have e : [N].flatMap f = f N := by simp
    rw [List.range_succ, List.flatMap_append, List.length_append, e]
    by_cases hN : f N = []
    · have h1 := ih fun i hi => h i (by omega)
      rw [hN, List.length_nil]
      omega
    · have hN0 := (h N (by omega)).2 hN
      have h2 := (h N (by omega)).1
      rw [flat_range_none f N fun i hi => by
        by_cases hf : f i = []
        · exact hf
        · have := (h i (by omega)).2 hf; omega]
      simpa using h2
theorem readL_zero : ∀ (ps : List Pt) (ws : List Bs) (a : Ad), manyP ps = 0 → (readL ps ws a).length ≤ 1 ∧ (readL ps ws a ≠ [] → ws.length = ps.length)
  | [], [], a, _ => ⟨by show [a].length ≤ 1; simp, fun _ => rfl⟩
  | [], _ :: _, a, _ => ⟨by show ([] : List Ad).length ≤ 1; simp, fun h => absurd rfl h⟩
  | p :: ps, ws, a, h => by
    rw [manyP_cons] at h
    have hm : mostP p = 1 := by
      rcases most_cases p with h2 | h2
      · exact h2
      · rw [if_pos h2] at h; omega
    rw [readL_cons, hm]
    cases ws with
    | nil => simp
    | cons w ws =>
      have e : min 1 (w :: ws).length = 1 := by rw [List.length_cons]; omega
      rw [e]
      have e2 : (List.range 1).flatMap (stepL p ps (w :: ws) a) = stepL p ps (w :: ws) a 0 := by simp [List.range_succ]
      rw [e2]
      have ih := readL_zero ps ((w :: ws).drop 1) (putP p ((w :: ws).take 1) a) (by omega)
      rcases stepL_le p ps (w :: ws) a 0 with h3 | h3
      · rw [h3]; simp
      · rw [h3]
        exact ⟨ih.1, fun h4 => by have := ih.2 h4; simp at this; simp [this]⟩
theorem readL_bound : ∀ (ps : List Pt) (ws : List Bs) (a : Ad), (readL ps ws a).length ≤ 4 ^ (manyP ps - 1)
  | [], [], a => by show [a].length ≤ _; simp [manyP]
  | [], _ :: _, a => Nat.zero_le _
  | p :: ps, ws, a => by
    rw [readL_cons, manyP_cons]
    rcases most_cases p with hm | hm
    · rw [if_neg (by omega), hm, Nat.zero_add]
      refine Nat.le_trans (flat_range_bound _ (4 ^ (manyP ps - 1)) _ fun i hi => ?_) ?_
      · rcases stepL_le p ps ws a i with h3 | h3
        · rw [h3]; exact Nat.zero_le _
        · rw [h3]; exact readL_bound ps _ _
      · calc min 1 ws.length * 4 ^ (manyP ps - 1) ≤ 1 * 4 ^ (manyP ps - 1) := Nat.mul_le_mul_right _ (by omega)
          _ = 4 ^ (manyP ps - 1) := Nat.one_mul _
    · rw [if_pos hm, hm]
      by_cases h0 : manyP ps = 0
      · rw [h0]
        refine flat_range_one _ (ws.length - ps.length - 1) _ fun i hi => ?_
        have ih := readL_zero ps (ws.drop (i + 1)) (putP p (ws.take (i + 1)) a) h0
        rcases stepL_le p ps ws a i with h3 | h3
        · rw [h3]; exact ⟨by simp, fun h => absurd rfl h⟩
        · rw [h3]
          refine ⟨ih.1, fun h4 => ?_⟩
          have := ih.2 h4
          rw [List.length_drop] at this
          omega
      · refine Nat.le_trans (flat_range_bound _ (4 ^ (manyP ps - 1)) _ fun i hi => ?_) ?_
        · rcases stepL_le p ps ws a i with h3 | h3
          · rw [h3]; exact Nat.zero_le _
          · rw [h3]; exact readL_bound ps _ _
        · have e : 4 ^ (1 + manyP ps - 1) = 4 * 4 ^ (manyP ps - 1) := by
            obtain ⟨k, hk⟩ : ∃ k, manyP ps = k + 1 := ⟨manyP ps - 1, by omega⟩
            rw [hk, show 1 + (k + 1) - 1 = k + 1 by omega, show k + 1 - 1 = k by omega, Nat.pow_succ]; omega
          rw [e]
          exact Nat.mul_le_mul_right _ (by omega)
/-- The lines together. -/
def manyF (ls : List (List Pt)) : Nat := (ls.map fun l => manyP l - 1).sum
theorem flatMap_bound (f : Ad → List Ad) (B : Nat) (hf : ∀ a, (f a).length ≤ B) : ∀ l : List Ad, (l.flatMap f).length ≤ l.length * B
  | [] => by simp
  | a :: l => by
    rw [List.flatMap_cons, List.length_append, List.length_cons, Nat.add_mul]
    have := flatMap_bound f B hf l
    have := hf a
    omega
theorem readF_bound : ∀ (ls : List (List Pt)) (W : List (List Bs)) (a : Ad), (readF ls W a).length ≤ 4 ^ manyF ls
  | [], [], a => by show [a].length ≤ _; simp [manyF]
  | [], _ :: _, a => Nat.zero_le _
  | _ :: _, [], a => Nat.zero_le _
  | l :: ls, w :: W, a => by
    show ((readL l w a).flatMap (readF ls W)).length ≤ _
    refine Nat.le_trans (flatMap_bound _ (4 ^ manyF ls) (fun a => readF_bound ls W a) _) ?_
    have h1 := readL_bound l w a
    have e : 4 ^ manyF (l :: ls) = 4 ^ (manyP l - 1) * 4 ^ manyF ls := by unfold manyF; rw [List.map_cons, List.sum_cons, Nat.pow_add]
    rw [e]
    exact Nat.mul_le_mul_right _ h1
theorem manyF_le : ∀ (ls : List (List Pt)), manyF ls ≤ manyP ls.flatten - 1 ∧ manyP ls.flatten = (ls.map manyP).sum
  | [] => by simp [manyF, manyP]
  | l :: ls => by
    have ih := manyF_le ls
    have e : manyP (l :: ls).flatten = manyP l + manyP ls.flatten := by unfold manyP; rw [List.flatten_cons, List.filter_append, List.length_append]
    have e2 : manyF (l :: ls) = (manyP l - 1) + manyF ls := by unfold manyF; rw [List.map_cons, List.sum_cons]
    rw [e, e2, List.map_cons, List.sum_cons]
    omega
theorem nodup_three : ∀ (l : List Int), l.Nodup → (∀ x ∈ l, x = 4 ∨ x = 5 ∨ x = 6) → l.length ≤ 3 := by
  intro l hn h
  have h1 : ∀ (v : Int) (m : List Int), m.Nodup → (m.filter fun x => decide (x = v)).length ≤ 1 := by
    intro v m
    induction m with
    | nil => intro _; simp
    | cons x m ih =>
      intro hn
      rw [List.nodup_cons] at hn
      rw [List.filter_cons]
      by_cases hx : x = v
      · rw [if_pos (by simp [hx])]
        have : m.filter (fun x => decide (x = v)) = [] := by
          rw [List.filter_eq_nil_iff]
          intro y hy hyv
          simp at hyv
          exact hn.1 (by rw [hx, ← hyv]; exact hy)
        rw [this]; simp
      · rw [if_neg (by simp [hx])]
        exact ih hn.2
  have h2 : ∀ (m : List Int), (∀ x ∈ m, x = 4 ∨ x = 5 ∨ x = 6) → m.length = (m.filter fun x => decide (x = 4)).length + (m.filter fun x => decide (x = 5)).length + (m.filter fun x => decide (x = 6)).length := by
    intro m
    induction m with
    | nil => intro _; simp
    | cons x m ih =>
      intro h
      have := ih fun y hy => h y (by simp [hy])
      rcases h x (by simp) with rfl | rfl | rfl <;> simp [List.filter_cons] <;> omega
  have := h1 4 l hn
  have := h1 5 l hn
  have := h1 6 l hn
  have := h2 l h
  omega
theorem many_three {l : List Pt} (hg : goodK l) (hn : (kindsR l).Nodup) : manyP l ≤ 3 := by
  have e : manyP l = ((kindsR l).filter fun k => decide (k ≠ 2) && decide (k ≠ 3)).length := by
    unfold manyP kindsR
    rw [List.filter_map, List.length_map, List.filter_filter]
    congr 1
    refine List.filter_congr fun p hp => ?_
    unfold manyB mostP
    rcases hg p hp with h | h | h | h | h | h <;> simp [h]
  rw [e]
  refine nodup_three _ (hn.filter _) fun x hx => ?_
  obtain ⟨h1, h2⟩ := List.mem_filter.1 hx
  unfold kindsR at h1
  obtain ⟨p, hp, rfl⟩ := List.mem_map.1 h1
  obtain ⟨h3, h4⟩ := List.mem_filter.1 hp
  simp at h2 h4
  have := hg p h3
  omega
theorem readF_few {ls : List (List Pt)} (hg : goodK ls.flatten) (hn : (kindsR ls.flatten).Nodup) (W : List (List Bs)) (a : Ad) : (readF ls W a).length ≤ 16 := by
  have h1 := readF_bound ls W a
  have h2 := manyF_le ls
  have h3 := many_three hg hn
  have h4 : 4 ^ manyF ls ≤ 4 ^ 2 := Nat.pow_le_pow_right (by omega) (by omega)
  omega
end Go.Proofs.YtbodeejogdckgaaGreatDoor
