import Derived.Test.YtmhlneeboefkgaaDoorP9
set_option linter.unusedVariables false
set_option linter.unusedSimpArgs false
namespace Go.Proofs.YtmhlneeboefkgaaDoor.Pl
open Go.Av Go.Av.Net
/-! ### Other gaps -/
def gapsL : List Bs := [[32], [10], [9, 13], [37, 10], [32, 37, 32, 108, 105, 110, 101, 32, 34, 120, 34, 32, 36, 10], [37, 37, 13, 10, 32, 32]]
theorem gaps_ok : ∀ G ∈ gapsL, GapOK G := by
  intro G hG
  simp only [gapsL, List.mem_cons, List.not_mem_nil, or_false] at hG
  rcases hG with rfl | rfl | rfl | rfl | rfl | rfl
  all_goals
    refine ⟨fun x => ?_, fun c hc => by cases hc; decide, by simp⟩
    simp [gap, blankB]
    omega
/-- The gap before the token of a number. -/
def gapAt (gaps : List UInt8) (i : Nat) : Bs := gapsL.getD ((match gaps[i]? with | some g => g.toNat | none => i) % 6) []
theorem gapAt_mem (gaps : List UInt8) (i : Nat) : gapAt gaps i ∈ gapsL := by
  unfold gapAt
  generalize (match gaps[i]? with | some g => g.toNat | none => i) = m
  have h : m % 6 < gapsL.length := by show m % 6 < 6; omega
  rw [List.getD, List.getElem?_eq_getElem h]
  exact List.getElem_mem h
/-- The text of tokens with gaps before them, and their offsets, from a number and a place on. -/
def spr (gaps : List UInt8) : Nat → List KT → Bs
  | _, [] => []
  | i, t :: r => gapAt gaps i ++ (srcT t.1 t.2 ++ spr gaps (i + 1) r)
def sprAt (gaps : List UInt8) : Nat → Nat → List KT → List Nat
  | _, _, [] => []
  | i, p, t :: r => (p + (gapAt gaps i).length) :: sprAt gaps (i + 1) (p + (gapAt gaps i).length + (srcT t.1 t.2).length) r
theorem spr_lex (gaps : List UInt8) : ∀ (xs : List KT) (i p : Nat), (∀ t ∈ xs, Good t.1 t.2) → ∃ l, LexR (spr gaps i xs) p l ∧ kts l = xs ∧ l.map (·.pos) = sprAt gaps i p xs
  | [], i, p, _ => ⟨[], .nil rfl, rfl, rfl⟩
  | t :: r, i, p, h => by
    have hG := gaps_ok _ (gapAt_mem gaps i)
    obtain ⟨l, h1, h2, h3⟩ := spr_lex gaps r (i + 1) (p + (gapAt gaps i).length + (srcT t.1 t.2).length) fun x hx => h x (List.mem_cons_of_mem _ hx)
    refine ⟨⟨t.1, t.2, p + (gapAt gaps i).length⟩ :: l, LexR.gapped hG (LexR.tok (h t (List.mem_cons_self ..)) ?_ h1), by simp only [kts, List.map_cons] at h2 ⊢; rw [h2], by simp only [List.map_cons, h3, sprAt]⟩
    cases r with
    | nil => intro c hc; cases hc
    | cons x r =>
      intro c hc
      have hG2 := gaps_ok _ (gapAt_mem gaps (i + 1))
      refine hG2.2.1 c ?_
      unfold spr at hc
      cases hg : gapAt gaps (i + 1) with
      | nil => exact absurd hg hG2.2.2
      | cons a b => rw [hg] at hc; exact hc
/-- The number of an offset among others. -/
def placeI (l : List Int) (x : Int) : Int := match l.findIdx? (fun y => decide (y = x)) with | some i => i | none => if x = -1 then -1 else -2
theorem place_at {l : List Int} (h : l.Pairwise (· < ·)) {i : Nat} (hi : i < l.length) : placeI l l[i] = i := by
  have : l.findIdx? (fun y => decide (y = l[i])) = some i := by
    rw [List.findIdx?_eq_some_iff_getElem]
    refine ⟨hi, by simp, fun j hj => ?_⟩
    have := List.pairwise_iff_getElem.1 h j i (by omega) hi hj
    simp; omega
  unfold placeI; rw [this]
theorem place_m1 {l : List Int} (h : ∀ x ∈ l, 0 ≤ x) : placeI l (-1) = -1 := by
  have : l.findIdx? (fun y => decide (y = -1)) = none := by
    rw [List.findIdx?_eq_none_iff]
    intro x hx
    have := h x hx
    simp; omega
  unfold placeI; rw [this]; rfl
/-- The offsets of tokens, and of the end. -/
def offL (l : List Tok) (len : Nat) : List Int := l.map (fun t => (t.pos : Int)) ++ [(len : Int)]
theorem offL_sorted {s : Bs} {l : List Tok} (h : LexR s 0 l) : (offL l s.length).Pairwise (· < ·) := by
  unfold offL
  rw [List.pairwise_append]
  refine ⟨?_, by simp, fun a ha b hb => ?_⟩
  · rw [List.pairwise_map]
    refine h.pos.2.imp_of_mem fun {a b} ha hb hab => ?_
    have := src_pos h ha
    omega
  · obtain ⟨t, ht, rfl⟩ := List.mem_map.1 ha
    rw [List.mem_singleton.1 hb]
    have := (h.pos.1 t ht).2.1
    have := src_pos h ht
    omega
theorem offL_nn (l : List Tok) (len : Nat) : ∀ x ∈ offL l len, 0 ≤ x := by
  intro x hx
  rcases List.mem_append.1 hx with hx | hx
  · obtain ⟨t, _, rfl⟩ := List.mem_map.1 hx; omega
  · rw [List.mem_singleton.1 hx]; omega
theorem offL_get (l : List Tok) (len i : Nat) : ∃ h : min i l.length < (offL l len).length, (offL l len)[min i l.length] = (offs l len i : Int) := by
  have hl : (offL l len).length = l.length + 1 := by simp [offL]
  refine ⟨by omega, ?_⟩
  unfold offs
  by_cases c : i < l.length
  · rw [List.getElem?_eq_getElem c]
    simp only [Nat.min_eq_left (Nat.le_of_lt c)]
    unfold offL
    rw [List.getElem_append_left (by simpa using c)]
    simp
  · rw [List.getElem?_eq_none (by omega)]
    simp only [Nat.min_eq_right (Nat.le_of_not_lt c)]
    unfold offL
    rw [List.getElem_append_right (by simp)]
    simp
def resErr : Res → Int | .ok _ => 0 | .err e _ => e
def resAt : Res → Int | .ok _ => -1 | .err _ p => p
/-- The text of the tokens with other gaps: the same network, or the same error, at the same token. -/
theorem gaps_parse {s : Bs} {l : List Tok} (gaps : List UInt8) (hl : lexP s = .ok l) (hlen : (spr gaps 0 (kts l)).length ≤ 8000) :
    resErr (parseP (spr gaps 0 (kts l))) = resErr (parseP s) ∧ (∀ n, parseP s = .ok n → parseP (spr gaps 0 (kts l)) = .ok n) ∧ (∀ n, parseP (spr gaps 0 (kts l)) = .ok n → parseP s = .ok n) ∧
    placeI (offL l s.length) (resAt (parseP s)) = placeI ((sprAt gaps 0 0 (kts l)).map (fun x : Nat => (x : Int)) ++ [((spr gaps 0 (kts l)).length : Int)]) (resAt (parseP (spr gaps 0 (kts l)))) ∧ placeI (offL l s.length) (resAt (parseP s)) ≠ -2 := by
  obtain ⟨h1, h2, h3⟩ := lexP_iff.1 hl
  obtain ⟨l2, q1, q2, q3⟩ := spr_lex gaps (kts l) 0 0 (kts_good h3)
  have e : lexP (spr gaps 0 (kts l)) = .ok l2 := lexP_iff.2 ⟨hlen, by have := congrArg List.length q2; simp [kts] at this; omega, q1⟩
  have hll : l2.length = l.length := by have := congrArg List.length q2; simpa [kts] using this
  have eo : (sprAt gaps 0 0 (kts l)).map (fun x : Nat => (x : Int)) ++ [((spr gaps 0 (kts l)).length : Int)] = offL l2 (spr gaps 0 (kts l)).length := by
    unfold offL; rw [← q3]; simp [Function.comp_def]
  rw [eo]
  have s1 := offL_sorted h3
  have s2 := offL_sorted q1
  unfold parseP
  rw [hl, e]
  simp only
  rw [q2]
  cases hq : netP (kts l) with
  | ok n i =>
    simp only [resErr, resAt, true_and]
    refine ⟨fun n h => h, fun n h => h, ?_, ?_⟩
    · rw [place_m1 (offL_nn _ _), place_m1 (offL_nn _ _)]
    · rw [place_m1 (offL_nn _ _)]; decide
  | fail er i =>
    simp only [resErr, resAt, true_and]
    obtain ⟨a1, a2⟩ := offL_get l s.length i
    obtain ⟨b1, b2⟩ := offL_get l2 (spr gaps 0 (kts l)).length i
    have e1 := place_at s1 a1
    have e2 := place_at s2 b1
    rw [a2] at e1
    rw [b2] at e2
    refine ⟨fun n h => (by cases h), fun n h => (by cases h), ?_, ?_⟩
    · rw [e1, e2, hll]
    · rw [e1]; omega
end Go.Proofs.YtmhlneeboefkgaaDoor.Pl
