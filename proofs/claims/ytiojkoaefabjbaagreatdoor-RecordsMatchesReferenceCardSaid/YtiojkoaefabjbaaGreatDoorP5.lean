/-
  Neighbours that are equal, in the order in which the program looks at them.
-/
import Derived.Test.YtiojkoaefabjbaaGreatDoorP4
set_option linter.unusedVariables false
set_option linter.unusedSimpArgs false
namespace Go.Proofs.YtiojkoaefabjbaaGreatDoor
open Go.Av Pl
def tailC (x : Rc) : List Rc → List Rc
  | [] => []
  | y :: r => if cmpR y x = 0 then tailC y r else y :: tailC y r
theorem tailC_cons (x y : Rc) (r : List Rc) : tailC x (y :: r) = if cmpR y x = 0 then tailC y r else y :: tailC y r := rfl
theorem compact_tail : ∀ (r : List Rc) (x : Rc), compactC cmpR (x :: r) = x :: tailC x r
  | [], x => by simp [compactC, tailC]
  | y :: r, x => by
    unfold compactC tailC
    split
    · rename_i h
      have h := (cmpR_ok.eq0 y x).1 h
      subst h
      exact compact_tail r y
    · rw [compact_tail r y]
theorem tailC_len : ∀ (r : List Rc) (x : Rc), (tailC x r).length ≤ r.length
  | [], x => Nat.le_refl _
  | y :: r, x => by
    rw [tailC_cons]
    have := tailC_len r y
    split <;> simp <;> omega
theorem compact_len (l : List Rc) : (compactC cmpR l).length ≤ l.length := by
  cases l with
  | nil => simp [compactC]
  | cons x r => rw [compact_tail]; have := tailC_len r x; simp; omega
/-- The array while neighbours are dropped: what is kept, what is left over, what is still to be looked at (from place p on). -/
structure CmpSt (l : List Rc) (kept g : List Rc) (p : Nat) : Prop where
  lt : p < l.length
  len : kept.length + g.length = p
  kept : ∀ h : p < l.length, compactC cmpR l = kept ++ tailC l[p] (l.drop (p + 1))
def arrC (l kept g : List Rc) (p : Nat) : List Rc := kept ++ g ++ l.drop p
theorem arrC_get {l kept g : List Rc} {p : Nat} (h : CmpSt l kept g p) (i : Nat) (hi : p ≤ i) (hl : i < l.length) : (rv (arrC l kept g p))[i]? = some (l[i]).v := by
  have := h.len
  simp only [rv, arrC, List.map_append, List.append_assoc]
  rw [List.getElem?_append_right (by simp; omega), List.getElem?_append_right (by simp; omega)]
  simp only [List.length_map, List.getElem?_map, List.getElem?_drop]
  rw [show p + (i - kept.length - g.length) = i by omega, List.getElem?_eq_getElem hl]
  rfl
theorem arrC_len {l kept g : List Rc} {p : Nat} (h : CmpSt l kept g p) : (arrC l kept g p).length = l.length := by
  have := h.len; have := h.lt
  simp [arrC]; omega
theorem cmpSt_eq {l kept g : List Rc} {p : Nat} (h : CmpSt l kept g p) (hp : p + 1 < l.length) (he : cmpR l[p + 1] (l[p]'h.lt) = 0) : CmpSt l kept (g ++ [l[p]'h.lt]) (p + 1) ∧ arrC l kept (g ++ [l[p]'h.lt]) (p + 1) = arrC l kept g p := by
  have := h.len
  refine ⟨⟨hp, by simp; omega, fun _ => ?_⟩, ?_⟩
  · rw [h.kept h.lt, List.drop_eq_getElem_cons hp, tailC_cons, if_pos he]
  · unfold arrC
    rw [List.drop_eq_getElem_cons h.lt]
    simp
theorem cmpSt_ne {l kept g : List Rc} {p : Nat} (h : CmpSt l kept g p) (hp : p + 1 < l.length) (he : ¬ cmpR l[p + 1] (l[p]'h.lt) = 0) : CmpSt l (kept ++ [l[p + 1]]) ((g ++ [l[p]'h.lt]).tail) (p + 1) ∧ rv (arrC l (kept ++ [l[p + 1]]) ((g ++ [l[p]'h.lt]).tail) (p + 1)) = (rv (arrC l kept g p)).set kept.length l[p + 1].v := by
  have := h.len
  refine ⟨⟨hp, by simp; omega, fun _ => ?_⟩, ?_⟩
  · rw [h.kept h.lt, List.drop_eq_getElem_cons hp, tailC_cons, if_neg he]
    simp
  · unfold arrC
    rw [List.drop_eq_getElem_cons h.lt]
    cases g with
    | nil =>
      simp only [rv, List.map_append, List.map_cons, List.append_nil, List.nil_append, List.tail_cons, List.map_nil, List.append_assoc]
      rw [List.set_append_right (h := by simp)]
      simp
    | cons x g =>
      simp [rv, List.set_append_right]
theorem cmpSt_end {l kept g : List Rc} {p : Nat} (h : CmpSt l kept g p) (hp : p + 1 = l.length) : compactC cmpR l = kept := by
  rw [h.kept h.lt, List.drop_eq_nil_of_le (by omega)]
  simp [tailC]
theorem cmpSt_start {l : List Rc} (h : 0 < l.length) : CmpSt l [l[0]] [] 0 → False := fun k => by have := k.len; simp at this
/-- No two neighbours have been equal so far. -/
structure CmpS0 (l : List Rc) (k : Nat) : Prop where
  k1 : 1 ≤ k
  k2 : k ≤ l.length
  kept : ∀ h : k - 1 < l.length, compactC cmpR l = l.take k ++ tailC l[k - 1] (l.drop k)
theorem cmpS0_start {l : List Rc} (h : 1 ≤ l.length) : CmpS0 l 1 := by
  refine ⟨Nat.le_refl _, h, fun _ => ?_⟩
  cases l with
  | nil => simp at h
  | cons x r => simpa using compact_tail r x
theorem cmpS0_ne {l : List Rc} {m : Nat} (h : CmpS0 l (m + 1)) (hk : m + 1 < l.length) (he : ¬ cmpR l[m + 1] l[m] = 0) : CmpS0 l (m + 2) := by
  refine ⟨by omega, by omega, fun _ => ?_⟩
  have h1 := h.kept (by omega)
  simp only [Nat.add_sub_cancel] at h1
  rw [List.drop_eq_getElem_cons hk] at h1
  rw [tailC_cons, if_neg he] at h1
  rw [h1, show l.take (m + 2) = l.take (m + 1) ++ [l[m + 1]] from List.take_succ_eq_append_getElem hk, List.append_assoc]
  rfl
theorem cmpS0_eq {l : List Rc} {m : Nat} (h : CmpS0 l (m + 1)) (hk : m + 1 < l.length) (he : cmpR l[m + 1] l[m] = 0) : CmpSt l (l.take (m + 1)) [] (m + 1) := by
  refine ⟨hk, by simp; omega, fun _ => ?_⟩
  have h1 := h.kept (by omega)
  simp only [Nat.add_sub_cancel] at h1
  rw [List.drop_eq_getElem_cons hk] at h1
  rw [tailC_cons, if_pos he] at h1
  exact h1
theorem cmpS0_end {l : List Rc} {k : Nat} (h : CmpS0 l k) (hk : k = l.length) : compactC cmpR l = l := by
  subst hk
  have := h.k1
  rw [h.kept (by omega)]
  simp [tailC]
end Go.Proofs.YtiojkoaefabjbaaGreatDoor
