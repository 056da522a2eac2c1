/-
  Comparisons that are total orders; lists in strictly increasing order.
-/
import Derived.Test.YtiojkoaefabjbaaGreatDoorKf
set_option linter.unusedVariables false
set_option linter.unusedSimpArgs false
namespace Go.Proofs.YtiojkoaefabjbaaGreatDoor.Pl
open Go.Av

structure CmpOK {α : Type} (c : α → α → Int) : Prop where
  rng : ∀ x y, c x y = -1 ∨ c x y = 0 ∨ c x y = 1
  anti : ∀ x y, c y x = - c x y
  eq0 : ∀ x y, c x y = 0 ↔ x = y
  tr : ∀ x y z, c x y = -1 → c y z = -1 → c x z = -1
def cmpI (m n : Int) : Int := if m < n then -1 else if n < m then 1 else 0
def cmpS (p q : List UInt8) : Int := if Op.bytesLess p q then -1 else if Op.bytesLess q p then 1 else 0
def lexC {α β : Type} (c : α → α → Int) (d : β → β → Int) (x y : α × β) : Int := if c x.1 y.1 ≠ 0 then c x.1 y.1 else d x.2 y.2
def listC {α : Type} (c : α → α → Int) : List α → List α → Int
  | [], [] => 0
  | [], _ :: _ => -1
  | _ :: _, [] => 1
  | x :: xs, y :: ys => if c x y ≠ 0 then c x y else listC c xs ys

theorem cmpI_ok : CmpOK cmpI := by
  refine ⟨fun x y => ?_, fun x y => ?_, fun x y => ?_, fun x y z => ?_⟩ <;> unfold cmpI <;> (repeat' split) <;> omega
theorem less_irr : ∀ p : List UInt8, Op.bytesLess p p = false
  | [] => rfl
  | a :: p => by simp [Op.bytesLess, less_irr p]
theorem less_asymm : ∀ p q : List UInt8, Op.bytesLess p q = true → Op.bytesLess q p = false
  | [], [], h => by cases h
  | [], _ :: _, _ => rfl
  | _ :: _, [], h => by cases h
  | a :: p, b :: q, h => by
    simp only [Op.bytesLess, Bool.or_eq_true, Bool.and_eq_true, decide_eq_true_eq, beq_iff_eq] at h
    simp only [Op.bytesLess, Bool.or_eq_false_iff, Bool.and_eq_false_iff, decide_eq_false_iff_not]
    rcases h with h | ⟨rfl, h⟩
    · exact ⟨fun k => absurd h (by have := UInt8.lt_iff_toNat_lt.1 h; have := UInt8.lt_iff_toNat_lt.1 k; omega), .inl (by simp; rintro rfl; exact UInt8.lt_irrefl _ h)⟩
    · exact ⟨UInt8.lt_irrefl _, .inr (less_asymm p q h)⟩
theorem less_tri : ∀ p q : List UInt8, Op.bytesLess p q = false → Op.bytesLess q p = false → p = q
  | [], [], _, _ => rfl
  | [], _ :: _, h, _ => by cases h
  | _ :: _, [], _, h => by cases h
  | a :: p, b :: q, h, k => by
    simp only [Op.bytesLess, Bool.or_eq_false_iff, Bool.and_eq_false_iff, decide_eq_false_iff_not] at h k
    have e : a = b := by
      apply UInt8.toNat_inj.1
      have h1 := mt UInt8.lt_iff_toNat_lt.2 h.1
      have h2 := mt UInt8.lt_iff_toNat_lt.2 k.1
      omega
    subst e
    have h2 := h.2
    have k2 := k.2
    simp at h2 k2
    rw [less_tri p q h2 k2]
theorem less_trans : ∀ p q r : List UInt8, Op.bytesLess p q = true → Op.bytesLess q r = true → Op.bytesLess p r = true
  | _, _, [], _, k => by simp [Op.bytesLess] at k
  | _, [], _ :: _, h, _ => by simp [Op.bytesLess] at h
  | [], _ :: _, _ :: _, _, _ => rfl
  | a :: p, b :: q, c :: r, h, k => by
    simp only [Op.bytesLess, Bool.or_eq_true, Bool.and_eq_true, decide_eq_true_eq, beq_iff_eq] at h k ⊢
    rcases h with h | ⟨rfl, h⟩
    · rcases k with k | ⟨rfl, k⟩
      · exact .inl (UInt8.lt_trans h k)
      · exact .inl h
    · rcases k with k | ⟨rfl, k⟩
      · exact .inl k
      · exact .inr ⟨rfl, less_trans p q r h k⟩
theorem cmpS_ok : CmpOK cmpS := by
  refine ⟨fun x y => ?_, fun x y => ?_, fun x y => ?_, fun x y z => ?_⟩
  · unfold cmpS; repeat' split
    all_goals omega
  · unfold cmpS
    cases h : Op.bytesLess x y with
    | true => simp [less_asymm x y h]
    | false => cases k : Op.bytesLess y x <;> simp
  · unfold cmpS
    constructor
    · intro h
      cases h1 : Op.bytesLess x y with
      | true => simp [h1] at h
      | false =>
        cases h2 : Op.bytesLess y x with
        | true => simp [h1, h2] at h
        | false => exact less_tri x y h1 h2
    · rintro rfl; simp [less_irr]
  · unfold cmpS
    intro h k
    have h1 : Op.bytesLess x y = true := by
      cases h1 : Op.bytesLess x y with
      | true => rfl
      | false => rw [h1] at h; simp at h; split at h <;> omega
    have h2 : Op.bytesLess y z = true := by
      cases h2 : Op.bytesLess y z with
      | true => rfl
      | false => rw [h2] at k; simp at k; split at k <;> omega
    simp [less_trans x y z h1 h2]
theorem CmpOK.self {α : Type} {c : α → α → Int} (h : CmpOK c) (x : α) : c x x = 0 := (h.eq0 x x).2 rfl
theorem CmpOK.pos {α : Type} {c : α → α → Int} (h : CmpOK c) {x y : α} (k : c x y = 1) : c y x = -1 := by rw [h.anti, k]
theorem CmpOK.lex {α β : Type} {c : α → α → Int} {d : β → β → Int} (h : CmpOK c) (k : CmpOK d) : CmpOK (lexC c d) := by
  refine ⟨fun x y => ?_, fun x y => ?_, fun x y => ?_, fun x y z => ?_⟩
  · unfold lexC
    split
    · exact h.rng _ _
    · exact k.rng _ _
  · unfold lexC
    rw [h.anti x.1 y.1]
    by_cases e : c x.1 y.1 = 0
    · simp [e, k.anti x.2 y.2]
    · simp [e]
  · unfold lexC
    obtain ⟨x1, x2⟩ := x
    obtain ⟨y1, y2⟩ := y
    simp only [Prod.mk.injEq]
    by_cases e : c x1 y1 = 0
    · have e1 := (h.eq0 x1 y1).1 e
      subst e1
      simp [e, k.eq0]
    · simp only [e, ne_eq, not_false_eq_true, if_true, false_iff]
      rintro ⟨rfl, _⟩
      exact e (h.self x1)
  · unfold lexC
    obtain ⟨x1, x2⟩ := x
    obtain ⟨y1, y2⟩ := y
    obtain ⟨z1, z2⟩ := z
    simp only
    intro p q
    by_cases e : c x1 y1 = 0
    · have := (h.eq0 x1 y1).1 e
      subst this
      simp only [e, ne_eq, not_true_eq_false, if_false] at p
      by_cases e' : c x1 z1 = 0
      · simp only [e', ne_eq, not_true_eq_false, if_false] at q ⊢
        exact k.tr _ _ _ p q
      · simp only [e', ne_eq, not_false_eq_true, if_true] at q ⊢
        exact q
    · simp only [e, ne_eq, not_false_eq_true, if_true] at p
      by_cases e' : c y1 z1 = 0
      · have := (h.eq0 y1 z1).1 e'
        subst this
        simp [p]
      · simp only [e', ne_eq, not_false_eq_true, if_true] at q
        have := h.tr _ _ _ p q
        simp [this]
theorem CmpOK.pull {α β : Type} {c : β → β → Int} (h : CmpOK c) (f : α → β) (hf : ∀ x y, f x = f y → x = y) : CmpOK (fun x y => c (f x) (f y)) :=
  ⟨fun x y => h.rng _ _, fun x y => h.anti _ _, fun x y => ⟨fun k => hf _ _ ((h.eq0 _ _).1 k), fun k => by subst k; exact h.self _⟩, fun x y z => h.tr _ _ _⟩
theorem listC_rng {α : Type} {c : α → α → Int} (h : CmpOK c) : ∀ xs ys : List α, listC c xs ys = -1 ∨ listC c xs ys = 0 ∨ listC c xs ys = 1
  | [], [] => .inr (.inl rfl)
  | [], _ :: _ => .inl rfl
  | _ :: _, [] => .inr (.inr rfl)
  | x :: xs, y :: ys => by
    unfold listC
    split
    · exact h.rng _ _
    · exact listC_rng h xs ys
theorem listC_anti {α : Type} {c : α → α → Int} (h : CmpOK c) : ∀ xs ys : List α, listC c ys xs = - listC c xs ys
  | [], [] => rfl
  | [], _ :: _ => rfl
  | _ :: _, [] => rfl
  | x :: xs, y :: ys => by
    unfold listC
    rw [h.anti x y]
    by_cases e : c x y = 0
    · simp [e, listC_anti h xs ys]
    · simp [e]
theorem listC_eq0 {α : Type} {c : α → α → Int} (h : CmpOK c) : ∀ xs ys : List α, listC c xs ys = 0 ↔ xs = ys
  | [], [] => by simp [listC]
  | [], _ :: _ => by simp [listC]
  | _ :: _, [] => by simp [listC]
  | x :: xs, y :: ys => by
    unfold listC
    by_cases e : c x y = 0
    · have e1 := (h.eq0 x y).1 e
      subst e1
      simp [e, listC_eq0 h xs ys]
    · simp only [e, ne_eq, not_false_eq_true, if_true, false_iff, List.cons.injEq]
      rintro ⟨rfl, _⟩
      exact e (h.self x)
theorem listC_tr {α : Type} {c : α → α → Int} (h : CmpOK c) : ∀ xs ys zs : List α, listC c xs ys = -1 → listC c ys zs = -1 → listC c xs zs = -1
  | [], _, [], p, q => by
    rename_i ys
    cases ys with
    | nil => cases p
    | cons _ _ => cases q
  | [], _, _ :: _, _, _ => rfl
  | _ :: _, [], _, p, _ => by cases p
  | _ :: _, _ :: _, [], _, q => by cases q
  | x :: xs, y :: ys, z :: zs, p, q => by
    unfold listC at p q ⊢
    by_cases e : c x y = 0
    · have := (h.eq0 x y).1 e
      subst this
      simp only [e, ne_eq, not_true_eq_false, if_false] at p
      by_cases e' : c x z = 0
      · simp only [e', ne_eq, not_true_eq_false, if_false] at q ⊢
        exact listC_tr h _ _ _ p q
      · simp only [e', ne_eq, not_false_eq_true, if_true] at q ⊢
        exact q
    · simp only [e, ne_eq, not_false_eq_true, if_true] at p
      by_cases e' : c y z = 0
      · have := (h.eq0 y z).1 e'
        subst this
        simp [p]
      · simp only [e', ne_eq, not_false_eq_true, if_true] at q
        have := h.tr _ _ _ p q
        simp [this]
theorem listC_ok {α : Type} {c : α → α → Int} (h : CmpOK c) : CmpOK (listC c) := ⟨listC_rng h, listC_anti h, listC_eq0 h, listC_tr h⟩

/-- In strictly increasing order. -/
def Strict {α : Type} (c : α → α → Int) (l : List α) : Prop := l.Pairwise fun x y => c x y = -1
theorem strict_unique {α : Type} {c : α → α → Int} (h : CmpOK c) : ∀ xs ys : List α, Strict c xs → Strict c ys → (∀ r, r ∈ xs ↔ r ∈ ys) → xs = ys
  | [], [], _, _, _ => rfl
  | [], y :: ys, _, _, k => by have := (k y).2 (by simp); simp at this
  | x :: xs, [], _, _, k => by have := (k x).1 (by simp); simp at this
  | x :: xs, y :: ys, sx, sy, k => by
    obtain ⟨sx1, sx2⟩ := List.pairwise_cons.1 sx
    obtain ⟨sy1, sy2⟩ := List.pairwise_cons.1 sy
    have e : x = y := by
      rcases List.mem_cons.1 ((k x).1 (by simp)) with e | hx
      · exact e
      · rcases List.mem_cons.1 ((k y).2 (by simp)) with e | hy
        · exact e.symm
        · have h1 := sx1 y hy
          have h2 := sy1 x hx
          rw [h.anti, h1] at h2
          omega
    subst e
    have nx : ∀ z ∈ xs, z ≠ x := fun z hz e => by subst e; have := sx1 _ hz; rw [h.self] at this; omega
    have ny : ∀ z ∈ ys, z ≠ x := fun z hz e => by subst e; have := sy1 _ hz; rw [h.self] at this; omega
    rw [strict_unique h xs ys sx2 sy2 fun r => ⟨fun hr => ?_, fun hr => ?_⟩]
    · rcases List.mem_cons.1 ((k r).1 (List.mem_cons_of_mem _ hr)) with e | hr'
      · exact absurd e (nx r hr)
      · exact hr'
    · rcases List.mem_cons.1 ((k r).2 (List.mem_cons_of_mem _ hr)) with e | hr'
      · exact absurd e (ny r hr)
      · exact hr'
/-- Neighbours that are equal count once. -/
def compactC {α : Type} (c : α → α → Int) : List α → List α
  | [] => []
  | [x] => [x]
  | x :: y :: r => if c y x = 0 then compactC c (x :: r) else x :: compactC c (y :: r)
termination_by l => l.length
def Sorted {α : Type} (c : α → α → Int) (l : List α) : Prop := l.Pairwise fun x y => c x y ≤ 0
theorem compact_mem {α : Type} {c : α → α → Int} (h : CmpOK c) : ∀ l : List α, ∀ r, r ∈ compactC c l ↔ r ∈ l
  | [], r => by simp [compactC]
  | [x], r => by simp [compactC]
  | x :: y :: l, r => by
    unfold compactC
    split
    · rename_i e
      have e := (h.eq0 y x).1 e
      subst e
      rw [compact_mem h (y :: l) r]
      simp
    · rw [List.mem_cons, compact_mem h (y :: l) r]
      simp
termination_by l => l.length
theorem compact_strict {α : Type} {c : α → α → Int} (h : CmpOK c) : ∀ l : List α, Sorted c l → Strict c (compactC c l)
  | [], _ => by simp [compactC, Strict]
  | [x], _ => by simp [compactC, Strict]
  | x :: y :: l, s => by
    obtain ⟨s1, s2⟩ := List.pairwise_cons.1 s
    unfold compactC
    split
    · exact compact_strict h (x :: l) (List.pairwise_cons.2 ⟨fun z hz => s1 z (List.mem_cons_of_mem _ hz), (List.pairwise_cons.1 s2).2⟩)
    · rename_i e
      refine List.pairwise_cons.2 ⟨fun z hz => ?_, compact_strict h (y :: l) s2⟩
      rw [compact_mem h] at hz
      have hxy : c x y = -1 := by
        have := s1 y (by simp)
        rcases h.rng x y with k | k | k
        · exact k
        · exact absurd (by rw [h.anti, k]; rfl) e
        · omega
      rcases List.mem_cons.1 hz with rfl | hz
      · exact hxy
      · have hyz := (List.pairwise_cons.1 s2).1 z hz
        rcases h.rng y z with k | k | k
        · exact h.tr _ _ _ hxy k
        · have := (h.eq0 y z).1 k
          subst this
          exact hxy
        · omega
termination_by l => l.length
end Go.Proofs.YtiojkoaefabjbaaGreatDoor.Pl
