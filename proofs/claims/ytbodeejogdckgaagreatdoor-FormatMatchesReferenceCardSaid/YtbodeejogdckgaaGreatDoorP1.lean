/-
  Words of a line: what lies between blanks and tabs.
-/
import Derived.Lib.FieldsP
import Derived.Lib.DecodeN
set_option linter.unusedVariables false
set_option linter.unusedSimpArgs false
namespace Go.Proofs.YtbodeejogdckgaaGreatDoor
namespace Pl
abbrev Bs := List UInt8
def blankB (c : UInt8) : Bool := decide (c.toNat = 32) || decide (c.toNat = 9)
def wsGo : Bs → Bs → List Bs
  | cur, [] => if cur = [] then [] else [cur]
  | cur, c :: r => if blankB c then (if cur = [] then wsGo [] r else cur :: wsGo [] r) else wsGo (cur ++ [c]) r
def wordsW (s : Bs) : List Bs := wsGo [] s
theorem wsGo_skip : ∀ (x cur r : Bs), (∀ c ∈ x, blankB c = false) → wsGo cur (x ++ r) = wsGo (cur ++ x) r
  | [], cur, r, _ => by simp
  | c :: x, cur, r, h => by
    have hc := h c (by simp)
    rw [List.cons_append, wsGo, if_neg (by simp [hc]), wsGo_skip x (cur ++ [c]) r fun d hd => h d (by simp [hd])]
    simp
def blankN (n : Nat) : Bool := decide (n = 32) || decide (n = 9)
/-- A rune that is no blank takes no blank bytes. -/
theorem rune_bytes (s : ByteArray) (pos : Nat) (hp : pos < s.size) : 1 ≤ (Utf8.decode s pos).2 ∧ pos + (Utf8.decode s pos).2 ≤ s.size ∧
    ((blankN (Utf8.decode s pos).1 = true ∧ (Utf8.decode s pos).2 = 1 ∧ blankB (s.get! pos) = true) ∨ (blankN (Utf8.decode s pos).1 = false ∧ ∀ j, j < (Utf8.decode s pos).2 → blankB (s.get! (pos + j)) = false)) := by
  rw [Lib.decode_at]
  generalize hb0 : (s.get! pos).toNat = b0
  generalize hb1 : (s.get! (pos + 1)).toNat = b1
  generalize hb2 : (s.get! (pos + 2)).toNat = b2
  generalize hb3 : (s.get! (pos + 3)).toNat = b3
  have g0 : ∀ n, (s.get! (pos + 0)).toNat = n → n = b0 := fun n h => by rw [Nat.add_zero, hb0] at h; exact h.symm
  have nb : ∀ (c : UInt8), 64 ≤ c.toNat → blankB c = false := fun c h => by unfold blankB; simp; omega
  unfold Lib.decodeN
  split
  · rename_i h0
    refine ⟨Nat.le_refl _, by simp only; omega, ?_⟩
    by_cases hbl : blankN b0 = true
    · refine .inl ⟨hbl, rfl, ?_⟩
      unfold blankN at hbl; unfold blankB; rw [hb0]; exact hbl
    · refine .inr ⟨by simpa using hbl, fun j hj => ?_⟩
      have : j = 0 := by simp only at hj; omega
      subst this
      unfold blankN at hbl; unfold blankB; rw [Nat.add_zero, hb0]; simpa using hbl
  · rename_i h0
    have one : (1 : Nat) ≤ 1 ∧ pos + 1 ≤ s.size ∧ ((blankN 65533 = true ∧ (1 : Nat) = 1 ∧ blankB (s.get! pos) = true) ∨ (blankN 65533 = false ∧ ∀ j, j < 1 → blankB (s.get! (pos + j)) = false)) := by
      refine ⟨Nat.le_refl _, by omega, .inr ⟨by decide, fun j hj => ?_⟩⟩
      have : j = 0 := by omega
      subst this
      exact nb _ (by rw [Nat.add_zero, hb0]; omega)
    split
    · rename_i h1
      split
      · refine ⟨by simp, by simp only; omega, .inr ⟨by unfold blankN; simp; omega, fun j hj => ?_⟩⟩
        have : j = 0 ∨ j = 1 := by simp only at hj; omega
        rcases this with rfl | rfl
        · exact nb _ (by rw [Nat.add_zero, hb0]; omega)
        · exact nb _ (by rw [hb1]; omega)
      · exact one
    · split
      · rename_i h1
        split
        · refine ⟨by simp, by simp only; omega, .inr ⟨by unfold blankN; simp; omega, fun j hj => ?_⟩⟩
          have : j = 0 ∨ j = 1 ∨ j = 2 := by simp only at hj; omega
          rcases this with rfl | rfl | rfl
          · exact nb _ (by rw [Nat.add_zero, hb0]; omega)
          · exact nb _ (by rw [hb1]; omega)
          · exact nb _ (by rw [hb2]; omega)
        · exact one
      · split
        · rename_i h1
          split
          · refine ⟨by simp, by simp only; omega, .inr ⟨by unfold blankN; simp; omega, fun j hj => ?_⟩⟩
            have : j = 0 ∨ j = 1 ∨ j = 2 ∨ j = 3 := by simp only at hj; omega
            rcases this with rfl | rfl | rfl | rfl
            · exact nb _ (by rw [Nat.add_zero, hb0]; omega)
            · exact nb _ (by rw [hb1]; omega)
            · exact nb _ (by rw [hb2]; omega)
            · exact nb _ (by rw [hb3]; omega)
          · exact one
        · exact one
theorem get_list (s : ByteArray) (i : Nat) (h : i < s.size) : s.data.toList[i]? = some (s.get! i) := by
  have h' : i < s.data.size := h
  rw [Array.getElem?_toList, Array.getElem?_eq_getElem h']
  congr 1
  show s.data[i] = s.data[i]!
  rw [getElem!_pos s.data i h']
def pieceB (l : Bs) (x : Nat × Nat) : Bs := (l.drop x.1).take (x.2 - x.1)
theorem piece_grow (l : Bs) (a pos k : Nat) (h : a ≤ pos) : pieceB l (a, pos) ++ (l.drop pos).take k = pieceB l (a, pos + k) := by
  unfold pieceB
  simp only
  rw [show pos + k - a = (pos - a) + k by omega, List.take_add, List.drop_drop, show a + (pos - a) = pos by omega]
theorem piece_ne (l : Bs) (a pos : Nat) (h : a < pos) (hp : pos ≤ l.length) : pieceB l (a, pos) ≠ [] := by
  unfold pieceB
  intro hc
  have := congrArg List.length hc
  simp at this
  omega
def openB (l : Bs) (st : Option Nat) (pos : Nat) : Bs := match st with | some a => pieceB l (a, pos) | none => []
theorem spans_words (s : ByteArray) : ∀ (f pos : Nat) (st : Option Nat) (acc : List (Nat × Nat)), s.size ≤ pos + f → pos ≤ s.size → (∀ a, st = some a → a < pos) →
    (Lib.closeSpans s (Lib.spansFromP blankN s f pos st acc)).map (pieceB s.data.toList) = acc.map (pieceB s.data.toList) ++ wsGo (openB s.data.toList st pos) (s.data.toList.drop pos) := by
  have hlen : s.data.toList.length = s.size := Array.length_toList
  intro f
  induction f with
  | zero =>
    intro pos st acc h1 h2 h3
    have hp : pos = s.size := by omega
    subst hp
    unfold Lib.spansFromP Lib.closeSpans
    rw [List.drop_eq_nil_of_le (by omega)]
    cases st with
    | none => simp [openB, wsGo]
    | some a =>
      have := piece_ne s.data.toList a s.size (h3 a rfl) (by omega)
      simp [openB, wsGo, this]
  | succ f ih =>
    intro pos st acc h1 h2 h3
    by_cases hp : pos < s.size
    · obtain ⟨k1, k2, k3⟩ := rune_bytes s pos hp
      unfold Lib.spansFromP
      rw [if_pos hp]
      generalize Utf8.decode s pos = d at *
      obtain ⟨r, k⟩ := d
      simp only at k1 k2 k3 ⊢
      rcases k3 with ⟨hb, rfl, hbb⟩ | ⟨hb, hbb⟩
      · rw [if_pos hb]
        have hd : s.data.toList.drop pos = s.get! pos :: s.data.toList.drop (pos + 1) := by
          have h' : pos < s.data.toList.length := by omega
          rw [List.drop_eq_getElem_cons h']
          have := get_list s pos hp
          rw [List.getElem?_eq_getElem h'] at this
          injection this with this
          rw [this]
        rw [hd, wsGo, if_pos hbb]
        cases st with
        | none => simp only; rw [ih (pos + 1) none acc (by omega) (by omega) (by simp)]; simp [openB]
        | some a =>
          simp only
          rw [ih (pos + 1) none _ (by omega) (by omega) (by simp)]
          have := piece_ne s.data.toList a pos (h3 a rfl) (by omega)
          simp [openB, this]
      · rw [if_neg (by simp [hb])]
        have hd : s.data.toList.drop pos = (s.data.toList.drop pos).take k ++ s.data.toList.drop (pos + k) := by
          rw [← List.drop_drop, List.take_append_drop]
        have hnb : ∀ c ∈ (s.data.toList.drop pos).take k, blankB c = false := by
          intro c hc
          obtain ⟨j, hj, rfl⟩ := List.getElem_of_mem hc
          simp only [List.length_take, List.length_drop] at hj
          have hjk : j < k := by omega
          have := get_list s (pos + j) (by omega)
          rw [List.getElem_take, List.getElem_drop]
          rw [List.getElem?_eq_getElem (by omega)] at this
          injection this with this
          rw [this]
          exact hbb j hjk
        rw [hd, wsGo_skip _ _ _ hnb]
        cases st with
        | none =>
          simp only
          rw [ih (pos + k) (some pos) acc (by omega) (by omega) (by intro a ha; injection ha with ha; omega)]
          simp only [openB, List.nil_append]
          unfold pieceB
          simp only [Nat.add_sub_cancel_left]
        | some a =>
          simp only
          rw [ih (pos + k) (some a) acc (by omega) (by omega) (by intro b hb; injection hb with hb; have := h3 a rfl; omega)]
          simp only [openB]
          rw [piece_grow _ _ _ _ (Nat.le_of_lt (h3 a rfl))]
    · have hp : pos = s.size := by omega
      subst hp
      rw [Lib.spansFromP_end _ _ _ _ _ _ (by omega)]
      unfold Lib.closeSpans
      rw [List.drop_eq_nil_of_le (by omega)]
      cases st with
      | none => simp [openB, wsGo]
      | some a =>
        have := piece_ne s.data.toList a s.size (h3 a rfl) (by omega)
        simp [openB, wsGo, this]
/-- strings.FieldsFunc at blanks and tabs. -/
theorem fields_words (s : ByteArray) : (Lib.goFieldsP blankN s).map (fun x => x.data.toList) = wordsW s.data.toList := by
  unfold Lib.goFieldsP Lib.spansOfP wordsW
  have h := spans_words s s.size 0 none [] (by omega) (by omega) (by simp)
  simp only [List.map_nil, List.nil_append, List.drop_zero, openB] at h
  rw [← h, List.map_map]
  refine List.map_congr_left fun x _ => ?_
  simp only [Function.comp]
  unfold pieceB
  rw [ByteArray.data_extract]
  simp
end Pl
end Go.Proofs.YtbodeejogdckgaaGreatDoor
