/-
  Normal as a function.
-/
import Derived.Test.YtiojkoaefabjbaaGreatDoorL4
import Derived.Test.YtiojkoaefabjbaaGreatDoorAv53
set_option linter.unusedVariables false
set_option linter.unusedSimpArgs false
namespace Go.Proofs.YtiojkoaefabjbaaGreatDoor
open Go.Av Go.Shelf Pl Go.RowKit
def insP (x : Rc) : List Rc → List Rc
  | [] => [x]
  | y :: l => if cmpR x y = -1 then x :: y :: l else if cmpR x y = 0 then y :: l else y :: insP x l
theorem insP_mem (x : Rc) : ∀ (l : List Rc) (z : Rc), z ∈ insP x l ↔ z = x ∨ z ∈ l
  | [], z => by simp [insP]
  | y :: l, z => by
    unfold insP
    split
    · simp
    · split
      · rename_i h
        rw [(cmpR_ok.eq0 _ _).1 h]
        simp
      · rw [List.mem_cons, insP_mem x l z, List.mem_cons]
        constructor
        · rintro (h | h | h)
          · exact .inr (.inl h)
          · exact .inl h
          · exact .inr (.inr h)
        · rintro (h | h | h)
          · exact .inr (.inl h)
          · exact .inl h
          · exact .inr (.inr h)
theorem insP_strict (x : Rc) : ∀ (l : List Rc), Strict cmpR l → Strict cmpR (insP x l)
  | [], _ => List.pairwise_singleton _ _
  | y :: l, h => by
    obtain ⟨h1, h2⟩ := List.pairwise_cons.1 h
    unfold insP
    split
    · rename_i hx
      refine List.pairwise_cons.2 ⟨fun z hz => ?_, h⟩
      rcases List.mem_cons.1 hz with rfl | hz
      · exact hx
      · exact cmpR_ok.tr _ _ _ hx (h1 z hz)
    · split
      · exact h
      · rename_i n1 n0
        refine List.pairwise_cons.2 ⟨fun z hz => ?_, insP_strict x l h2⟩
        rcases (insP_mem x l z).1 hz with rfl | hz
        · have a := cmpR_ok.anti z y
          have b := cmpR_ok.rng z y
          omega
        · exact h1 z hz
def normF (l : List Sn) (r : List Rc) : List Rc := (r.filter (validB l ·)).foldr insP []
theorem normF_ok (l : List Sn) (r : List Rc) : NormR l r (normF l r) := by
  unfold normF
  have key : ∀ s : List Rc, Strict cmpR (s.foldr insP []) ∧ ∀ y, y ∈ s.foldr insP [] ↔ y ∈ s := by
    intro s
    induction s with
    | nil => exact ⟨.nil, by simp⟩
    | cons x s ih =>
      refine ⟨insP_strict x _ ih.1, fun y => ?_⟩
      rw [List.foldr_cons, insP_mem, ih.2, List.mem_cons]
  obtain ⟨k1, k2⟩ := key (r.filter (validB l ·))
  exact ⟨k1, fun y => by rw [k2]; exact List.mem_filter⟩
theorem normF_spec (l : List Sn) (r : List Rc) (hl : r.length ≤ 1000) (hx : ∀ y ∈ r, RcOK y) : Ctr Tryz.prog 20 [sns l, rcs r] (fun x => x = rcs (normF l r)) :=
  (normalAny_spec l r hl hx).weak fun x h => by
    obtain ⟨N, rfl, hN⟩ := h
    rw [norm_eq hN (normF_ok l r) fun _ => Iff.rfl]
end Go.Proofs.YtiojkoaefabjbaaGreatDoor
