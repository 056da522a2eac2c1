/-
  AV: contracts of the library's functions, as the kit's shelf has them, read as contracts of ours.
-/
import Derived.Test.YtkmhjamdgncpoaaDoorKd
import Derived.Shelf.Strings.FuncGrows
import Derived.Shelf.Strings.OnBuilder
import Derived.Shelf.Strconv.Itoa3
set_option linter.unusedSimpArgs false
set_option linter.unusedVariables false
namespace Go.Av
open Go.RowKit (Below)
open Go.Proofs Go.Shelf
theorem ext_later {C : CellSet} {w W : World} (hlt : ∀ b o, C b o → b < w.heap.size) (hb : Below w.heap.size w W) : Ext C C w W :=
  Ext.of_block (fun _ _ h => h) fun b o hc => hb.block b (hlt b o hc)
theorem predGrows_of_ctr {P : Program} {g : Nat} {p : Nat → Bool} {cap : List AV} (h : ∀ x : Nat, x ≤ 1114111 → Ctr P g (.int .i32 x :: cap) (fun r => r = .bool (p x)))
    {C : CellSet} {w : World} {vs : List Value} (hlt : COK C w) (hr : Reps C w cap Mu.none vs) : PredGrows P g vs.toArray p w := by
  intro W x hx hb
  have hx' : Ext C C w W := ext_later hlt.lt hb
  have hcap := Reps.mono hx' cap (MuLe.refl Mu.none) hr
  have hall : Reps C W (.int .i32 x :: cap) Mu.none (encR x :: vs) := by
    unfold Reps
    refine ⟨encR x, vs, rfl, ?_, hcap⟩
    unfold Rep
    refine ⟨rfl, ?_⟩
    unfold inK IntKind.min IntKind.max
    simp [IntKind.signed, IntKind.bits]
    omega
  have hc := (h x hx).out C W (encR x :: vs) (hlt.mono hx' fun b o hc => Nat.lt_of_lt_of_le (hlt.lt b o hc) hb.size) hall
  have e : (encR x :: vs).toArray = #[encR x] ++ vs.toArray := by simp
  rw [e] at hc
  refine hc.mono fun e w' ⟨r, v, h1, h2, h3, h4⟩ => ?_
  subst h2
  unfold Rep at h4
  exact ⟨by rw [h1, h4], h3⟩
theorem containsFunc_ctr {P : Program} {ρ : Ren} (L : LaysGw.n17 P ρ) {f g : Nat} (hf : ρ.f 17 = f) (hg : goodF P f = true) (eg : ∀ args w, (callFunc g args).run P w = .ok (.enter g args) w)
    {p : Nat → Bool} {cap : List AV} (h : ∀ x : Nat, x ≤ 1114111 → Ctr P g (.int .i32 x :: cap) (fun r => r = .bool (p x))) (s : List UInt8) :
    Ctr P f [.str s, .fn g cap] (fun r => r = .bool (decide (0 ≤ Lib.idxFunc p true ⟨s.toArray⟩))) := by
  refine ⟨hg, fun C w vs hlt hr => ?_⟩
  unfold Reps at hr
  obtain ⟨v1, _, rfl, h1, hr⟩ := hr
  unfold Reps at hr
  obtain ⟨v2, _, rfl, h2, hr⟩ := hr
  unfold Reps at hr
  subst hr
  unfold Rep at h1 h2
  obtain ⟨rfl, _⟩ := h1
  obtain ⟨us, rfl, hu⟩ := h2
  subst hf
  refine (Any.strings_ContainsFunc_grows L g us.toArray eg p ⟨s.toArray⟩ w (predGrows_of_ctr h hlt hu)).mono fun e w' ⟨h3, h4⟩ => ?_
  exact ⟨_, _, h3, rfl, h4, by unfold Rep; rfl⟩
theorem itoa_ctr {P : Program} {ρ : Ren} (L : Lays.n171 P ρ) {f : Nat} (hf : ρ.f 171 = f) (hg : goodF P f = true) (i : Nat) (hi : i < 100) (hl : (Lib.decDigits i).length ≤ 9223372036854775807) :
    Ctr P f [.int .i64 i] (fun r => r = .str (Lib.decDigits i)) := by
  refine ⟨hg, fun C w vs hlt hr => ?_⟩
  unfold Reps at hr
  obtain ⟨v1, _, rfl, h1, hr⟩ := hr
  unfold Reps at hr
  subst hr
  unfold Rep at h1
  obtain ⟨rfl, _⟩ := h1
  subst hf
  refine (Any.strconv_Itoa_small L i hi w).mono fun e w' ⟨h3, h4⟩ => ?_
  subst h4
  exact ⟨_, _, h3, rfl, Below.refl _ _, by unfold Rep; exact ⟨rfl, hl⟩⟩
theorem rows_strs {C : CellSet} {w : World} : ∀ {l : List (List UInt8)} {b o : Nat}, Rows C w 1 (l.map AV.str) b o →
    ∀ (j : Nat) x, (l.map fun s => (⟨s.toArray⟩ : ByteArray))[j]? = some x → C b (o + j) ∧ w.cell? ⟨b, o + j, none⟩ = some (.string x)
  | [], _, _, _, j, x, hj => by simp at hj
  | s :: l, b, o, h, j, x, hj => by
    simp only [List.map_cons] at h hj
    unfold Rows at h
    obtain ⟨_, ⟨v, _, hc, hv⟩, hr⟩ := h
    cases j with
    | zero =>
      unfold Rep at hv
      obtain ⟨rfl, _⟩ := hv
      simp at hj; subst hj
      exact hc
    | succ j =>
      have := rows_strs hr j x (by simpa using hj)
      rw [show o + (j + 1) = o + 1 + j by omega]; exact this
theorem join_ctr {P : Program} {ρ : Ren} (L : Lays.n156 P ρ) (X : Builder.Extra P ρ) {f : Nat} (hf : ρ.f 156 = f) (hg : goodF P f = true) (l : List (List UInt8)) (sep : List UInt8)
    (hN : l.length ≤ 140737488355328) (hlen : (Lib.join l sep).length ≤ 140737488355328) :
    Ctr P f [.sl 1 (l.map AV.str), .str sep] (fun r => r = .str (Lib.join l sep)) := by
  refine ⟨hg, fun C w vs hlt hr => ?_⟩
  unfold Reps at hr
  obtain ⟨v1, _, rfl, h1, hr⟩ := hr
  unfold Reps at hr
  obtain ⟨v2, _, rfl, h2, hr⟩ := hr
  unfold Reps at hr
  subst hr
  unfold Rep at h1 h2
  obtain ⟨rfl, _⟩ := h2
  subst hf
  have e0 : (l.map fun s => (⟨s.toArray⟩ : ByteArray)).map (·.data.toList) = l := by rw [List.map_map]; simp [Function.comp_def]
  have none' : ∀ a c, l = [] → Calls P (ρ.f 156) [Value.slice a 0 c, Value.string ⟨sep.toArray⟩].toArray w fun e w' => ∃ r v, e = .returned v ∧ r = AV.str (Lib.join l sep) ∧ Below w.heap.size w w' ∧ Rep (newC C w.heap.size w'.heap.size) w' r Mu.none v := fun a c hl => by
    refine (Any.strings_Join_none L X a c ⟨sep.toArray⟩ w).mono fun e w' ⟨h3, h4⟩ => ?_
    subst h4; subst hl
    exact ⟨_, _, h3, rfl, Below.refl _ _, by unfold Rep; exact ⟨rfl, by simp [Lib.join]⟩⟩
  rcases h1 with ⟨⟨a, rfl⟩, he⟩ | ⟨b, o, cap, rfl, hcap, _, hrows⟩
  · exact none' a 0 (by simpa using he)
  · by_cases hl : l = []
    · subst hl; exact none' _ _ rfl
    · have hc := rows_strs hrows
      have hb : b < w.heap.size := by
        cases l with
        | nil => exact absurd rfl hl
        | cons s l => exact hlt.lt b _ (hc 0 _ rfl).1
      have hj := Any.strings_Join L X b o cap (l.map fun s => (⟨s.toArray⟩ : ByteArray)) ⟨sep.toArray⟩ w (fun j x h => (hc j x h).2) hb (by simpa using hN) (by simpa using hcap) (by rw [e0]; exact hlen)
      rw [e0] at hj
      have e1 : (l.map fun s => (⟨s.toArray⟩ : ByteArray)).length = (l.map AV.str).length := by simp
      rw [e1] at hj
      refine hj.mono fun e w' ⟨h3, h4⟩ => ?_
      exact ⟨_, _, h3, rfl, h4, by unfold Rep; exact ⟨rfl, by omega⟩⟩
end Go.Av
