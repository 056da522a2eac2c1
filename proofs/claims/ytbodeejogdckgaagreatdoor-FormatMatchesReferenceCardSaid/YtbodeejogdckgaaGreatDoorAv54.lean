/-
  AV: less may be told of an own object's cells (known bools become plain ones).
-/
import Derived.Test.YtbodeejogdckgaaGreatDoorKf
set_option linter.unusedSimpArgs false
set_option linter.unusedVariables false
set_option linter.unusedSectionVars false
namespace Go.Av
section
variable {G : Cx} {C : CellSet} {w : World} {mu : Mu} {H : List HO} {E : List AV} {a : Act} {P : Program}
def weakA (x y : AV) : Prop := ∀ (C : CellSet) (w : World) (mu : Mu) (v : Value), Rep C w x mu v → Rep C w y mu v
def weakL : List AV → List AV → Prop
  | [], [] => True
  | x :: xs, y :: ys => weakA x y ∧ weakL xs ys
  | _, _ => False
theorem weakL_reps : ∀ {xs ys : List AV} {vs : List Value}, weakL xs ys → Reps C w xs mu vs → Reps C w ys mu vs
  | [], [], _, _, h => h
  | x :: xs, y :: ys, vs, hw, h => by
    unfold Reps at h ⊢
    obtain ⟨v, vs', rfl, h2, h3⟩ := h
    exact ⟨v, vs', rfl, hw.1 _ _ _ _ h2, weakL_reps hw.2 h3⟩
  | [], _ :: _, _, hw, _ => hw.elim
  | _ :: _, [], _, hw, _ => hw.elim
theorem StC.weakC (hst : StC G C mu E H a w) (l : Nat) {cs cs' : List AV} (hl : H[l]? = some (.cells cs)) (hw : weakL cs cs') : StC G C mu E (H.set l (.cells cs')) a w := by
  have hlt : l < H.length := (List.getElem?_eq_some_iff.1 hl).1
  have hg : ∀ {k : Nat} {ob : HO}, (H.set l (.cells cs'))[k]? = some ob → (k = l ∧ ob = .cells cs') ∨ H[k]? = some ob := fun {k ob} hk => by
    by_cases hkl : k = l
    · subst hkl
      rw [List.getElem?_set_self hlt] at hk
      exact .inl ⟨rfl, (Option.some.inj hk).symm⟩
    · rw [List.getElem?_set_ne (fun e => hkl e.symm)] at hk; exact .inr hk
  have hgh : ∀ {k : Nat} {ob : HO}, (H.set l (.cells cs'))[k]? = some ob → (∀ es, ob ≠ .cells es) → H[k]? = some ob := fun {k ob} hk hne => by
    rcases hg hk with ⟨_, h⟩ | h
    · exact absurd h (hne _)
    · exact h
  refine ⟨hst.c0, hst.c1, hst.lt, ⟨fun i g hi => by simpa using hst.heap.dom i g hi, hst.heap.fresh, hst.heap.sep, fun k hk => hst.heap.dead k (hgh hk (by intros; simp)), fun k cs2 hk => ?_, fun k e' sz' es' hk => hst.heap.arrs k e' sz' es' (hgh hk (by intros; simp)), fun k ks vs hk => hst.heap.maps k ks vs (hgh hk (by intros; simp))⟩, hst.env, ?_, hst.keep, by simpa using hst.pin.1, hst.pin.2⟩
  · rcases hg hk with ⟨rfl, h⟩ | h
    · cases h
      obtain ⟨b, cur, e, k1, k2, k3, k4⟩ := hst.heap.recs k cs hl
      exact ⟨b, cur, e, k1, k2, weakL_reps hw k3, k4⟩
    · exact hst.heap.recs k cs2 h
  · obtain ⟨ms, d1, d2⟩ := hst.defers
    exact ⟨ms, d1, ⟨fun k cs' vs gm hk => d2.ghosts k cs' vs gm (hgh hk (by intros; simp)), fun k I hk => by
      obtain ⟨h0, Sw, Sr, q1, q2, q3, q4⟩ := d2.invs k I (hgh hk (by intros; simp))
      exact ⟨h0, Sw, Sr, q1, q2, q3, fun k' cs' vs gm hk' => q4 k' cs' vs gm (hgh hk' (by intros; simp))⟩, d2.marks, d2.nd, fun k k' cs' vs gm cs2 vs2 gm2 hk hk' => d2.sep k k' cs' vs gm cs2 vs2 gm2 (hgh hk (by intros; simp)) (hgh hk' (by intros; simp))⟩⟩
/-- Less is told of the cells at l from here on. -/
theorem ACode.weakC (l : Nat) {cs cs' : List AV} {c : Code} {K : KK} {X : XX} (hl : H[l]? = some (.cells cs)) (hw : weakL cs cs') (h : ACode P c E (H.set l (.cells cs')) K X) : ACode P c E H K X := by
  refine ⟨fun n G a w hP hst => ?_⟩
  obtain ⟨C, mu, hst⟩ := hst
  exact h.out n G a w hP ⟨C, mu, hst.weakC l hl hw⟩
theorem weakA.refl (x : AV) : weakA x x := fun _ _ _ _ h => h
theorem weakA.lit {b c : Bool} (h : b = c) : weakA (.lit b) (.bool c) := fun _ _ _ _ h2 => by subst h; unfold Rep at *; exact h2
theorem weakA.bool {b c : Bool} (h : b = c) : weakA (.bool b) (.bool c) := fun _ _ _ _ h2 => by subst h; exact h2
end
end Go.Av
