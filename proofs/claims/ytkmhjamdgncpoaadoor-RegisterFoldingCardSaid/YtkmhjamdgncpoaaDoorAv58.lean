/-
  AV: known bools in the rows of an own array become plain ones.
-/
import Derived.Test.YtkmhjamdgncpoaaDoorAv57
set_option linter.unusedSimpArgs false
set_option linter.unusedVariables false
set_option linter.unusedSectionVars false
namespace Go.Av
section
variable {G : Cx} {C : CellSet} {w : World} {mu : Mu} {H : List HO} {E : List AV} {a : Act} {P : Program}
def plainR : AV → AV
  | .agg cs => .agg (cs.map unlit)
  | .lit b => .bool b
  | x => x
theorem unlit_reps : ∀ {cs : List AV} {vs : List Value}, Reps C w cs mu vs → Reps C w (cs.map unlit) mu vs
  | [], _, h => h
  | c :: cs, vs, h => by
    simp only [List.map_cons]
    unfold Reps at h ⊢
    obtain ⟨v, us, rfl, h1, h2⟩ := h
    exact ⟨v, us, rfl, unlit_rep h1, unlit_reps h2⟩
theorem plainR_flat : ∀ {es : List AV} {vs : List Value}, Reps C w (flat es) mu vs → Reps C w (flat (es.map plainR)) mu vs
  | [], _, h => h
  | x :: es, vs, h => by
    have hc : ∀ {as bs : List AV} {us : List Value}, Reps C w (as ++ bs) mu us → ∃ u1 u2, us = u1 ++ u2 ∧ Reps C w as mu u1 ∧ Reps C w bs mu u2 := by
      intro as
      induction as with
      | nil => intro bs us h; exact ⟨[], us, rfl, by unfold Reps; rfl, h⟩
      | cons c as ih =>
        intro bs us h
        rw [List.cons_append] at h
        unfold Reps at h
        obtain ⟨v, vs', rfl, h2, h3⟩ := h
        obtain ⟨u1, u2, rfl, h4, h5⟩ := ih h3
        exact ⟨v :: u1, u2, rfl, by unfold Reps; exact ⟨v, u1, rfl, h2, h4⟩, h5⟩
    rw [show flat (x :: es) = x.cells ++ flat es from by simp [flat]] at h
    obtain ⟨u1, u2, rfl, h1, h2⟩ := hc h
    rw [show flat ((x :: es).map plainR) = (plainR x).cells ++ flat (es.map plainR) from by simp [flat]]
    refine reps_append ?_ (plainR_flat h2)
    cases x <;> first | exact h1 | (simp only [plainR, AV.cells] at *; exact unlit_reps h1) | (
      simp only [plainR, AV.cells] at *
      unfold Reps at *
      obtain ⟨v, vs', h3, h4, h5⟩ := h1
      exact ⟨v, vs', h3, by unfold Rep at *; exact h4, h5⟩)
theorem StC.plainR (hst : StC G C mu E H a w) (l : Nat) {e : TypeId} {sz : Nat} {es : List AV} (hl : H[l]? = some (.arr e sz es)) : StC G C mu E (H.set l (.arr e sz (es.map plainR))) a w := by
  have hlt : l < H.length := (List.getElem?_eq_some_iff.1 hl).1
  have hg : ∀ {k : Nat} {ob : HO}, (H.set l (.arr e sz (es.map Av.plainR)))[k]? = some ob → (k = l ∧ ob = .arr e sz (es.map Av.plainR)) ∨ H[k]? = some ob := fun {k ob} hk => by
    by_cases hkl : k = l
    · subst hkl
      rw [List.getElem?_set_self hlt] at hk
      exact .inl ⟨rfl, (Option.some.inj hk).symm⟩
    · rw [List.getElem?_set_ne (fun e => hkl e.symm)] at hk; exact .inr hk
  have hgh : ∀ {k : Nat} {ob : HO}, (H.set l (.arr e sz (es.map Av.plainR)))[k]? = some ob → (∀ e sz es, ob ≠ .arr e sz es) → H[k]? = some ob := fun {k ob} hk hne => by
    rcases hg hk with ⟨_, h⟩ | h
    · exact absurd h (hne _ _ _)
    · exact h
  refine ⟨hst.c0, hst.c1, hst.lt, ⟨fun i g hi => by simpa using hst.heap.dom i g hi, hst.heap.fresh, hst.heap.sep, fun k hk => hst.heap.dead k (hgh hk (by intros; simp)), fun k cs hk => hst.heap.recs k cs (hgh hk (by intros; simp)), fun k e' sz' es' hk => ?_, fun k ks vs hk => hst.heap.maps k ks vs (hgh hk (by intros; simp))⟩, hst.env, ?_, hst.keep, by simpa using hst.pin.1, hst.pin.2⟩
  · rcases hg hk with ⟨rfl, h⟩ | h
    · cases h
      obtain ⟨k1, k2⟩ := hst.heap.arrs k e sz es hl
      refine ⟨fun x hx => ?_, ?_⟩
      · obtain ⟨y, hy, rfl⟩ := List.mem_map.1 hx
        have := k1 y hy
        cases y <;> first | exact this | (simp only [AV.cells] at this; show (List.map Av.unlit _).length = sz; rw [List.length_map]; exact this)
      · rcases k2 with ⟨k2, rfl⟩ | ⟨b, cap, cur, k2, k3, k4, k5, k6, k7, k8⟩
        · exact .inl ⟨k2, rfl⟩
        · refine .inr ⟨b, cap, cur, by rw [List.length_map]; exact k2, k3, by rw [List.length_map]; exact k4, k5, k6, ?_, k8⟩
          rw [List.length_map]
          exact plainR_flat k7
    · exact hst.heap.arrs k e' sz' es' h
  · obtain ⟨ms, d1, d2⟩ := hst.defers
    exact ⟨ms, d1, ⟨fun k cs' vs gm hk => d2.ghosts k cs' vs gm (hgh hk (by intros; simp)), fun k I hk => by
      obtain ⟨h0, Sw, Sr, q1, q2, q3, q4⟩ := d2.invs k I (hgh hk (by intros; simp))
      exact ⟨h0, Sw, Sr, q1, q2, q3, fun k' cs' vs gm hk' => q4 k' cs' vs gm (hgh hk' (by intros; simp))⟩, d2.marks, d2.nd, fun k k' cs' vs gm cs2 vs2 gm2 hk hk' => d2.sep k k' cs' vs gm cs2 vs2 gm2 (hgh hk (by intros; simp)) (hgh hk' (by intros; simp))⟩⟩
/-- Known bools in the array at l are plain ones from here on. -/
theorem ACode.plainR (l : Nat) {e : TypeId} {sz : Nat} {es es' : List AV} {c : Code} {K : KK} {X : XX} (hl : H[l]? = some (.arr e sz es)) (he : es.map Av.plainR = es') (h : ACode P c E (H.set l (.arr e sz es')) K X) : ACode P c E H K X := by
  subst he
  refine ⟨fun n G a w hP hst => ?_⟩
  obtain ⟨C, mu, hst⟩ := hst
  exact h.out n G a w hP ⟨C, mu, hst.plainR l hl⟩
/-- The bounds of a number that lies in a variable. -/
theorem ACode.cellInt (l j : Nat) {cs : List AV} {k : IntKind} {v : Int} {c : Code} {K : KK} {X : XX} (hl : H[l]? = some (.cells cs)) (hj : cs[j]? = some (.int k v)) (h : inK k v → ACode P c E H K X) : ACode P c E H K X := by
  refine ⟨fun n G a w hP hst => ?_⟩
  obtain ⟨C, mu, hst⟩ := hst
  refine (h ?_).out n G a w hP ⟨C, mu, hst⟩
  obtain ⟨b, cur, e, k1, k2, k3, k4⟩ := hst.heap.recs l cs hl
  have hlt := (List.getElem?_eq_some_iff.1 hj).1
  have hlen := reps_len _ k3
  have hr := ((reps_iff _).1 k3).2 j hlt (by omega)
  have e2 : cs[j] = .int k v := by rw [List.getElem?_eq_getElem hlt] at hj; exact Option.some.inj hj
  rw [e2] at hr
  unfold Rep at hr
  exact hr.2
end
end Go.Av
