/-
  AV: known bools and nil slices in the rows of an own array become plain ones.
-/
import Derived.Test.YtkmhjamdgncpoaaDoorAv60
set_option linter.unusedSimpArgs false
set_option linter.unusedVariables false
set_option linter.unusedSectionVars false
namespace Go.Av
section
variable {G : Cx} {C : CellSet} {w : World} {mu : Mu} {H : List HO} {E : List AV} {a : Act} {P : Program}
/-- A cell seen as a plain one: known bools, nil slices (of elements of one cell). -/
def normC : AV → AV
  | .lit b => .bool b
  | .raw (.slice none 0 0) => .sl 1 []
  | x => x
def normR : AV → AV
  | .agg cs => .agg (cs.map normC)
  | x => normC x
theorem normC_rep {x : AV} {v : Value} (h : Rep C w x mu v) : Rep C w (normC x) mu v := by
  unfold normC
  split
  · unfold Rep at *; exact h
  · unfold Rep at *; exact .inl ⟨⟨none, h⟩, rfl⟩
  · exact h
theorem normC_reps : ∀ {cs : List AV} {vs : List Value}, Reps C w cs mu vs → Reps C w (cs.map normC) mu vs
  | [], _, h => h
  | c :: cs, vs, h => by
    simp only [List.map_cons]
    unfold Reps at h ⊢
    obtain ⟨v, us, rfl, h1, h2⟩ := h
    exact ⟨v, us, rfl, normC_rep h1, normC_reps h2⟩
theorem normR_cells (x : AV) : (normR x).cells = x.cells.map normC := by
  cases x with
  | agg cs => rfl
  | lit b => rfl
  | raw v =>
    simp only [normR]
    unfold normC
    split <;> simp_all [AV.cells, normC]
  | _ => rfl
theorem normR_flat (es : List AV) : flat (es.map normR) = (flat es).map normC := by
  induction es with
  | nil => rfl
  | cons x es ih =>
    rw [show flat (x :: es) = x.cells ++ flat es from by simp [flat], List.map_append, ← ih, ← normR_cells]
    simp [flat]
theorem StC.normR (hst : StC G C mu E H a w) (l : Nat) {e : TypeId} {sz : Nat} {es : List AV} (hl : H[l]? = some (.arr e sz es)) : StC G C mu E (H.set l (.arr e sz (es.map Av.normR))) a w := by
  have hlt : l < H.length := (List.getElem?_eq_some_iff.1 hl).1
  have hg : ∀ {k : Nat} {ob : HO}, (H.set l (.arr e sz (es.map Av.normR)))[k]? = some ob → (k = l ∧ ob = .arr e sz (es.map Av.normR)) ∨ H[k]? = some ob := fun {k ob} hk => by
    by_cases hkl : k = l
    · subst hkl
      rw [List.getElem?_set_self hlt] at hk
      exact .inl ⟨rfl, (Option.some.inj hk).symm⟩
    · rw [List.getElem?_set_ne (fun e => hkl e.symm)] at hk; exact .inr hk
  have hgh : ∀ {k : Nat} {ob : HO}, (H.set l (.arr e sz (es.map Av.normR)))[k]? = some ob → (∀ e sz es, ob ≠ .arr e sz es) → H[k]? = some ob := fun {k ob} hk hne => by
    rcases hg hk with ⟨_, h⟩ | h
    · exact absurd h (hne _ _ _)
    · exact h
  refine ⟨hst.c0, hst.c1, hst.lt, ⟨fun i g hi => by simpa using hst.heap.dom i g hi, hst.heap.fresh, hst.heap.sep, fun k hk => hst.heap.dead k (hgh hk (by intros; simp)), fun k cs hk => hst.heap.recs k cs (hgh hk (by intros; simp)), fun k e' sz' es' hk => ?_, fun k ks vs hk => hst.heap.maps k ks vs (hgh hk (by intros; simp))⟩, hst.env, ?_, hst.keep, by simpa using hst.pin.1, hst.pin.2⟩
  · rcases hg hk with ⟨rfl, h⟩ | h
    · cases h
      obtain ⟨k1, k2⟩ := hst.heap.arrs k e sz es hl
      refine ⟨fun x hx => ?_, ?_⟩
      · obtain ⟨y, hy, rfl⟩ := List.mem_map.1 hx
        have := k1 y hy
        rw [normR_cells, List.length_map]
        exact this
      · rcases k2 with ⟨k2, rfl⟩ | ⟨b, cap, cur, k2, k3, k4, k5, k6, k7, k8⟩
        · exact .inl ⟨k2, rfl⟩
        · refine .inr ⟨b, cap, cur, by rw [List.length_map]; exact k2, k3, by rw [List.length_map]; exact k4, k5, k6, ?_, k8⟩
          rw [List.length_map]
          exact (by rw [normR_flat]; exact normC_reps k7)
    · exact hst.heap.arrs k e' sz' es' h
  · obtain ⟨ms, d1, d2⟩ := hst.defers
    exact ⟨ms, d1, ⟨fun k cs' vs gm hk => d2.ghosts k cs' vs gm (hgh hk (by intros; simp)), fun k I hk => by
      obtain ⟨h0, Sw, Sr, q1, q2, q3, q4⟩ := d2.invs k I (hgh hk (by intros; simp))
      exact ⟨h0, Sw, Sr, q1, q2, q3, fun k' cs' vs gm hk' => q4 k' cs' vs gm (hgh hk' (by intros; simp))⟩, d2.marks, d2.nd, fun k k' cs' vs gm cs2 vs2 gm2 hk hk' => d2.sep k k' cs' vs gm cs2 vs2 gm2 (hgh hk (by intros; simp)) (hgh hk' (by intros; simp))⟩⟩
/-- Known bools and nil slices in the array at l are plain ones from here on. -/
theorem ACode.normR (l : Nat) {e : TypeId} {sz : Nat} {es es' : List AV} {c : Code} {K : KK} {X : XX} (hl : H[l]? = some (.arr e sz es)) (he : es.map Av.normR = es') (h : ACode P c E (H.set l (.arr e sz es')) K X) : ACode P c E H K X := by
  subst he
  refine ⟨fun n G a w hP hst => ?_⟩
  obtain ⟨C, mu, hst⟩ := hst
  exact h.out n G a w hP ⟨C, mu, hst.normR l hl⟩
/-- The same at a call. -/
theorem ACall.normR (l : Nat) {f : FuncId} {args : List AV} {e : TypeId} {sz : Nat} {es es' : List AV} {K : AV → KK} {X : XX} (hl : H[l]? = some (.arr e sz es)) (he : es.map Av.normR = es') (h : ACall P f args E (H.set l (.arr e sz es')) K X) : ACall P f args E H K X := by
  subst he
  exact ⟨h.good, fun G C mu a w vs hP hst hr => h.out G C mu a w vs hP (hst.normR l hl) hr⟩
/-- The bounds of a number that lies in a variable, at a call. -/
theorem ACall.cellInt (l j : Nat) {cs : List AV} {k : IntKind} {v : Int} {f : FuncId} {args : List AV} {K : AV → KK} {X : XX} (hl : H[l]? = some (.cells cs)) (hj : cs[j]? = some (.int k v)) (hg : goodF P f = true) (h : inK k v → ACall P f args E H K X) : ACall P f args E H K X := by
  refine ⟨hg, fun G C mu a w vs hP hst hr => ?_⟩
  refine (h ?_).out G C mu a w vs hP hst hr
  obtain ⟨b, cur, e, k1, k2, k3, k4⟩ := hst.heap.recs l cs hl
  have hlt := (List.getElem?_eq_some_iff.1 hj).1
  have hlen := reps_len _ k3
  have hr := ((reps_iff _).1 k3).2 j hlt (by omega)
  have e2 : cs[j] = .int k v := by rw [List.getElem?_eq_getElem hlt] at hj; exact Option.some.inj hj
  rw [e2] at hr
  unfold Rep at hr
  exact hr.2
/-- A nil slice in a slot is one without elements from here on. -/
theorem ACode.nilSl (t sz : Nat) {c : Code} {K : KK} {X : XX} (he : E[t]? = some (.raw (.slice none 0 0))) (h : ACode P c (E.set t (.sl sz [])) H K X) : ACode P c E H K X := by
  refine ⟨fun n G a w hP hst => ?_⟩
  obtain ⟨C, mu, hst⟩ := hst
  refine h.out n G a w hP ⟨C, mu, hst.frame ?_ rfl⟩
  obtain ⟨h1, h2⟩ := (reps_iff _).1 hst.env
  refine (reps_iff _).2 ⟨by simpa using h1, fun i hi hi' => ?_⟩
  have hiE : i < E.length := by simpa using hi
  by_cases hti : t = i
  · subst hti
    rw [List.getElem_set_self]
    have := h2 t hiE hi'
    rw [List.getElem?_eq_getElem hiE] at he
    rw [Option.some.inj he] at this
    unfold Rep at this ⊢
    exact .inl ⟨⟨none, this⟩, rfl⟩
  · rw [List.getElem_set_ne hti]
    exact h2 i hiE hi'
end
end Go.Av
