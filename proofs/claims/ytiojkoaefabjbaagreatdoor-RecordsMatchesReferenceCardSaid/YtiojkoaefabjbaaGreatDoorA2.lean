/-
  AV: at a call, nil slices in the elements of a list seen as empty ones.
-/
import Derived.Test.YtiojkoaefabjbaaGreatDoorKf
set_option linter.unusedVariables false
set_option linter.unusedSimpArgs false
namespace Go.Av
def nlsR : List AV → List AV → Prop
  | [], [] => True
  | .agg cs :: xs, .agg ds :: ys => nles0 cs ds ∧ nlsR xs ys
  | x :: xs, y :: ys => x = y ∧ nlsR xs ys
  | _, _ => False
def nl1 : AV → AV → Prop
  | .sl s es, .sl s' es' => s = s' ∧ nlsR es es'
  | x, y => nle x y
def nls1 : List AV → List AV → Prop
  | [], [] => True
  | x :: xs, y :: ys => nl1 x y ∧ nls1 xs ys
  | _, _ => False
section
variable {C : CellSet} {w : World} {mu : Mu}
theorem nles0_len : ∀ {cs ds : List AV}, nles0 cs ds → cs.length = ds.length
  | [], [], _ => rfl
  | c :: cs, d :: ds, h => by simp [nles0_len h.2]
  | [], _ :: _, h => h.elim
  | _ :: _, [], h => h.elim
theorem nles0_cells : ∀ {cs ds : List AV} {b o : Nat}, nles0 cs ds → Cells C w cs b o → Cells C w ds b o
  | [], [], b, o, _, h => h
  | c :: cs, d :: ds, b, o, hn, h => by
    unfold Cells at h ⊢
    obtain ⟨⟨v, h1, h2, h3⟩, h4⟩ := h
    exact ⟨⟨v, h1, h2, nle0_rep _ _ hn.1 h3⟩, nles0_cells hn.2 h4⟩
  | [], _ :: _, _, _, hn, _ => hn.elim
  | _ :: _, [], _, _, hn, _ => hn.elim
theorem nlsR_rows {sz : Nat} : ∀ {es es' : List AV} {b o : Nat}, nlsR es es' → Rows C w sz es b o → Rows C w sz es' b o ∧ es.length = es'.length
  | [], [], b, o, _, h => ⟨h, rfl⟩
  | [], _ :: _, _, _, hn, _ => (by unfold nlsR at hn; exact hn.elim)
  | x :: xs, [], _, _, hn, _ => (by cases x <;> (unfold nlsR at hn; exact hn.elim))
  | x :: xs, y :: ys, b, o, hn, h => by
    unfold nlsR at hn
    split at hn
    · rename_i h1 h2; cases h1
    · rename_i cs xs' ds ys' h1 h2
      cases h1; cases h2
      unfold Rows at h ⊢
      obtain ⟨h1, h2, h3⟩ := h
      obtain ⟨k1, k2⟩ := nlsR_rows hn.2 h3
      exact ⟨⟨by rw [← nles0_len hn.1]; exact h1, nles0_cells hn.1 h2, k1⟩, by simp [k2]⟩
    · rename_i h1 h2
      cases h1; cases h2
      obtain ⟨rfl, hn⟩ := hn
      cases x
      all_goals
        unfold Rows at h ⊢
        obtain ⟨h1, h2, h3⟩ := h
        obtain ⟨k1, k2⟩ := nlsR_rows hn h3
        exact ⟨⟨h1, h2, k1⟩, by simp [k2]⟩
    · exact hn.elim
theorem nl1_rep (x y : AV) {v : Value} (h : nl1 x y) (hr : Rep C w x mu v) : Rep C w y mu v := by
  unfold nl1 at h
  split at h
  · rename_i s es s' es'
    obtain ⟨rfl, h⟩ := h
    unfold Rep at hr ⊢
    rcases hr with ⟨h1, rfl⟩ | ⟨b, o, cap, h1, h2, h3, h4⟩
    · refine .inl ⟨h1, ?_⟩
      cases es' with
      | nil => rfl
      | cons _ _ => unfold nlsR at h; exact h.elim
    · obtain ⟨k1, k2⟩ := nlsR_rows h h4
      exact .inr ⟨b, o, cap, by rw [← k2]; exact h1, by rw [← k2]; exact h2, h3, k1⟩
  · exact nle_rep _ _ h hr
theorem nls1_rep : ∀ (xs ys : List AV) {vs : List Value}, nls1 xs ys → Reps C w xs mu vs → Reps C w ys mu vs
  | [], [], vs, _, hr => hr
  | x :: xs, y :: ys, vs, h, hr => by
    unfold Reps at hr ⊢
    obtain ⟨v, vs', h1, h2, h3⟩ := hr
    exact ⟨v, vs', h1, nl1_rep x y h.1 h2, nls1_rep xs ys h.2 h3⟩
  | [], _ :: _, _, h, _ => h.elim
  | _ :: _, [], _, h, _ => h.elim
end
theorem ACall.args1 {P : Program} {f : FuncId} {args args' : List AV} {E : List AV} {H : List HO} {K : AV → KK} {X : XX} (hl : nls1 args args') (h : ACall P f args' E H K X) : ACall P f args E H K X :=
  ⟨h.good, fun G C mu a w vs hP hst hr => h.out G C mu a w vs hP hst (nls1_rep _ _ hl hr)⟩
end Go.Av
