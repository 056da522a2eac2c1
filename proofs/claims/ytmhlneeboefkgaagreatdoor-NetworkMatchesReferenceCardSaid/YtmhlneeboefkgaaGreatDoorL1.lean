import Derived.Test.YtmhlneeboefkgaaGreatDoorN11
set_option linter.unusedVariables false
set_option linter.unusedSimpArgs false
namespace Go.Proofs.YtmhlneeboefkgaaGreatDoor
open Go.Av Go.Av.Net
/-! ### Plain facts of the lexer -/
theorem runP_digits : ∀ (s : Bs), (runP s).2 = (runP s).1 → ∀ b ∈ s.take (runP s).1, digB b = true
 | [], _ => by simp [runP]
 | c :: r, h => by
  have h2 : (runP r).2 ≤ (runP r).1 := (runP_le r).2
  unfold runP at h ⊢
  cases hw : wordB c with
  | false => simp
  | true =>
   rw [hw] at h
   simp only [cond_true] at h ⊢
   cases hd : digB c with
   | false => rw [hd] at h; simp at h; omega
   | true =>
    rw [hd] at h
    simp only [cond_true] at h
    intro b hb
    simp only [List.take_succ_cons, List.mem_cons] at hb
    rcases hb with rfl | hb
    ·exact hd
    ·exact runP_digits r (by omega) b hb
theorem tokP_ok {s : Bs} {n : Nat} {k : Int} {t : Bs} (h : tokP s = some (n, k, t)) : 1 ≤ n ∧ n ≤ s.length ∧ t.length ≤ n ∧ (k = 2 → 1 ≤ t.length ∧ t.length ≤ 8 ∧ ∀ b ∈ t, digB b = true) := by
 have h1 := numLen_if s
 have h2 := nameLen_le s
 have h3 := txtLen_le s
 have h4 := symLen_le s
 have h5 := (runP_le s).1
 unfold tokP at h
 by_cases c1 : 0 < numLen s
 ·rw [decide_eq_true c1, cond_true] at h
  simp only [Option.some.injEq, Prod.mk.injEq] at h
  obtain ⟨rfl, rfl, rfl⟩ := h
  have e : numLen s = (runP s).1 := by rw [numLen_if]; split <;> rename_i q <;> simp_all [numLen_if]
  have hc : (runP s).2 = (runP s).1 ∧ (runP s).1 ≤ 8 := by
   unfold numLen at c1
   by_cases q : (runP s).2 = (runP s).1
   ·by_cases q2 : 8 < (runP s).1
    ·simp [q, q2] at c1
    ·exact ⟨q, by omega⟩
   ·simp [q] at c1
  refine ⟨c1, by omega, by simp; omega, fun _ => ⟨by simp; omega, by simp; omega, ?_⟩⟩
  rw [e]
  exact runP_digits s hc.1
 ·rw [decide_eq_false c1, cond_false] at h
  by_cases c2 : 0 < nameLen s
  ·rw [decide_eq_true c2, cond_true] at h
   simp only [Option.some.injEq, Prod.mk.injEq] at h
   obtain ⟨rfl, rfl, rfl⟩ := h
   exact ⟨c2, h2, by simp; omega, fun h => by cases h⟩
  ·rw [decide_eq_false c2, cond_false] at h
   by_cases c3 : 0 < txtLen s
   ·rw [decide_eq_true c3, cond_true] at h
    simp only [Option.some.injEq, Prod.mk.injEq] at h
    obtain ⟨rfl, rfl, rfl⟩ := h
    exact ⟨c3, h3.1, by simp; omega, fun h => by cases h⟩
   ·rw [decide_eq_false c3, cond_false] at h
    by_cases c4 : 0 < symLen s
    ·rw [decide_eq_true c4, cond_true] at h
     simp only [Option.some.injEq, Prod.mk.injEq] at h
     obtain ⟨rfl, rfl, rfl⟩ := h
     exact ⟨c4, h4, by simp; omega, fun h => by cases h⟩
    ·rw [decide_eq_false c4, cond_false] at h
     cases h
theorem lexGo_ok (s : Bs) (hs : s.length ≤ 8000) : ∀ (f p c : Nat) (l : List Tok), c ≤ 3000 → p ≤ s.length → lexGo s f p c = .ok l → c + l.length ≤ 3000 ∧ ∀ t ∈ l, TokOK t ∧ p ≤ t.pos ∧ t.pos < s.length
 | 0, p, c, l, hc, hp, h => by cases h; exact ⟨by simpa using hc, by simp⟩
 | f + 1, p, c, l, hc, hp, h => by
  have hg := gap_le false (s.drop p)
  simp only [List.length_drop] at hg
  unfold lexGo at h
  have hpq : p ≤ p + gap false (s.drop p) := Nat.le_add_right _ _
  have hqs : p + gap false (s.drop p) ≤ s.length := by omega
  generalize p + gap false (s.drop p) = q at *
  by_cases c1 : q = s.length
  ·rw [decide_eq_true c1, cond_true] at h; cases h; exact ⟨by simpa using hc, by simp⟩
  ·rw [decide_eq_false c1, cond_false] at h
   by_cases c2 : c = 3000
   ·rw [decide_eq_true c2, cond_true] at h; cases h
   ·rw [decide_eq_false c2, cond_false] at h
    cases ht : tokP (s.drop q) with
    | none => rw [ht] at h; cases h
    | some x =>
     obtain ⟨n, k, t⟩ := x
     rw [ht] at h
     simp only at h
     obtain ⟨k1, k2, k3, k4⟩ := tokP_ok ht
     simp only [List.length_drop] at k2
     cases hr : lexGo s f (q + n) (c + 1) with
     | err e p => rw [hr] at h; cases h
     | ok r =>
      rw [hr] at h
      cases h
      obtain ⟨m1, m2⟩ := lexGo_ok s hs f (q + n) (c + 1) r (by omega) (by omega) hr
      refine ⟨by simp only [List.length_cons]; omega, fun t' ht' => ?_⟩
      simp only [List.mem_cons] at ht'
      rcases ht' with rfl | ht'
      ·exact ⟨⟨by simp only; omega, k4⟩, hpq, by simp only; omega⟩
      ·obtain ⟨n1, n2, n3⟩ := m2 t' ht'
       exact ⟨n1, by omega, n3⟩
theorem lexGo_err (s : Bs) : ∀ (f p c : Nat) (e : Int) (at_ : Nat), p ≤ s.length → lexGo s f p c = .err e at_ → at_ ≤ s.length ∧ (e = 2 ∨ e = 30)
 | 0, p, c, e, a, hp, h => by cases h
 | f + 1, p, c, e, a, hp, h => by
  have hg := gap_le false (s.drop p)
  simp only [List.length_drop] at hg
  unfold lexGo at h
  have hqs : p + gap false (s.drop p) ≤ s.length := by omega
  generalize p + gap false (s.drop p) = q at *
  by_cases c1 : q = s.length
  ·rw [decide_eq_true c1, cond_true] at h; cases h
  ·rw [decide_eq_false c1, cond_false] at h
   by_cases c2 : c = 3000
   ·rw [decide_eq_true c2, cond_true] at h; cases h; exact ⟨hqs, .inl rfl⟩
   ·rw [decide_eq_false c2, cond_false] at h
    cases ht : tokP (s.drop q) with
    | none => rw [ht] at h; cases h; exact ⟨hqs, .inr rfl⟩
    | some x =>
     obtain ⟨n, k, t⟩ := x
     rw [ht] at h
     simp only at h
     obtain ⟨k1, k2, k3, k4⟩ := tokP_ok ht
     simp only [List.length_drop] at k2
     cases hr : lexGo s f (q + n) (c + 1) with
     | ok r => rw [hr] at h; cases h
     | err e' p' =>
      rw [hr] at h
      cases h
      exact lexGo_err s f (q + n) (c + 1) _ _ (by omega) hr
theorem lexP_ok {s : Bs} {l : List Tok} (h : lexP s = .ok l) : TsOK l ∧ s.length ≤ 8000 ∧ ∀ t ∈ l, t.pos < s.length := by
 unfold lexP at h
 by_cases c : 8000 < s.length
 ·rw [decide_eq_true c] at h; cases h
 ·rw [decide_eq_false c, cond_false] at h
  obtain ⟨h1, h2⟩ := lexGo_ok s (by omega) _ _ _ _ (by omega) (by omega) h
  exact ⟨⟨by omega, fun t ht => (h2 t ht).1⟩, by omega, fun t ht => (h2 t ht).2.2⟩
theorem lexP_err {s : Bs} {e : Int} {p : Nat} (h : lexP s = .err e p) : p ≤ s.length ∧ (e = 2 ∨ e = 30) := by
 unfold lexP at h
 by_cases c : 8000 < s.length
 ·rw [decide_eq_true c] at h; cases h; exact ⟨by omega, .inl rfl⟩
 ·rw [decide_eq_false c, cond_false] at h
  exact lexGo_err s _ _ _ _ _ (by omega) h
end Go.Proofs.YtmhlneeboefkgaaGreatDoor
