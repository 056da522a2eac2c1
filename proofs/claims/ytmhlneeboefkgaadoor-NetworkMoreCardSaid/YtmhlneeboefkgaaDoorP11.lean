import Derived.Test.YtmhlneeboefkgaaDoorP10
set_option linter.unusedVariables false
set_option linter.unusedSimpArgs false
namespace Go.Proofs.YtmhlneeboefkgaaDoor.Pl
open Go.Av Go.Av.Net
/-! ### The first error -/
theorem kts_take (l : List Tok) (m : Nat) : kts (l.take m) = (kts l).take m := by simp [kts]
theorem parse_end {s : Bs} {l : List Tok} {p : Nat} (hl : lexP s = .ok l) (h : parseP s = .err 91 p) : p = s.length := by
  unfold parseP at h
  rw [hl] at h
  simp only at h
  cases hq : netP (kts l) with
  | ok n i => rw [hq] at h; cases h
  | fail e i =>
    rw [hq] at h
    simp only [Res.err.injEq] at h
    obtain ⟨rfl, rfl⟩ := h
    rcases net_first hq with ⟨_, h2⟩ | ⟨_, h2, _⟩
    · unfold offs
      rw [List.getElem?_eq_none (by simp [kts] at h2; omega)]
    · exact absurd rfl h2
theorem parse_first {s : Bs} {l : List Tok} {e : Int} {p : Nat} (hl : lexP s = .ok l) (h : parseP s = .err e p) (he : e ≠ 91) : ∃ (i : Nat) (hi : i < l.length), p = l[i].pos ∧ parseP (s.take (p + (srcT l[i].kind l[i].text).length)) = .err e p ∧ ((∃ n, parseP (s.take p) = .ok n) ∨ ∃ q, parseP (s.take p) = .err 91 q) ∧
    p + (srcT l[i].kind l[i].text).length ≤ s.length ∧ (∀ (j : Nat) (hj : j < l.length), j < i → l[j].pos ≠ p) := by
  unfold parseP at h
  rw [hl] at h
  simp only at h
  cases hq : netP (kts l) with
  | ok n i => rw [hq] at h; cases h
  | fail e i =>
    rw [hq] at h
    simp only [Res.err.injEq] at h
    obtain ⟨rfl, hp⟩ := h
    rcases net_first hq with ⟨h1, _⟩ | ⟨h1, _, h3, h4⟩
    · exact absurd h1 he
    · have hi : i < l.length := by simpa [kts] using h1
      have hpos : p = l[i].pos := by rw [← hp]; unfold offs; rw [List.getElem?_eq_getElem hi]
      obtain ⟨u1, u2, u3⟩ := lex_upto hl hi
      have h0 := (lexP_iff.1 hl).2.2
      refine ⟨i, hi, hpos, ?_, ?_, by rw [hpos]; exact u3, fun j hj hji => ?_⟩
      · subst hpos
        unfold parseP
        have u1 : lexP (s.take (l[i].pos + (srcT l[i].kind l[i].text).length)) = .ok (l.take (i + 1)) := u1
        rw [u1]
        simp only
        rw [kts_take, h3]
        simp only [Res.err.injEq, true_and]
        unfold offs
        rw [List.getElem?_take_of_lt (by omega), List.getElem?_eq_getElem hi]
      · subst hpos
        unfold parseP
        rw [u2]
        simp only
        rw [kts_take]
        rcases h4 with ⟨n, j, h4⟩ | ⟨j, h4⟩
        · rw [h4]; exact .inl ⟨n, rfl⟩
        · rw [h4]; exact .inr ⟨_, rfl⟩
      · have := h0.at_ hj hi hji
        have := src_pos h0 (List.getElem_mem hj)
        omega
/-- The text up to the end of a token of a text that is parsed. -/
theorem parse_begin {s : Bs} {l : List Tok} {n : Nw} (hl : lexP s = .ok l) (h : parseP s = .ok n) (hn : n.names.length = n.cals.length) : ∃ E : List (Nat × Nw), E.length = szN n ∧ E.Pairwise (fun a b => a.1 < b.1) ∧ (∀ x ∈ E, 0 < x.1 ∧ x.1 ≤ l.length) ∧ (∀ (k : Nat) (hk : k < E.length), E[k].2 = firstN n (k + 1)) ∧
    ∀ (i : Nat) (hi : i < l.length), l[i].pos + (srcT l[i].kind l[i].text).length ≤ s.length ∧ ((∃ x ∈ E, x.1 = i + 1 ∧ parseP (s.take (l[i].pos + (srcT l[i].kind l[i].text).length)) = .ok x.2) ∨ ((∀ x ∈ E, x.1 ≠ i + 1) ∧ parseP (s.take (l[i].pos + (srcT l[i].kind l[i].text).length)) = .err 91 (l[i].pos + (srcT l[i].kind l[i].text).length))) := by
  unfold parseP at h
  rw [hl] at h
  simp only at h
  cases hq : netP (kts l) with
  | fail e i => rw [hq] at h; cases h
  | ok m L =>
    rw [hq] at h
    cases h
    have hk : (kts l).length = l.length := by simp [kts]
    obtain ⟨_, E, e1, e2, e3, e4, e5⟩ := net_begin hq hn
    refine ⟨E, e1, e2, fun x hx => by have := e3 x hx; omega, e4, fun i hi => ?_⟩
    obtain ⟨u1, _, u3⟩ := lex_upto hl hi
    have u1 : lexP (s.take (l[i].pos + (srcT l[i].kind l[i].text).length)) = .ok (l.take (i + 1)) := u1
    have u3 : l[i].pos + (srcT l[i].kind l[i].text).length ≤ s.length := u3
    refine ⟨u3, ?_⟩
    rcases e5 (i + 1) (by omega) (by omega) with ⟨x, hx, r1, r2⟩ | ⟨r1, j, r2, r3⟩
    · refine .inl ⟨x, hx, r1, ?_⟩
      unfold parseP
      rw [u1]
      simp only
      rw [kts_take, r2]
    · refine .inr ⟨r1, ?_⟩
      unfold parseP
      rw [u1]
      simp only
      rw [kts_take, r2]
      simp only [Res.err.injEq, true_and]
      unfold offs
      rw [List.getElem?_eq_none (by simp; omega)]
      simp; omega
end Go.Proofs.YtmhlneeboefkgaaDoor.Pl
