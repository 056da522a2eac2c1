import Derived.Test.YtmhlneeboefkgaaDoorP5
set_option linter.unusedVariables false
set_option linter.unusedSimpArgs false
namespace Go.Proofs.YtmhlneeboefkgaaDoor.Pl
open Go.Av Go.Av.Net
/-! ### Sizes -/
theorem lp_inv {σ : Type} {b : Bool} {k : Int} {x : Bs} {B : σ → List KT → Nat → PR σ} (q : σ → Nat) (Q : σ → Prop) (ts : List KT) (h : ∀ s i s' j, i ≤ ts.length → B s ts i = .ok s' j → j ≤ ts.length ∧ q s' + i ≤ q s + j ∧ (Q s → Q s')) :
    ∀ (f : Nat) (s : σ) (i : Nat) (s' : σ) (j : Nat), i ≤ ts.length → lpP b k x B ts f s i = .ok s' j → j ≤ ts.length ∧ q s' + i ≤ q s + j ∧ (Q s → Q s')
  | 0, s, i, s', j, hi, e => by cases e; exact ⟨hi, by omega, id⟩
  | f + 1, s, i, s', j, hi, e => by
    unfold lpP at e
    cases c : (seesP ts k x i == b) with
    | false => rw [c] at e; cases e; exact ⟨hi, by omega, id⟩
    | true =>
      rw [c] at e
      simp only [cond_true] at e
      obtain ⟨s1, j1, e1, e2⟩ := PR.bind_ok e
      obtain ⟨h0, h1, h2⟩ := h s i s1 j1 hi e1
      obtain ⟨h3, h4, h5⟩ := lp_inv q Q ts h f s1 j1 s' j h0 e2
      exact ⟨h3, by omega, fun q => h5 (h2 q)⟩
theorem Par.ok_le {α : Type} {P : List KT → Nat → PR α} (h : Par P) {ts : List KT} {i j : Nat} {a : α} (hi : i ≤ ts.length) (e : P ts i = .ok a j) : i ≤ j ∧ j ≤ ts.length := by
  have hb := (h.eb ts [] i hi).1
  rw [e] at hb
  exact hb
theorem hols_len {ts : List KT} {i j : Nat} {l : List Int} (hi : i ≤ ts.length) (e : holsP ts ts.length i = .ok l j) : l.length ≤ ts.length := by
  have h : lpP true 1 w_holiday holB ts ts.length [] i = .ok l j := by rw [hols_lp, e]; simp [PR.bind]
  have := lp_inv List.length (fun _ => True) ts (fun s i s' j hi e => by
    have hle := (par_holB s).ok_le hi e
    have hlt : i < j := lt_expect e fun a j => (par_int.bind fun n => (par_expect 3 s_semi).bind fun _ => Par.ok (s ++ [n])).up ts j
    unfold holB at e
    obtain ⟨_, _, _, e⟩ := PR.bind_ok e
    obtain ⟨_, _, _, e⟩ := PR.bind_ok e
    obtain ⟨_, _, _, e⟩ := PR.bind_ok e
    cases e
    exact ⟨hle.2, by simp; omega, id⟩) _ _ _ _ _ hi h
  simp only [List.length_nil] at this
  omega
theorem codes_len {ts : List KT} {i j : Nat} {l : List Bs} (hi : i ≤ ts.length) (e : codesP ts (ts.length + 1) i = .ok l j) : l.length + i ≤ j := by
  have h : lpP false 3 s_semi codB ts (ts.length + 1) [] i = .ok l j := by rw [codes_lp, e]; simp [PR.bind]
  have := lp_inv List.length (fun _ => True) ts (fun s i s' j hi e => by
    have hle := (par_codB s).ok_le hi e
    unfold codB at e
    obtain ⟨_, _, e1, e⟩ := PR.bind_ok e
    have := code_to e1
    cases e
    exact ⟨hle.2, by simp; omega, id⟩) _ _ _ _ _ hi h
  simp only [List.length_nil] at this
  omega
theorem codesAll_len {ts : List KT} {i j : Nat} {l : List Bs} (hi : i ≤ ts.length) (e : codesAllP ts i = .ok l j) : l.length ≤ ts.length := by
  have hj := par_codesAll.ok_le hi e
  unfold codesAllP at e
  cases c : seesP ts 1 w_codes i with
  | false => rw [c] at e; cases e; simp
  | true =>
    rw [c] at e
    simp only [cond_true] at e
    obtain ⟨_, j1, e1, e⟩ := PR.bind_ok e
    have l1 := ((par_expect 1 w_codes).ok_le hi e1).2
    obtain ⟨_, j2, e2, e⟩ := PR.bind_ok e
    have l2 := (par_code.ok_le l1 e2).2
    have := code_to e2
    obtain ⟨_, j3, e3, e⟩ := PR.bind_ok e
    have l3 := codes_len l2 e3
    have l4 := (par_codes.ok_le l2 e3).2
    obtain ⟨_, _, _, e⟩ := PR.bind_ok e
    cases e
    simp only [List.length_cons]
    omega
structure Szs (L : Nat) (n : Nw) : Prop where
  hols : ∀ c ∈ n.cals, c.hols.length ≤ L
  codes : ∀ o ∈ n.offs, o.codes.length ≤ L
theorem cal_hols {ts : List KT} {i j : Nat} {c : Bs × Cal} (hi : i ≤ ts.length) (e : calP ts i = .ok c j) : c.2.hols.length ≤ ts.length := by
  unfold calP at e
  obtain ⟨_, j1, e1, e⟩ := PR.bind_ok e
  have l := ((par_expect 1 w_calendar).ok_le hi e1).2
  obtain ⟨_, j2, e1, e⟩ := PR.bind_ok e
  have l := (par_name.ok_le l e1).2
  obtain ⟨_, j3, e1, e⟩ := PR.bind_ok e
  have l := ((par_expect 3 s_lb).ok_le l e1).2
  obtain ⟨_, j4, e1, e⟩ := PR.bind_ok e
  have l := ((par_expect 1 w_zone).ok_le l e1).2
  obtain ⟨_, j5, e1, e⟩ := PR.bind_ok e
  have l := (par_int.ok_le l e1).2
  obtain ⟨_, j6, e1, e⟩ := PR.bind_ok e
  have l := ((par_expect 3 s_semi).ok_le l e1).2
  obtain ⟨_, j7, e1, e⟩ := PR.bind_ok e
  have l := ((par_expect 1 w_week).ok_le l e1).2
  obtain ⟨_, j8, e1, e⟩ := PR.bind_ok e
  have l := (par_week.ok_le l e1).2
  obtain ⟨_, j9, e1, e⟩ := PR.bind_ok e
  have l := ((par_expect 3 s_semi).ok_le l e1).2
  obtain ⟨hs, j10, e1, e⟩ := PR.bind_ok e
  have := hols_len l e1
  obtain ⟨_, j11, _, e⟩ := PR.bind_ok e
  cases e
  exact this
theorem off_codes {ts : List KT} {n : Nw} {i j : Nat} {c : Off} (hi : i ≤ ts.length) (e : offP ts n i = .ok c j) : c.codes.length ≤ ts.length := by
  unfold offP at e
  obtain ⟨_, j1, e1, e⟩ := PR.bind_ok e
  have l := ((par_expect 1 w_office).ok_le hi e1).2
  obtain ⟨_, j2, e1, e⟩ := PR.bind_ok e
  have l := (par_name.ok_le l e1).2
  obtain ⟨_, j3, e1, e⟩ := PR.bind_ok e
  have l := ((par_expect 3 s_lb).ok_le l e1).2
  obtain ⟨_, j4, e1, e⟩ := PR.bind_ok e
  have l := ((par_expect 1 w_operator).ok_le l e1).2
  obtain ⟨_, j5, e1, e⟩ := PR.bind_ok e
  have l := ((par_ref _).ok_le l e1).2
  obtain ⟨_, j6, e1, e⟩ := PR.bind_ok e
  have l := ((par_expect 3 s_semi).ok_le l e1).2
  obtain ⟨_, j7, e1, e⟩ := PR.bind_ok e
  have l := ((par_expect 1 w_calendar).ok_le l e1).2
  obtain ⟨_, j8, e1, e⟩ := PR.bind_ok e
  have l := ((par_ref _).ok_le l e1).2
  obtain ⟨_, j9, e1, e⟩ := PR.bind_ok e
  have l := ((par_expect 3 s_semi).ok_le l e1).2
  obtain ⟨_, j10, e1, e⟩ := PR.bind_ok e
  have l := ((par_field w_pockets).ok_le l e1).2
  obtain ⟨_, j11, e1, e⟩ := PR.bind_ok e
  have l := ((par_field w_passes).ok_le l e1).2
  obtain ⟨_, j12, e1, e⟩ := PR.bind_ok e
  have l := ((par_field w_minutes).ok_le l e1).2
  obtain ⟨_, j13, e1, e⟩ := PR.bind_ok e
  have := codesAll_len l e1
  obtain ⟨_, j14, _, e⟩ := PR.bind_ok e
  cases e
  exact this
theorem mem_snoc {α : Type} {Q : α → Prop} {x : α} {l : List α} (hl : ∀ y ∈ l, Q y) (hx : Q x) : ∀ y ∈ l ++ [x], Q y := by
  intro y hy
  rcases List.mem_append.1 hy with hy | hy
  · exact hl y hy
  · rw [List.mem_singleton.1 hy]; exact hx
theorem net_small {ts : List KT} {N : Nw} {L : Nat} (h : netP ts = .ok N L) : szN N ≤ ts.length ∧ Szs ts.length N := by
  rw [netP_eq] at h
  unfold netQ sec at h
  obtain ⟨n1, j1, e1, h⟩ := PR.bind_ok h
  obtain ⟨n2, j2, e2, h⟩ := PR.bind_ok h
  obtain ⟨n3, j3, e3, h⟩ := PR.bind_ok h
  obtain ⟨n4, j4, e4, h⟩ := PR.bind_ok h
  obtain ⟨n5, j5, e5, h⟩ := PR.bind_ok h
  obtain ⟨a0, a1, a2⟩ := lp_inv szN (Szs ts.length) ts (fun s i s' j hi e => by
    have h1 := (clo_calS s).toPar.ok_le hi e
    have h2 := (clo_calS s).st _ _ _ _ e
    obtain ⟨c, k, e1, e⟩ := PR.bind_ok e
    cases e
    have := cal_hols hi e1
    exact ⟨h1.2, by simp [szN]; omega, fun q => ⟨mem_snoc q.hols this, q.codes⟩⟩) _ _ _ _ _ (Nat.zero_le _) e1
  obtain ⟨b0, b1, b2⟩ := lp_inv szN (Szs ts.length) ts (fun s i s' j hi e => by
    have h1 := (clo_operS s).toPar.ok_le hi e
    have h2 := (clo_operS s).st _ _ _ _ e
    obtain ⟨c, k, e1, e⟩ := PR.bind_ok e
    cases e
    exact ⟨h1.2, by simp [szN]; omega, fun q => ⟨q.hols, q.codes⟩⟩) _ _ _ _ _ a0 e2
  obtain ⟨c0, c1, c2⟩ := lp_inv szN (Szs ts.length) ts (fun s i s' j hi e => by
    have h1 := (clo_offS s).toPar.ok_le hi e
    have h2 := (clo_offS s).st _ _ _ _ e
    obtain ⟨c, k, e1, e⟩ := PR.bind_ok e
    cases e
    have := off_codes hi e1
    exact ⟨h1.2, by simp [szN]; omega, fun q => ⟨q.hols, mem_snoc q.codes this⟩⟩) _ _ _ _ _ b0 e3
  obtain ⟨d0, d1, d2⟩ := lp_inv szN (Szs ts.length) ts (fun s i s' j hi e => by
    have h1 := (clo_linS s).toPar.ok_le hi e
    have h2 := (clo_linS s).st _ _ _ _ e
    obtain ⟨c, k, e1, e⟩ := PR.bind_ok e
    cases e
    exact ⟨h1.2, by simp [szN]; omega, fun q => ⟨q.hols, q.codes⟩⟩) _ _ _ _ _ c0 e4
  obtain ⟨f0, f1, f2⟩ := lp_inv szN (Szs ts.length) ts (fun s i s' j hi e => by
    have h1 := (clo_clsS s).toPar.ok_le hi e
    have h2 := (clo_clsS s).st _ _ _ _ e
    obtain ⟨c, k, e1, e⟩ := PR.bind_ok e
    cases e
    exact ⟨h1.2, by simp [szN]; omega, fun q => ⟨q.hols, q.codes⟩⟩) _ _ _ _ _ d0 e5
  unfold finP at h
  cases c : decide (j5 < ts.length) <;> rw [c] at h <;> cases h
  have z : szN nw0 = 0 := rfl
  exact ⟨by omega, f2 (d2 (c2 (b2 (a2 ⟨by simp [nw0], by simp [nw0]⟩))))⟩
end Go.Proofs.YtmhlneeboefkgaaDoor.Pl
