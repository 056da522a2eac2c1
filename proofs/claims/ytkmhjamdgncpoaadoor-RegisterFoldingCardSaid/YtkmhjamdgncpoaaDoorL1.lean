/-
  Plain laws of registers: steps, runs, streets that never claim the same numbers.
-/
import Derived.Test.YtkmhjamdgncpoaaDoorF10
set_option linter.unusedVariables false
set_option linter.unusedSimpArgs false
namespace Go.Proofs.YtkmhjamdgncpoaaDoor
open Go.Av Go.Shelf Pl Go.RowKit
namespace Pl
def nms (s : St) : List Bs := s.na :: s.al
theorem eqF_iff {a b : Bs} : eqF a b = true ↔ lowB a = lowB b := by unfold eqF; simp
theorem named_iff {s : St} {t : Bs} : namedS s t = true ↔ ∃ x ∈ nms s, lowB x = lowB t := by
  unfold namedS nms
  simp [eqF_iff]
theorem hit_iff {s o : St} : hitS s o = true ↔ (s.op = true ∧ o.op = true ∧ s.co = o.co ∧ s.lo ≤ o.hi ∧ o.lo ≤ s.hi) ∧ ∃ x ∈ nms s, ∃ y ∈ nms o, lowB x = lowB y := by
  have e : (namedS s o.na || o.al.any (namedS s)) = true ↔ ∃ x ∈ nms s, ∃ y ∈ nms o, lowB x = lowB y := by
    rw [Bool.or_eq_true, List.any_eq_true]
    constructor
    · rintro (h | ⟨y, hy, h⟩)
      · obtain ⟨x, hx, e⟩ := named_iff.1 h
        exact ⟨x, hx, o.na, by simp [nms], e⟩
      · obtain ⟨x, hx, e⟩ := named_iff.1 h
        exact ⟨x, hx, y, by simp [nms, hy], e⟩
    · rintro ⟨x, hx, y, hy, e⟩
      rcases List.mem_cons.1 hy with rfl | hy
      · exact .inl (named_iff.2 ⟨x, hx, e⟩)
      · exact .inr ⟨y, hy, named_iff.2 ⟨x, hx, e⟩⟩
  unfold hitS
  rw [Bool.and_eq_true, e]
  simp only [Bool.and_eq_true, decide_eq_true_eq]
  constructor
  · rintro ⟨⟨⟨⟨⟨h1, h2⟩, h3⟩, h4⟩, h5⟩, h6⟩
    exact ⟨⟨h1, h2, h3, h4, h5⟩, h6⟩
  · rintro ⟨⟨h1, h2, h3, h4, h5⟩, h6⟩
    exact ⟨⟨⟨⟨⟨h1, h2⟩, h3⟩, h4⟩, h5⟩, h6⟩
theorem hit_symm {s o : St} (h : hitS s o = true) : hitS o s = true := by
  obtain ⟨⟨h1, h2, h3, h4, h5⟩, x, hx, y, hy, e⟩ := hit_iff.1 h
  exact hit_iff.2 ⟨⟨h2, h1, h3.symm, h5, h4⟩, y, hy, x, hx, e.symm⟩
/-- No two streets claim the same numbers. -/
def Free (l : List St) : Prop := ∀ (i j : Nat) (s o : St), i ≠ j → l[i]? = some s → l[j]? = some o → hitS s o = false
theorem clash_free {l : List St} {n : Nat} {s : St} (h : clashS l n = false) (hs : l[n]? = some s) {j : Nat} {o : St} (hj : j ≠ n) (ho : l[j]? = some o) : hitS s o = false := by
  unfold clashS at h
  rw [hs] at h
  simp only [List.any_eq_false, List.mem_range] at h
  have hl : j < l.length := (List.getElem?_eq_some_iff.1 ho).1
  have := h j hl
  unfold hitAt at this
  rw [ho, decide_eq_true hj] at this
  simpa using this
theorem clash_no {l : List St} {n : Nat} (h : ∀ s, l[n]? = some s → ∀ j o, j ≠ n → l[j]? = some o → hitS s o = false) : clashS l n = false := by
  unfold clashS
  split
  · rename_i s hs
    rw [List.any_eq_false]
    intro j _
    unfold hitAt
    by_cases hj : j = n
    · simp [hj]
    · split
      · rename_i o ho
        rw [h s hs j o hj ho]; simp
      · simp
  · rfl
theorem mk_frame {l l' : List St} {c : Ch} {n : Nat} (h : mkS l c = .ok (l', n)) : n < l'.length ∧ (∀ j, j ≠ n → l'[j]? = l[j]?) ∧
    ((c.ki = 1 ∧ n = l.length ∧ l' = l ++ [newS c]) ∨ (c.ki ≠ 1 ∧ (n : Int) = c.sr ∧ ∃ s s', l[n]? = some s ∧ s.op = true ∧ editS s c = .ok s' ∧ l' = l.set n s')) := by
  unfold mkS at h
  split at h
  · rename_i hk
    cases h
    refine ⟨by simp, fun j hj => ?_, .inl ⟨hk, rfl, rfl⟩⟩
    rcases Nat.lt_or_ge j l.length with h1 | h1
    · rw [List.getElem?_append_left h1]
    · rw [List.getElem?_eq_none (by simp; omega), List.getElem?_eq_none (by omega)]
  · rename_i hk
    split at h
    · rename_i ho
      split at h
      · rename_i s hg
        split at h
        · rename_i s' he
          cases h
          have hl : c.sr.toNat < l.length := (List.getElem?_eq_some_iff.1 hg).1
          unfold openS at ho
          rw [hg] at ho
          simp only [Bool.and_eq_true, decide_eq_true_eq] at ho
          refine ⟨by simpa using hl, fun j hj => ?_, .inr ⟨hk, by omega, s, s', hg, ho.2, he, rfl⟩⟩
          rw [List.getElem?_set_ne (Ne.symm hj)]
        · cases h
      · cases h
    · cases h
theorem free_step {p : Option Int} {i : Nat} {l l' : List St} {c : Ch} (h : stepS p i l c = .ok l') (hf : Free l) : Free l' := by
  obtain ⟨_, _, _, _, n, hm, hc⟩ := step_ok h
  obtain ⟨_, hfr, _⟩ := mk_frame hm
  intro a b s o hab hs ho
  by_cases ha : a = n
  · subst ha
    exact clash_free hc hs (Ne.symm hab) ho
  · by_cases hb : b = n
    · subst hb
      rw [Bool.eq_false_iff]
      intro hh
      have := clash_free hc ho hab hs
      rw [hit_symm hh] at this
      cases this
    · rw [hfr a ha] at hs
      rw [hfr b hb] at ho
      exact hf a b s o hab hs ho
/-! ### Runs -/
def Runs : List Ch → Nat → Option Int → List St → List St → Prop
  | [], _, _, l, L => L = l
  | c :: r, i, p, l, L => ∃ l', stepS p i l c = .ok l' ∧ Runs r (i + 1) (some c.da) l' L
def lastDa : Option Int → List Ch → Option Int
  | p, [] => p
  | _, c :: r => lastDa (some c.da) r
theorem runs_eq : ∀ {r : List Ch} {i : Nat} {p : Option Int} {l L : List St}, Runs r i p l L → runS r i p l = (L, 0, -1)
  | [], i, p, l, L, h => by rw [show L = l from h]; rfl
  | c :: r, i, p, l, L, h => by
    obtain ⟨l', h1, h2⟩ := h
    unfold runS
    rw [h1]
    exact runs_eq h2
theorem runs_of : ∀ {r : List Ch} {i : Nat} {p : Option Int} {l : List St}, (runS r i p l).2.1 = 0 → Runs r i p l (runS r i p l).1
  | [], i, p, l, h => rfl
  | c :: r, i, p, l, h => by
    unfold runS at h ⊢
    split at h
    · rename_i he
      exact absurd h (step_ne he)
    · rename_i l' hs
      exact ⟨l', hs, runs_of h⟩
theorem runs_app : ∀ {a b : List Ch} {i : Nat} {p : Option Int} {l L : List St}, Runs (a ++ b) i p l L ↔ ∃ m, Runs a i p l m ∧ Runs b (i + a.length) (lastDa p a) m L
  | [], b, i, p, l, L => by
    simp only [List.nil_append, List.length_nil, Nat.add_zero, lastDa]
    exact ⟨fun h => ⟨l, rfl, h⟩, fun ⟨m, h1, h2⟩ => by rw [show m = l from h1] at h2; exact h2⟩
  | c :: a, b, i, p, l, L => by
    simp only [List.cons_append, Runs, List.length_cons, lastDa]
    constructor
    · rintro ⟨l', h1, h2⟩
      obtain ⟨m, h3, h4⟩ := runs_app.1 h2
      exact ⟨m, ⟨l', h1, h3⟩, by rw [show i + (a.length + 1) = i + 1 + a.length by omega]; exact h4⟩
    · rintro ⟨m, ⟨l', h1, h2⟩, h3⟩
      exact ⟨l', h1, runs_app.2 ⟨m, h2, by rw [show i + (a.length + 1) = i + 1 + a.length by omega] at h3; exact h3⟩⟩
theorem Runs.inv {Q : List St → Prop} (hq : ∀ p i l l' c, stepS p i l c = .ok l' → Q l → Q l') : ∀ {r : List Ch} {i : Nat} {p : Option Int} {l L : List St}, Runs r i p l L → Q l → Q L
  | [], i, p, l, L, h, h0 => by rw [show L = l from h]; exact h0
  | c :: r, i, p, l, L, h, h0 => by
    obtain ⟨l', h1, h2⟩ := h
    exact Runs.inv hq h2 (hq _ _ _ _ _ h1 h0)
theorem Runs.sorted : ∀ {r : List Ch} {i : Nat} {p : Option Int} {l L : List St}, Runs r i p l L → (∀ d, p = some d → ∀ c ∈ r, d ≤ c.da) ∧ r.Pairwise fun a b => a.da ≤ b.da
  | [], i, p, l, L, h => ⟨fun _ _ c hc => (by cases hc), List.Pairwise.nil⟩
  | c :: r, i, p, l, L, h => by
    obtain ⟨l', h1, h2⟩ := h
    obtain ⟨h3, h4⟩ := Runs.sorted h2
    obtain ⟨_, hd, _⟩ := step_ok h1
    refine ⟨fun d hp x hx => ?_, List.pairwise_cons.2 ⟨fun x hx => h3 _ rfl x hx, h4⟩⟩
    subst hp
    have hcd : d ≤ c.da := by
      unfold dateB at hd
      simp at hd
      exact hd
    rcases List.mem_cons.1 hx with rfl | hx
    · exact hcd
    · exact Int.le_trans hcd (h3 _ rfl x hx)
theorem Runs.good : ∀ {r : List Ch} {i : Nat} {p : Option Int} {l L : List St}, Runs r i p l L → ∀ c ∈ r, dayB c.da = true ∧ usesB c = true
  | [], i, p, l, L, h, c, hc => by cases hc
  | x :: r, i, p, l, L, h, c, hc => by
    obtain ⟨l', h1, h2⟩ := h
    rcases List.mem_cons.1 hc with rfl | hc
    · obtain ⟨_, _, h3, h4, _⟩ := step_ok h1
      exact ⟨h3, h4⟩
    · exact Runs.good h2 c hc
theorem step_len {p : Option Int} {i : Nat} {l l' : List St} {c : Ch} (h : stepS p i l c = .ok l') : l'.length = l.length + (if c.ki = 1 then 1 else 0) := by
  obtain ⟨_, _, _, _, n, hm, _⟩ := step_ok h
  obtain ⟨_, _, (⟨hk, _, rfl⟩ | ⟨hk, _, s, s', _, _, _, rfl⟩)⟩ := mk_frame hm
  · simp [hk]
  · simp [hk]
theorem Runs.len : ∀ {r : List Ch} {i : Nat} {p : Option Int} {l L : List St}, Runs r i p l L → L.length = l.length + r.countP fun c => decide (c.ki = 1)
  | [], i, p, l, L, h => by rw [show L = l from h]; simp
  | c :: r, i, p, l, L, h => by
    obtain ⟨l', h1, h2⟩ := h
    rw [Runs.len h2, step_len h1, List.countP_cons]
    split <;> simp_all <;> omega
theorem sound_iff {r : List Ch} : soundP r = true ↔ ∃ L, Runs r 0 none [] L := by
  unfold soundP buildS
  simp only [decide_eq_true_eq]
  exact ⟨fun h => ⟨_, runs_of h⟩, fun ⟨L, h⟩ => by rw [runs_eq h]⟩
theorem until_split (r : List Ch) (day : Int) : ∃ z, r = untilP r day ++ z := ⟨r.dropWhile fun c => decide (c.da ≤ day), (List.takeWhile_append_dropWhile).symm⟩
theorem at_runs {r : List Ch} (h : soundP r = true) (day : Int) : Runs (untilP r day) 0 none [] (atP r day) := by
  obtain ⟨L, hL⟩ := sound_iff.1 h
  obtain ⟨z, hz⟩ := until_split r day
  rw [hz] at hL
  obtain ⟨m, h1, h2⟩ := runs_app.1 hL
  have : atP r day = m := by
    unfold atP
    rw [h, if_pos rfl]
    unfold buildS
    rw [runs_eq h1]
  rw [this]
  exact h1
/-- The changes up to a day, where it is known which one is the first later. -/
theorem until_take {r : List Ch} {day : Int} {e : Nat} (h1 : ∀ j (hj : j < r.length), j < e → r[j].da ≤ day) (h2 : ∀ he : e < r.length, day < r[e].da) : untilP r day = r.take e := by
  unfold untilP
  rcases Nat.lt_or_ge e r.length with h | h
  · conv => lhs; rw [← List.take_append_drop e r]
    rw [List.takeWhile_append_of_pos, List.drop_eq_getElem_cons h, List.takeWhile_cons]
    · have := h2 h
      rw [if_neg (by simp; omega), List.append_nil]
    · intro c hc
      obtain ⟨j, hj, rfl⟩ := List.getElem_of_mem hc
      simp only [List.length_take] at hj
      rw [List.getElem_take]
      exact decide_eq_true (h1 j (by omega) (by omega))
  · rw [List.take_of_length_le h]
    have := List.takeWhile_append_of_pos (p := fun c : Ch => decide (c.da ≤ day)) (l₁ := r) (l₂ := []) fun c hc => by
      obtain ⟨j, hj, rfl⟩ := List.getElem_of_mem hc
      exact decide_eq_true (h1 j hj (by omega))
    simpa using this
theorem until_all {r : List Ch} {day : Int} (h : ∀ c ∈ r, c.da ≤ day) : untilP r day = r := by
  have := until_take (r := r) (day := day) (e := r.length) (fun j hj _ => h _ (List.getElem_mem hj)) (fun he => absurd he (Nat.lt_irrefl _))
  rwa [List.take_length] at this
theorem sound_app {a b : List Ch} (h : soundP (a ++ b) = true) : soundP a = true := by
  obtain ⟨L, hL⟩ := sound_iff.1 h
  obtain ⟨m, h1, _⟩ := runs_app.1 hL
  exact sound_iff.2 ⟨m, h1⟩
theorem sound_take {r : List Ch} (h : soundP r = true) (k : Nat) : soundP (r.take k) = true := by
  rw [← List.take_append_drop k r] at h
  exact sound_app h
theorem sound_build {r : List Ch} (h : soundP r = true) : (buildS r).2 = (0, -1) := by
  obtain ⟨L, hL⟩ := sound_iff.1 h
  unfold buildS
  rw [runs_eq hL]
theorem sound_sorted {r : List Ch} (h : soundP r = true) {i j : Nat} (hij : i ≤ j) (hj : j < r.length) : r[i].da ≤ r[j].da := by
  obtain ⟨L, hL⟩ := sound_iff.1 h
  rcases Nat.lt_or_ge i j with h1 | h1
  · exact List.pairwise_iff_getElem.1 hL.sorted.2 i j (by omega) hj h1
  · obtain rfl : i = j := by omega
    exact Int.le_refl _
theorem sound_day {r : List Ch} (h : soundP r = true) {c : Ch} (hc : c ∈ r) : dayB c.da = true ∧ usesB c = true := by
  obtain ⟨L, hL⟩ := sound_iff.1 h
  exact hL.good c hc
theorem at_free {r : List Ch} (h : soundP r = true) (day : Int) : Free (atP r day) := Runs.inv (fun _ _ _ _ _ => free_step) (at_runs h day) (fun i j s o _ hs _ => by simp at hs)
/-! ### What a street is always like -/
structure Full (s : St) : Prop where
  co : codeB s.co = true
  tw : nameN s.to = true
  na : nameN s.na = true
  lo : numB s.lo = true
  hi : numB s.hi = true
  le : s.lo ≤ s.hi
theorem uses1 {c : Ch} (h : usesB c = true) (hk : c.ki = 1) : codeB c.co = true ∧ nameN c.to = true ∧ nameN c.na = true ∧ numB c.lo = true ∧ numB c.hi = true ∧ c.lo ≤ c.hi := by
  unfold usesB at h
  rw [if_pos hk] at h
  simp only [Bool.and_eq_true, decide_eq_true_eq] at h
  obtain ⟨⟨⟨⟨⟨⟨h1, h2⟩, h3⟩, h4⟩, h5⟩, h6⟩, h7⟩ := h
  exact ⟨h1, h2, h3, h4, h5, h6⟩
theorem uses_sh {c : Ch} (h : usesB c = true) (hk : c.ki ≠ 4) : c.sh = 0 := by
  unfold usesB at h
  repeat' (first | (rename_i hh; exact absurd hh hk) | (cases h; done) | (simp only [Bool.and_eq_true, decide_eq_true_eq] at h; simp [h]; done) | split at h)
theorem uses_na {c : Ch} (h : usesB c = true) (hk : c.ki = 2 ∨ c.ki = 5) : nameN c.na = true := by
  unfold usesB at h
  rw [if_neg (by omega), if_pos hk] at h
  simp only [Bool.and_eq_true] at h
  exact h.1
theorem uses_co {c : Ch} (h : usesB c = true) (hk : c.ki = 3) : codeB c.co = true := by
  unfold usesB at h
  rw [if_neg (by omega), if_neg (by omega), if_pos hk] at h
  simp only [Bool.and_eq_true] at h
  exact h.1
theorem full_edit {s s' : St} {c : Ch} (hu : usesB c = true) (hs : Full s) (h : editS s c = .ok s') : Full s' := by
  unfold editS at h
  split at h
  · rename_i h2
    cases h
    exact ⟨hs.co, hs.tw, uses_na hu (.inl h2), hs.lo, hs.hi, hs.le⟩
  · split at h
    · rename_i h3
      cases h
      exact ⟨uses_co hu h3, hs.tw, hs.na, hs.lo, hs.hi, hs.le⟩
    · split at h
      · split at h
        · rename_i hb
          cases h
          simp only [Bool.and_eq_true] at hb
          exact ⟨hs.co, hs.tw, hs.na, hb.1, hb.2, by have := hs.le; simp only; omega⟩
        · cases h
      · split at h
        · split at h
          · cases h
          · cases h
            exact ⟨hs.co, hs.tw, hs.na, hs.lo, hs.hi, hs.le⟩
        · cases h
          exact ⟨hs.co, hs.tw, hs.na, hs.lo, hs.hi, hs.le⟩
theorem full_step {p : Option Int} {i : Nat} {l l' : List St} {c : Ch} (h : stepS p i l c = .ok l') (hf : ∀ s ∈ l, Full s) : ∀ s ∈ l', Full s := by
  obtain ⟨_, _, _, hu, n, hm, _⟩ := step_ok h
  obtain ⟨_, _, (⟨hk, _, rfl⟩ | ⟨hk, _, s, s', hs, _, he, rfl⟩)⟩ := mk_frame hm
  · intro x hx
    rcases List.mem_append.1 hx with hx | hx
    · exact hf x hx
    · rw [List.mem_singleton] at hx
      subst hx
      obtain ⟨h1, h2, h3, h4, h5, h6⟩ := uses1 hu hk
      exact ⟨h1, h2, h3, h4, h5, h6⟩
  · intro x hx
    rcases List.mem_or_eq_of_mem_set hx with hx | rfl
    · exact hf x hx
    · exact full_edit hu (hf s (List.mem_of_getElem? hs)) he
theorem at_full {r : List Ch} (h : soundP r = true) (day : Int) : ∀ s ∈ atP r day, Full s := Runs.inv (Q := fun l => ∀ s ∈ l, Full s) (fun _ _ _ _ _ => full_step) (at_runs h day) (fun s hs => by cases hs)
/-! ### Found streets are the only ones -/
theorem means_iff {a : Ad} {s : St} : meansS a s = true ↔ s.op = true ∧ s.co = a.co ∧ s.lo ≤ a.nu ∧ a.nu ≤ s.hi ∧ namedS s a.st = true := by
  unfold meansS
  simp only [Bool.and_eq_true, decide_eq_true_eq]
  constructor
  · rintro ⟨⟨⟨⟨h1, h2⟩, h3⟩, h4⟩, h5⟩
    exact ⟨h1, h2, h3, h4, h5⟩
  · rintro ⟨h1, h2, h3, h4, h5⟩
    exact ⟨⟨⟨⟨h1, h2⟩, h3⟩, h4⟩, h5⟩
theorem means_one {l : List St} (hf : Free l) {a b : Ad} (hco : a.co = b.co) (hnu : a.nu = b.nu) (hst : lowB a.st = lowB b.st) {i j : Nat} {s o : St} (hi : l[i]? = some s) (hj : l[j]? = some o) (hs : meansS a s = true) (ho : meansS b o = true) : i = j := by
  by_cases e : i = j
  · exact e
  · exfalso
    have hh := hf i j s o e hi hj
    obtain ⟨a1, a2, a3, a4, a5⟩ := means_iff.1 hs
    obtain ⟨b1, b2, b3, b4, b5⟩ := means_iff.1 ho
    obtain ⟨x, hx, ex⟩ := named_iff.1 a5
    obtain ⟨y, hy, ey⟩ := named_iff.1 b5
    rw [hit_iff.2 ⟨⟨a1, b1, by rw [a2, b2, hco], by omega, by omega⟩, x, hx, y, hy, by rw [ex, ey, hst]⟩] at hh
    cases hh
theorem find_one {l : List St} (hf : Free l) {a : Ad} {k : Nat} {s : St} (hk : l[k]? = some s) (hs : meansS a s = true) : findL l a = (⟨k, a.nu - s.sh⟩, 0) := by
  obtain ⟨hl, e⟩ := List.getElem?_eq_some_iff.1 hk
  have := find_at (l := l) (a := a) (k := k) hl (fun j hj hjk => by
    rw [Bool.eq_false_iff]
    intro hm
    have := means_one hf rfl rfl rfl hk (List.getElem?_eq_getElem hj) hs hm
    omega) (by rw [e]; exact hs)
  rw [this, e]
theorem find_ok {l : List St} {a : Ad} {q : Pt} (h : findL l a = (q, 0)) : ∃ (k : Nat) (s : St), l[k]? = some s ∧ meansS a s = true ∧ q = ⟨k, a.nu - s.sh⟩ := by
  unfold findL at h
  split at h
  · rename_i i hi
    obtain ⟨h1, h2, _⟩ := List.findIdx?_eq_some_iff_getElem.1 hi
    rw [List.getElem?_eq_getElem h1] at h
    cases h
    exact ⟨i, _, List.getElem?_eq_getElem h1, h2, rfl⟩
  · cases h
theorem find_err (l : List St) (a : Ad) : (findL l a).2 = 0 ∨ findL l a = (pt0, 3) := by
  unfold findL
  split
  · split
    · exact .inl rfl
    · exact .inr rfl
  · exact .inr rfl
/-- A point with an address. -/
structure Has (l : List St) (p : Pt) (s : St) : Prop where
  pos : 0 ≤ p.s
  at_ : l[p.s.toNat]? = some s
  op : s.op = true
  lo : s.lo - s.sh ≤ p.n
  hi : p.n ≤ s.hi - s.sh
def adS (s : St) (p : Pt) : Ad := ⟨[], s.na, p.n + s.sh, s.co, s.to⟩
theorem name_has {l : List St} {p : Pt} {s : St} (h : Has l p s) : nameL l p = (adS s p, 0) := by
  obtain ⟨h1, h2, h3, h4, h5⟩ := h
  unfold nameL
  rw [if_neg (by omega), h2]
  simp only
  rw [if_neg (by rw [h3, decide_eq_false (by omega), decide_eq_false (by omega)]; decide)]
  rfl
theorem name_ok {l : List St} {p : Pt} {a : Ad} (h : nameL l p = (a, 0)) : ∃ s, Has l p s ∧ a = adS s p := by
  unfold nameL at h
  split at h
  · cases h
  · split at h
    · rename_i h0 s hs
      split at h
      · cases h
      · rename_i hb
        cases h
        simp only [Bool.not_eq_true', Bool.or_eq_true, decide_eq_true_eq, not_or, Bool.not_eq_false] at hb
        obtain ⟨⟨h1, h2⟩, h3⟩ := hb
        exact ⟨s, ⟨by omega, hs, h1, by omega, by omega⟩, rfl⟩
    · cases h
theorem name_err (l : List St) (p : Pt) : (nameL l p).2 = 0 ∨ nameL l p = (ad0, 3) := by
  unfold nameL
  split
  · exact .inr rfl
  · split
    · split
      · exact .inr rfl
      · exact .inl rfl
    · exact .inr rfl
theorem named_self (s : St) : namedS s s.na = true := named_iff.2 ⟨s.na, by simp [nms], rfl⟩
theorem named_alias {s : St} {x : Bs} (h : x ∈ s.al) : namedS s x = true := named_iff.2 ⟨x, by simp [nms, h], rfl⟩
theorem named_of {s : St} {a b : Bs} (h : lowB a = lowB b) : namedS s a = namedS s b := by
  rw [Bool.eq_iff_iff, named_iff, named_iff, h]
theorem has_means {l : List St} {p : Pt} {s : St} (h : Has l p s) {t : Bs} (ht : namedS s t = true) {pe tw : Bs} : meansS ⟨pe, t, p.n + s.sh, s.co, tw⟩ s = true :=
  means_iff.2 ⟨h.op, rfl, by have := h.lo; simp only; omega, by have := h.hi; simp only; omega, ht⟩
/-- A point is found by each name of its street. -/
theorem find_has {l : List St} (hf : Free l) {p : Pt} {s : St} (h : Has l p s) {t : Bs} (ht : namedS s t = true) {pe tw : Bs} : findL l ⟨pe, t, p.n + s.sh, s.co, tw⟩ = (p, 0) := by
  rw [find_one hf h.at_ (has_means h ht)]
  have h0 := h.pos
  have e1 : ((p.s.toNat : Nat) : Int) = p.s := by omega
  have e2 : p.n + s.sh - s.sh = p.n := by omega
  rw [e1]
  simp only [e2]
end Pl
end Go.Proofs.YtkmhjamdgncpoaaDoor
