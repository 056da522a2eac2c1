import Derived.Test.YtmhlneeboefkgaaDoorP4
set_option linter.unusedVariables false
set_option linter.unusedSimpArgs false
namespace Go.Proofs.YtmhlneeboefkgaaDoor.Pl
open Go.Av Go.Av.Net
/-! ### The lexer as a relation -/
inductive LexR : Bs → Nat → List Tok → Prop
  | nil {r p} : gap false r = r.length → LexR r p []
  | cons {r p n k t l} : gap false r < r.length → tokP (r.drop (gap false r)) = some (n, k, t) → LexR (r.drop (gap false r + n)) (p + gap false r + n) l → LexR r p (⟨k, t, p + gap false r⟩ :: l)
theorem gap_len : ∀ (b : Bool) (s : Bs), gap b s ≤ s.length
  | _, [] => by simp [gap]
  | false, b :: r => by
    have h1 := gap_len false r
    have h2 := gap_len true r
    unfold gap
    cases blankB b <;> simp
    · cases decide (b.toNat = 37) <;> simp <;> omega
    · omega
  | true, b :: r => by
    have h1 := gap_len false r
    have h2 := gap_len true r
    unfold gap
    cases decide (b.toNat = 10) <;> simp <;> omega
theorem lexGo_R (s : Bs) : ∀ (f p c : Nat) (l : List Tok), p ≤ s.length → s.length < p + f → c ≤ 3000 → lexGo s f p c = .ok l → LexR (s.drop p) p l ∧ c + l.length ≤ 3000
  | 0, p, c, l, h1, h2, h3, h => by omega
  | f + 1, p, c, l, h1, h2, h3, h => by
    have hg := gap_len false (s.drop p)
    simp only [List.length_drop] at hg
    unfold lexGo at h
    by_cases c1 : p + gap false (s.drop p) = s.length
    · rw [decide_eq_true c1, cond_true] at h
      cases h
      exact ⟨.nil (by simp; omega), by simpa using h3⟩
    · rw [decide_eq_false c1, cond_false] at h
      by_cases c2 : c = 3000
      · rw [decide_eq_true c2, cond_true] at h; cases h
      · rw [decide_eq_false c2, cond_false] at h
        cases ht : tokP (s.drop (p + gap false (s.drop p))) with
        | none => rw [ht] at h; cases h
        | some x =>
          obtain ⟨n, k, t⟩ := x
          rw [ht] at h
          simp only at h
          obtain ⟨_, t1, t2, t3⟩ := tokP_same ht [] fun c hc => by simp at hc
          simp only [List.length_drop] at t3
          cases hr : lexGo s f (p + gap false (s.drop p) + n) (c + 1) with
          | err e q => rw [hr] at h; cases h
          | ok r =>
            rw [hr] at h
            cases h
            obtain ⟨i1, i2⟩ := lexGo_R s f _ (c + 1) r (by omega) (by omega) (by omega) hr
            refine ⟨.cons (by simp; omega) (by rw [List.drop_drop]; exact ht) ?_, by simp only [List.length_cons]; omega⟩
            rw [List.drop_drop, ← Nat.add_assoc]
            exact i1
theorem R_lexGo (s : Bs) : ∀ (f p c : Nat) (l : List Tok), p ≤ s.length → s.length < p + f → c + l.length ≤ 3000 → LexR (s.drop p) p l → lexGo s f p c = .ok l
  | 0, p, c, l, h1, h2, h3, h => by omega
  | f + 1, p, c, l, h1, h2, h3, h => by
    have hg := gap_len false (s.drop p)
    simp only [List.length_drop] at hg
    unfold lexGo
    cases h with
    | nil q =>
      rw [List.length_drop] at q
      rw [decide_eq_true (by omega), cond_true]
    | cons q1 q2 q3 =>
      rename_i n k t l
      rw [List.length_drop] at q1
      simp only [List.length_cons] at h3
      rw [decide_eq_false (by omega), cond_false, decide_eq_false (by omega), cond_false]
      rw [List.drop_drop] at q2 q3
      rw [q2]
      simp only
      obtain ⟨_, t1, t2, t3⟩ := tokP_same q2 [] fun c hc => by simp at hc
      simp only [List.length_drop] at t3
      rw [R_lexGo s f (p + gap false (s.drop p) + n) (c + 1) l (by omega) (by omega) (by omega) (by rw [Nat.add_assoc]; rw [Nat.add_assoc] at q3; exact q3)]
      rfl
theorem lexP_iff {s : Bs} {l : List Tok} : lexP s = .ok l ↔ s.length ≤ 8000 ∧ l.length ≤ 3000 ∧ LexR s 0 l := by
  unfold lexP
  constructor
  · intro h
    by_cases c : 8000 < s.length
    · rw [decide_eq_true c] at h; cases h
    · rw [decide_eq_false c, cond_false] at h
      obtain ⟨h1, h2⟩ := lexGo_R s (s.length + 1) 0 0 l (by omega) (by omega) (by omega) h
      exact ⟨by omega, by omega, h1⟩
  · intro ⟨h1, h2, h3⟩
    rw [decide_eq_false (by omega), cond_false]
    exact R_lexGo s _ 0 0 l (by omega) (by omega) (by omega) h3
theorem gap_take : ∀ (b : Bool) (r : Bs) (m : Nat), gap b (r.take m) = min (gap b r) m
  | _, _, 0 => by simp [gap]
  | _, [], m + 1 => by simp [gap]
  | false, b :: r, m + 1 => by
    simp only [List.take_succ_cons]
    unfold gap
    rw [gap_take false r m, gap_take true r m]
    cases blankB b <;> simp only [cond_true, cond_false]
    · cases decide (b.toNat = 37) <;> simp only [cond_true, cond_false] <;> omega
    · omega
  | true, b :: r, m + 1 => by
    simp only [List.take_succ_cons]
    unfold gap
    rw [gap_take false r m, gap_take true r m]
    cases decide (b.toNat = 10) <;> simp only [cond_true, cond_false] <;> omega
theorem gap_app_lt : ∀ (b : Bool) (r x : Bs), gap b r < r.length → gap b (r ++ x) = gap b r
  | _, [], x, h => by simp at h
  | false, b :: r, x, h => by
    have i1 := gap_app_lt false r x
    have i2 := gap_app_lt true r x
    simp only [List.cons_append]
    unfold gap at h ⊢
    cases q : blankB b <;> rw [q] at h <;> simp only [cond_true, cond_false, List.length_cons] at h ⊢
    · cases q2 : decide (b.toNat = 37) <;> rw [q2] at h <;> simp only [cond_true, cond_false] at h ⊢
      rw [i2 (by omega)]
    · rw [i1 (by omega)]
  | true, b :: r, x, h => by
    have i1 := gap_app_lt false r x
    have i2 := gap_app_lt true r x
    simp only [List.cons_append]
    unfold gap at h ⊢
    cases q : decide (b.toNat = 10) <;> rw [q] at h <;> simp only [cond_true, cond_false, List.length_cons] at h ⊢
    · rw [i2 (by omega)]
    · rw [i1 (by omega)]
theorem gap_app_nl : ∀ (b : Bool) (r x : Bs), gap b r = r.length → gap b (r ++ 10 :: x) = r.length + 1 + gap false x
  | false, [], x, h => by simp [gap, blankB]; omega
  | true, [], x, h => by simp [gap]; omega
  | false, b :: r, x, h => by
    have i1 := gap_app_nl false r x
    have i2 := gap_app_nl true r x
    simp only [List.cons_append]
    generalize gap false x = z at *
    unfold gap at h ⊢
    cases q : blankB b <;> rw [q] at h <;> simp only [cond_true, cond_false, List.length_cons] at h ⊢
    · cases q2 : decide (b.toNat = 37) <;> rw [q2] at h <;> simp only [cond_true, cond_false] at h ⊢
      · omega
      · rw [i2 (by omega)]; omega
    · rw [i1 (by omega)]; omega
  | true, b :: r, x, h => by
    have i1 := gap_app_nl false r x
    have i2 := gap_app_nl true r x
    simp only [List.cons_append]
    generalize gap false x = z at *
    unfold gap at h ⊢
    cases q : decide (b.toNat = 10) <;> rw [q] at h <;> simp only [cond_true, cond_false, List.length_cons] at h ⊢
    · rw [i2 (by omega)]; omega
    · rw [i1 (by omega)]; omega
def Tok.src (t : Tok) : Bs := srcT t.kind t.text
def Tok.sh (d : Nat) (t : Tok) : Tok := ⟨t.kind, t.text, d + t.pos⟩
theorem LexR.pos {r : Bs} {p : Nat} {l : List Tok} (h : LexR r p l) : (∀ t ∈ l, p ≤ t.pos ∧ t.pos + (Tok.src t).length ≤ p + r.length ∧ Good t.kind t.text) ∧ l.Pairwise (fun a b => a.pos + (Tok.src a).length ≤ b.pos) := by
  induction h with
  | nil => simp
  | @cons r p n k t l q1 q2 q3 ih =>
    obtain ⟨i1, i2⟩ := ih
    obtain ⟨g1, g2⟩ := tokP_good q2
    obtain ⟨_, _, t2, t3⟩ := tokP_same q2 [] fun c hc => by simp at hc
    simp only [List.length_drop] at t3 i1
    refine ⟨fun x hx => ?_, List.pairwise_cons.2 ⟨fun x hx => ?_, i2⟩⟩
    · rcases List.mem_cons.1 hx with rfl | hx
      · refine ⟨by simp only; omega, ?_, g1⟩
        simp only [Tok.src]
        rw [g2]; omega
      · obtain ⟨j1, j2, j3⟩ := i1 x hx
        exact ⟨by omega, by omega, j3⟩
    · obtain ⟨j1, j2, j3⟩ := i1 x hx
      simp only [Tok.src] at *
      rw [g2]; omega
theorem LexR.take {r : Bs} {p : Nat} {l : List Tok} (h : LexR r p l) : ∀ m, m ≤ r.length → (∀ t ∈ l, t.pos + (Tok.src t).length ≤ p + m ∨ p + m ≤ t.pos) → LexR (r.take m) p (l.takeWhile fun t => decide (t.pos < p + m)) := by
  induction h with
  | @nil r p q =>
    intro m hm ht
    refine .nil ?_
    rw [gap_take, List.length_take]; omega
  | @cons r p n k t l q1 q2 q3 ih =>
    intro m hm ht
    have hp := q3.pos
    obtain ⟨g1, g2⟩ := tokP_good q2
    obtain ⟨_, t1, t2, t3⟩ := tokP_same q2 [] fun c hc => by simp at hc
    simp only [List.length_drop] at t3
    rw [List.takeWhile_cons]
    by_cases c : gap false r < m
    · have hle : gap false r + n ≤ m := by
        have := ht _ (List.mem_cons_self ..)
        simp only [Tok.src] at this
        rw [g2] at this
        omega
      simp only [show p + gap false r < p + m by omega, decide_true, if_true]
      have e : gap false (r.take m) = gap false r := by rw [gap_take]; omega
      have q2' : tokP ((r.take m).drop (gap false (r.take m))) = some (n, k, t) := by
        rw [e, List.drop_take]
        have := (tokP_same q2 (((r.drop (gap false r)).take (m - gap false r)).drop n) fun c hc => ?_).1
        · rw [show (r.drop (gap false r)).take n = ((r.drop (gap false r)).take (m - gap false r)).take n by rw [List.take_take, Nat.min_eq_left (by omega)], List.take_append_drop] at this
          exact this
        · refine .inr ?_
          rw [List.drop_take] at hc
          cases hq : ((r.drop (gap false r)).drop n) with
          | nil => rw [hq] at hc; simp at hc
          | cons a b =>
            rw [hq] at hc
            cases hz : m - gap false r - n with
            | zero => rw [hz] at hc; simp at hc
            | succ z => rw [hz] at hc; simpa using hc
      have i := ih (m - gap false r - n) (by simp; omega) fun x hx => by
        rcases ht x (List.mem_cons_of_mem _ hx) with h | h <;> omega
      rw [show p + gap false r + n + (m - gap false r - n) = p + m by omega] at i
      rw [← e]
      refine .cons (by rw [e]; simp; omega) q2' ?_
      rw [e, List.drop_take, show m - (gap false r + n) = m - gap false r - n by omega]
      exact i
    · simp only [show ¬ p + gap false r < p + m by omega, decide_false, Bool.false_eq_true, if_false]
      refine .nil ?_
      rw [gap_take, List.length_take]; omega
theorem takeWhile_take : ∀ (l : List Tok) (i x : Nat), (∀ (j : Nat) (h : j < l.length), j < i → l[j].pos < x) → (∀ (j : Nat) (h : j < l.length), i ≤ j → x ≤ l[j].pos) → l.takeWhile (fun t => decide (t.pos < x)) = l.take i
  | [], i, x, _, _ => by simp
  | t :: l, 0, x, _, h2 => by
    have := h2 0 (by simp) (Nat.le_refl _)
    simp only [List.getElem_cons_zero] at this
    rw [List.takeWhile_cons]
    simp [show ¬ t.pos < x by omega]
  | t :: l, i + 1, x, h1, h2 => by
    have := h1 0 (by simp) (by omega)
    simp only [List.getElem_cons_zero] at this
    rw [List.takeWhile_cons]
    simp only [this, decide_true, if_true, List.take_succ_cons]
    rw [takeWhile_take l i x (fun j h hj => by have := h1 (j + 1) (by simpa using h) (by omega); simpa using this) (fun j h hj => by have := h2 (j + 1) (by simpa using h) (by omega); simpa using this)]
theorem LexR.at_ {r : Bs} {p : Nat} {l : List Tok} (h : LexR r p l) {i j : Nat} (hi : i < l.length) (hj : j < l.length) (hij : i < j) : l[i].pos + (Tok.src l[i]).length ≤ l[j].pos := (List.pairwise_iff_getElem.1 h.pos.2) i j hi hj hij
theorem src_pos {r : Bs} {p : Nat} {l : List Tok} (h : LexR r p l) {t : Tok} (ht : t ∈ l) : 1 ≤ (Tok.src t).length := good_pos (h.pos.1 t ht).2.2
/-- The text up to the end of a token, and up to its beginning. -/
theorem lex_upto {s : Bs} {l : List Tok} (h : lexP s = .ok l) {i : Nat} (hi : i < l.length) :
    lexP (s.take (l[i].pos + (Tok.src l[i]).length)) = .ok (l.take (i + 1)) ∧ lexP (s.take l[i].pos) = .ok (l.take i) ∧ l[i].pos + (Tok.src l[i]).length ≤ s.length := by
  obtain ⟨h1, h2, h3⟩ := lexP_iff.1 h
  have hp := h3.pos.1 l[i] (List.getElem_mem hi)
  have hs := src_pos h3 (List.getElem_mem hi)
  have cases_ : ∀ (m : Nat), (∀ (j : Nat) (hj : j < l.length), j < i → l[j].pos + (Tok.src l[j]).length ≤ m) → True := fun _ _ => trivial
  refine ⟨lexP_iff.2 ⟨by simp; omega, by simp; omega, ?_⟩, lexP_iff.2 ⟨by simp; omega, by simp; omega, ?_⟩, by omega⟩
  · have := h3.take (l[i].pos + (Tok.src l[i]).length) (by omega) fun t ht => by
      obtain ⟨j, hj, rfl⟩ := List.mem_iff_getElem.1 ht
      rcases Nat.lt_trichotomy j i with c | c | c
      · have := h3.at_ hj hi c; omega
      · subst c; omega
      · have := h3.at_ hi hj c; omega
    rw [takeWhile_take l (i + 1)] at this
    · exact this
    · intro j hj hji
      rcases Nat.lt_or_ge j i with c | c
      · have := h3.at_ hj hi c; omega
      · have : j = i := by omega
        subst this; omega
    · intro j hj hji
      have := h3.at_ hi hj (by omega); omega
  · have := h3.take l[i].pos (by omega) fun t ht => by
      obtain ⟨j, hj, rfl⟩ := List.mem_iff_getElem.1 ht
      rcases Nat.lt_trichotomy j i with c | c | c
      · have := h3.at_ hj hi c; omega
      · subst c; omega
      · have := h3.at_ hi hj c; omega
    rw [takeWhile_take l i] at this
    · exact this
    · intro j hj hji
      have := h3.at_ hj hi hji
      have := src_pos h3 (List.getElem_mem hj)
      omega
    · intro j hj hji
      rcases Nat.lt_or_ge i j with c | c
      · have := h3.at_ hi hj c; omega
      · have : j = i := by omega
        subst this; omega
/-! ### Texts put together -/
def GapOK (G : Bs) : Prop := (∀ x, gap false (G ++ x) = G.length + gap false x) ∧ Bnd G ∧ G ≠ []
theorem LexR.gapped {G : Bs} (hG : GapOK G) {r : Bs} {p : Nat} {l : List Tok} (h : LexR r (p + G.length) l) : LexR (G ++ r) p l := by
  have e := hG.1 r
  cases h with
  | nil q => exact .nil (by rw [e, q]; simp)
  | @cons r p n k t l q1 q2 q3 =>
    have d : ∀ k, (G ++ r).drop (G.length + k) = r.drop k := fun k => by rw [List.drop_append, List.drop_eq_nil_of_le (by omega)]; simp
    rw [Nat.add_assoc p, ← e] at q3 ⊢
    refine .cons (by rw [e]; simp; omega) (by rw [e, d]; exact q2) ?_
    rw [e, Nat.add_assoc, d]
    rw [e] at q3
    exact q3
theorem gap_tok {k : Int} {t r : Bs} (h : Good k t) (hr : Bnd r) : gap false (srcT k t ++ r) = 0 := by
  have := h r hr
  have hp := good_pos h
  cases hs : srcT k t with
  | nil => rw [hs] at hp; simp at hp
  | cons b s =>
    rw [hs] at this
    obtain ⟨h1, h2⟩ := tokP_head (b := b) (r := s ++ r) this
    have h3 : decide (b.toNat = 37) = false := decide_eq_false fun e => h2 (UInt8.toNat_inj.1 e)
    simp only [List.cons_append]
    unfold gap
    rw [h1, h3]; rfl
theorem LexR.tok {k : Int} {t r : Bs} (h : Good k t) (hr : Bnd r) {p : Nat} {l : List Tok} (hl : LexR r (p + (srcT k t).length) l) : LexR (srcT k t ++ r) p (⟨k, t, p⟩ :: l) := by
  have e := gap_tok h hr
  have hp := good_pos h
  have := LexR.cons (r := srcT k t ++ r) (p := p) (n := (srcT k t).length) (k := k) (t := t) (l := l) (by rw [e]; simp; omega) (by rw [e]; exact h r hr) (by rw [e]; simpa using hl)
  rw [e] at this
  exact this
theorem LexR.shift {r : Bs} {p : Nat} {l : List Tok} (h : LexR r p l) (d : Nat) : LexR r (d + p) (l.map (Tok.sh d)) := by
  induction h with
  | nil q => exact .nil q
  | @cons r p n k t l q1 q2 q3 ih =>
    have := LexR.cons (p := d + p) q1 q2 (l := l.map (Tok.sh d)) (by rw [show d + p + gap false r + n = d + (p + gap false r + n) by omega]; exact ih)
    rw [show d + p + gap false r = d + (p + gap false r) by omega] at this
    exact this
theorem LexR.more {r x : Bs} {p : Nat} {l l2 : List Tok} (h : LexR r p l) (h2 : LexR x (p + r.length + 1) l2) : LexR (r ++ 10 :: x) p (l ++ l2) := by
  induction h with
  | @nil r p q =>
    rw [show r ++ 10 :: x = (r ++ [10]) ++ x by simp]
    refine LexR.gapped ⟨fun y => ?_, fun c hc => ?_, by simp⟩ (by simpa [Nat.add_assoc] using h2)
    · rw [show r ++ [10] ++ y = r ++ 10 :: y by simp, gap_app_nl false r y q]; simp
    · cases r with
      | nil => cases hc; exact ⟨by decide, by decide⟩
      | cons b r =>
        obtain rfl : b = c := by simpa using hc
        have hb : blankB b = true ∨ b.toNat = 37 := by
          unfold gap at q
          cases q1 : blankB b with
          | true => exact .inl rfl
          | false =>
            cases q2 : decide (b.toNat = 37) with
            | true => exact .inr (of_decide_eq_true q2)
            | false => rw [q1, q2] at q; simp at q
        have e : ∀ m : UInt8, b.toNat = m.toNat → b = m := fun m h => UInt8.toNat_inj.1 h
        rcases hb with hb | hb
        · simp only [blankB, Bool.or_eq_true, decide_eq_true_eq] at hb
          rcases hb with ((hb | hb) | hb) | hb
          · rw [e 32 hb]; exact ⟨by decide, by decide⟩
          · rw [e 9 hb]; exact ⟨by decide, by decide⟩
          · rw [e 10 hb]; exact ⟨by decide, by decide⟩
          · rw [e 13 hb]; exact ⟨by decide, by decide⟩
        · rw [e 37 hb]; exact ⟨by decide, by decide⟩
  | @cons r p n k t l q1 q2 q3 ih =>
    obtain ⟨_, _, t2, t3⟩ := tokP_same q2 [] fun c hc => by simp at hc
    simp only [List.length_drop] at t3
    have e := gap_app_lt false r (10 :: x) q1
    have q2' : tokP ((r ++ 10 :: x).drop (gap false r)) = some (n, k, t) := by
      rw [List.drop_append_of_le_length (by omega)]
      have := (tokP_same q2 ((r.drop (gap false r)).drop n ++ 10 :: x) fun c hc => ?_).1
      · rw [← List.append_assoc, List.take_append_drop] at this
        exact this
      · cases hq : ((r.drop (gap false r)).drop n) with
        | nil => rw [hq] at hc; cases hc; exact .inl ⟨by decide, by decide⟩
        | cons a b => rw [hq] at hc; exact .inr hc
    have i := ih (by simp only [List.length_drop]; rw [show p + gap false r + n + (r.length - (gap false r + n)) = p + r.length by omega]; exact h2)
    rw [← e]
    refine .cons (by rw [e]; simp; omega) (by rw [e]; exact q2') ?_
    rw [e, List.drop_append_of_le_length (by omega)]
    exact i
/-! ### Tokens of given texts -/
theorem good_word {x : Bs} (h1 : ∀ b ∈ x, wordB b = true) (h2 : ∃ b ∈ x, digB b = false) (h3 : x.length ≤ 20) (h4 : x.headD 0 ≠ 95) : Good 1 x := by
  intro r hr
  have e := runP_app x r h1 fun c hc => (hr c hc).1
  have hx : 1 ≤ x.length := by obtain ⟨b, hb, _⟩ := h2; exact List.length_pos_of_mem hb
  have hf : (x.filter digB).length ≠ x.length := by
    intro q
    obtain ⟨b, hb, hd⟩ := h2
    have := List.filter_eq_self.1 (List.Sublist.eq_of_length (List.filter_sublist) q) b hb
    rw [hd] at this; cases this
  have hn : numLen (x ++ r) = 0 := by unfold numLen; rw [e]; simp [hf]
  have hm : nameLen (x ++ r) = x.length := by
    unfold nameLen; rw [e]
    have hh : (x ++ r).headD 0 = x.headD 0 := by cases x with
      | nil => simp at hx
      | cons => rfl
    simp only [hf, hh, h4, decide_false, Bool.false_or, Bool.or_false, show ¬ 20 < x.length by omega]; rfl
  unfold tokP srcT
  simp only [show ¬ (1 : Int) = 4 by decide, decide_false, cond_false, hn, hm, Nat.lt_irrefl, hx, show 0 < x.length by omega, decide_true, cond_true, List.take_left]
theorem good_num {x : Bs} (h1 : ∀ b ∈ x, digB b = true) (h2 : 1 ≤ x.length) (h3 : x.length ≤ 8) : Good 2 x := by
  intro r hr
  have e := runP_app x r (fun b hb => by unfold wordB; rw [h1 b hb]; simp) fun c hc => (hr c hc).1
  rw [List.filter_eq_self.2 h1] at e
  have hn : numLen (x ++ r) = x.length := by unfold numLen; rw [e]; simp [show ¬ 8 < x.length by omega]
  unfold tokP srcT
  simp only [show ¬ (2 : Int) = 4 by decide, decide_false, cond_false, hn, show 0 < x.length by omega, decide_true, cond_true, List.take_left]
theorem nmB_word {b : UInt8} (h : (smallB b || digB b || decide (b.toNat = 95)) = true) : wordB b = true := by
  unfold wordB smallB at *
  simp only [Bool.or_eq_true] at h ⊢
  rcases h with (h | h) | h
  · exact .inl (.inl (.inr h))
  · exact .inr h
  · exact .inl (.inr h)
theorem good_name {x : Bs} (h : isNameB x = true) : Good 1 x := by
  unfold isNameB at h
  simp only [Bool.and_eq_true, decide_eq_true_eq, List.all_eq_true] at h
  obtain ⟨⟨⟨⟨h1, h2⟩, h3⟩, h4⟩, h5⟩ := h
  cases x with
  | nil => simp at h1
  | cons b x =>
    simp only [List.headD_cons] at h3
    refine good_word (fun c hc => nmB_word (h4 c hc)) ⟨b, List.mem_cons_self .., ?_⟩ (by omega) ?_
    · unfold smallB at h3
      unfold digB
      simp only [Bool.and_eq_true, decide_eq_true_eq] at h3
      simp; omega
    · simp only [List.headD_cons]
      intro e
      subst e
      exact absurd h3 (by decide)
theorem good_sym {x : Bs} (h : x ∈ [s_lb, s_rb, s_semi, s_colon]) : ∀ r, tokP (x ++ r) = some (x.length, 3, x) := by
  intro r
  simp only [List.mem_cons, List.not_mem_nil, or_false] at h
  have key : ∀ c : UInt8, wordB c = false → runP (c :: r) = (0, 0) := fun c hc => runP_nw fun d hd => by cases hd; exact hc
  rcases h with rfl | rfl | rfl | rfl
  all_goals
    unfold tokP
    first
    | rw [show s_lb ++ r = 123 :: r from rfl, (num_nw (key 123 (by decide))).1, (num_nw (key 123 (by decide))).2]
    | rw [show s_rb ++ r = 125 :: r from rfl, (num_nw (key 125 (by decide))).1, (num_nw (key 125 (by decide))).2]
    | rw [show s_semi ++ r = 59 :: r from rfl, (num_nw (key 59 (by decide))).1, (num_nw (key 59 (by decide))).2]
    | rw [show s_colon ++ r = 58 :: r from rfl, (num_nw (key 58 (by decide))).1, (num_nw (key 58 (by decide))).2]
    rfl
end Go.Proofs.YtmhlneeboefkgaaDoor.Pl
