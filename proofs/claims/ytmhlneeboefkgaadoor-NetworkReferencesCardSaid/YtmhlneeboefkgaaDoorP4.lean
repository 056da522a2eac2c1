import Derived.Test.YtmhlneeboefkgaaDoorP3
set_option linter.unusedVariables false
set_option linter.unusedSimpArgs false
namespace Go.Proofs.YtmhlneeboefkgaaDoor.Pl
open Go.Av Go.Av.Net
/-! ### Tokens -/
def srcT (k : Int) (t : Bs) : Bs := bif decide (k = 4) then 34 :: (t ++ [34]) else t
theorem runP_app : ∀ (a r : Bs), (∀ b ∈ a, wordB b = true) → (∀ c, r.head? = some c → wordB c = false) → runP (a ++ r) = (a.length, (a.filter digB).length)
  | [], r, _, hr => by
    cases r with
    | nil => rfl
    | cons c r => simp only [List.nil_append, runP]; rw [hr c rfl]; rfl
  | b :: a, r, ha, hr => by
    simp only [List.cons_append, runP]
    rw [ha b (List.mem_cons_self ..), runP_app a r (fun x hx => ha x (List.mem_cons_of_mem _ hx)) hr]
    simp only [cond_true, List.length_cons, List.filter_cons]
    cases digB b <;> simp
theorem runP_self : ∀ (s : Bs), (∀ b ∈ s.take (runP s).1, wordB b = true) ∧ (∀ c, (s.drop (runP s).1).head? = some c → wordB c = false) ∧ (runP s).1 ≤ s.length ∧ (runP s).2 = ((s.take (runP s).1).filter digB).length
  | [] => by simp [runP]
  | b :: r => by
    obtain ⟨h1, h2, h3, h4⟩ := runP_self r
    unfold runP
    cases hw : wordB b with
    | false => simp only [cond_false, List.take_zero, List.drop_zero, List.head?_cons, Option.some.injEq]; simp [hw]
    | true =>
      simp only [cond_true, List.take_succ_cons, List.drop_succ_cons, List.length_cons]
      refine ⟨fun x hx => ?_, h2, by omega, ?_⟩
      · rcases List.mem_cons.1 hx with rfl | hx
        · exact hw
        · exact h1 x hx
      · rw [List.filter_cons, h4]
        cases digB b <;> simp
theorem wordB_facts : wordB 34 = false ∧ wordB 32 = false ∧ wordB 9 = false ∧ wordB 10 = false ∧ wordB 13 = false ∧ wordB 37 = false ∧ wordB 62 = false := by decide
/-- A text with the same run. -/
theorem runP_same (s r' : Bs) (n : Nat) (hn : n = (runP s).1) (hr : ∀ c, r'.head? = some c → wordB c = false) : runP (s.take n ++ r') = runP s := by
  obtain ⟨h1, h2, h3, h4⟩ := runP_self s
  subst hn
  rw [runP_app _ _ h1 hr, ← h4]
  refine Prod.ext ?_ rfl
  simp; omega
theorem txt_bd : ∀ (f i : Nat) (r : Bs), 0 < txt f i r → i + 1 ≤ txt f i r ∧ txt f i r ≤ i + r.length
  | 0, i, r, h => by simp [txt] at h
  | f + 1, i, [], h => by simp [txt] at h
  | f + 1, i, b :: r, h => by
    unfold txt at h ⊢
    by_cases h1 : b.toNat = 34
    · rw [decide_eq_true h1, cond_true] at *; simp only [List.length_cons]; omega
    · rw [decide_eq_false h1, cond_false] at *
      cases q : (decide (b.toNat < 32) || decide (126 < b.toNat)) with
      | true => rw [q] at h; simp at h
      | false =>
        rw [q] at h
        simp only [cond_false] at h ⊢
        have := txt_bd f (i + 1) r h
        simp only [List.length_cons]; omega
theorem txt_same : ∀ (f i : Nat) (r r' : Bs), 0 < txt f i r → txt f i (r.take (txt f i r - i) ++ r') = txt f i r ∧ r.take (txt f i r - i) = r.take (txt f i r - i - 1) ++ [34]
  | 0, i, r, r', h => by simp [txt] at h
  | f + 1, i, [], r', h => by simp [txt] at h
  | f + 1, i, b :: r, r', h => by
    have hb := txt_bd (f + 1) i (b :: r) h
    by_cases h1 : b.toNat = 34
    · have e : txt (f + 1) i (b :: r) = i + 1 := by unfold txt; rw [decide_eq_true h1, cond_true]
      rw [e]
      have eb : b = 34 := UInt8.toNat_inj.1 h1
      rw [show i + 1 - i = 1 by omega]
      simp only [List.take_succ_cons, List.take_zero, List.cons_append, List.nil_append]
      refine ⟨?_, by simp [eb]⟩
      unfold txt; rw [decide_eq_true h1, cond_true]
    · cases q : (decide (b.toNat < 32) || decide (126 < b.toNat)) with
      | true => unfold txt at h; rw [decide_eq_false h1, q] at h; simp at h
      | false =>
        have e : ∀ x, txt (f + 1) i (b :: x) = txt f (i + 1) x := fun x => by rw [show txt (f + 1) i (b :: x) = bif decide (b.toNat = 34) then i + 1 else bif decide (b.toNat < 32) || decide (126 < b.toNat) then 0 else txt f (i + 1) x from rfl, decide_eq_false h1, q]; rfl
        rw [e] at h hb ⊢
        have hb2 := txt_bd f (i + 1) r h
        obtain ⟨i1, i2⟩ := txt_same f (i + 1) r r' h
        generalize txt f (i + 1) r = n at *
        obtain ⟨m, rfl⟩ : ∃ m, n = i + 1 + m + 1 := ⟨n - i - 2, by omega⟩
        rw [show i + 1 + m + 1 - i = m + 1 + 1 by omega, show m + 1 + 1 - 1 = m + 1 by omega]
        rw [show i + 1 + m + 1 - (i + 1) = m + 1 by omega] at i1 i2
        rw [show m + 1 - 1 = m by omega] at i2
        simp only [List.take_succ_cons, List.cons_append, e]
        exact ⟨i1, by rw [i2]⟩
theorem num_of (s : Bs) (h : 0 < numLen s) : numLen s = (runP s).1 := by
  unfold numLen at *
  cases q : (!decide ((runP s).2 = (runP s).1) || decide (8 < (runP s).1)) with
  | true => rw [q] at h; simp at h
  | false => rfl
theorem name_of (s : Bs) (h : 0 < nameLen s) : nameLen s = (runP s).1 := by
  unfold nameLen at *
  cases q : (decide ((runP s).2 = (runP s).1) || decide (20 < (runP s).1) || decide (s.headD 0 = 95)) with
  | true => rw [q] at h; simp at h
  | false => rfl
theorem num_eq {s s' : Bs} (h : runP s' = runP s) : numLen s' = numLen s := by unfold numLen; rw [h]
theorem name_eq {s s' : Bs} (h : runP s' = runP s) (hh : s'.headD 0 = s.headD 0) : nameLen s' = nameLen s := by unfold nameLen; rw [h, hh]
theorem headD_take {s r' : Bs} {n : Nat} (h : 0 < n) (hs : n ≤ s.length) : (s.take n ++ r').headD 0 = s.headD 0 := by
  cases s with
  | nil => simp at hs; omega
  | cons b s => cases n with
    | zero => omega
    | succ n => rfl
theorem runP_nw {s : Bs} (h : ∀ c, s.head? = some c → wordB c = false) : runP s = (0, 0) := by
  cases s with
  | nil => rfl
  | cons c s => unfold runP; rw [h c rfl]; rfl
theorem num_nw {s : Bs} (h : runP s = (0, 0)) : numLen s = 0 ∧ nameLen s = 0 := by
  unfold numLen nameLen; rw [h]; simp
theorem sym_same (s r' : Bs) (hs : 0 < symLen s) (hr : ∀ c, r'.head? = some c → c ≠ 62 ∨ (s.drop (symLen s)).head? = some c) :
    symLen (s.take (symLen s) ++ r') = symLen s ∧ symLen s ≤ s.length ∧ ∃ x ∈ syms, s.take (symLen s) = x := by
  cases hq : syms.find? (fun x => x.isPrefixOf s) with
  | none => unfold symLen at hs; rw [hq] at hs; simp at hs
  | some x =>
    have hl : symLen s = x.length := by unfold symLen; rw [hq]
    have hp := List.find?_some hq
    have hm := List.mem_of_find?_eq_some hq
    rw [List.isPrefixOf_iff_prefix] at hp
    obtain ⟨r, rfl⟩ := hp
    rw [hl] at hr ⊢
    simp only [List.take_left, List.drop_left] at *
    refine ⟨?_, by simp, x, hm, rfl⟩
    clear hl hs
    by_cases hd : x = [45]
    · subst hd
      have h1 : ∀ c, r'.head? = some c → c ≠ 62 := by
        intro c hc
        rcases hr c hc with h | h
        · exact h
        · intro e
          subst e
          cases r with
          | nil => simp at h
          | cons d r =>
            simp at h
            subst h
            simp [syms, List.find?] at hq
      unfold symLen
      cases r' with
      | nil => decide
      | cons c r' =>
        have := h1 c rfl
        have h2 : ((62 : UInt8) == c) = false := by simpa using fun e => this e.symm
        simp [syms, List.find?, List.isPrefixOf, h2]
    · simp only [syms, List.mem_cons, List.not_mem_nil, or_false] at hm
      unfold symLen
      rcases hm with rfl | rfl | rfl | rfl | rfl | rfl | rfl | rfl | rfl | rfl | rfl | rfl | rfl
      all_goals first | (exact absurd rfl hd) | simp [syms, List.find?, List.isPrefixOf]
/-- The token with which a text begins is told by its bytes and the next one. -/
theorem tokP_same {s : Bs} {n : Nat} {k : Int} {t : Bs} (h : tokP s = some (n, k, t)) (r' : Bs) (hr : ∀ c, r'.head? = some c → (wordB c = false ∧ c ≠ 62) ∨ (s.drop n).head? = some c) :
    tokP (s.take n ++ r') = some (n, k, t) ∧ s.take n = srcT k t ∧ 1 ≤ n ∧ n ≤ s.length := by
  obtain ⟨w1, w2, w3, w4⟩ := runP_self s
  unfold tokP at h
  by_cases c1 : 0 < numLen s
  · rw [decide_eq_true c1, cond_true] at h
    simp only [Option.some.injEq, Prod.mk.injEq] at h
    obtain ⟨rfl, rfl, rfl⟩ := h
    have e := num_of s c1
    have hr' : runP (s.take (numLen s) ++ r') = runP s := runP_same s r' _ e fun c hc => by
      rcases hr c hc with h | h
      · exact h.1
      · exact w2 c (by rw [← e]; exact h)
    refine ⟨?_, rfl, c1, by omega⟩
    unfold tokP
    rw [num_eq hr', decide_eq_true c1, cond_true, List.take_append_of_le_length (by simp; omega), List.take_take, Nat.min_self]
  · rw [decide_eq_false c1, cond_false] at h
    by_cases c2 : 0 < nameLen s
    · rw [decide_eq_true c2, cond_true] at h
      simp only [Option.some.injEq, Prod.mk.injEq] at h
      obtain ⟨rfl, rfl, rfl⟩ := h
      have e := name_of s c2
      have hr' : runP (s.take (nameLen s) ++ r') = runP s := runP_same s r' _ e fun c hc => by
        rcases hr c hc with h | h
        · exact h.1
        · exact w2 c (by rw [← e]; exact h)
      refine ⟨?_, rfl, c2, by omega⟩
      unfold tokP
      rw [num_eq hr', decide_eq_false c1, cond_false, name_eq hr' (headD_take c2 (by omega)), decide_eq_true c2, cond_true, List.take_append_of_le_length (by simp; omega), List.take_take, Nat.min_self]
    · rw [decide_eq_false c2, cond_false] at h
      by_cases c3 : 0 < txtLen s
      · rw [decide_eq_true c3, cond_true] at h
        simp only [Option.some.injEq, Prod.mk.injEq] at h
        obtain ⟨hn, rfl, rfl⟩ := h
        cases s with
        | nil => simp [txtLen] at c3
        | cons b s =>
          have e : ∀ x, txtLen (b :: x) = bif decide (b.toNat = 34) then txt 201 1 x else 0 := fun x => rfl
          by_cases hb : b.toNat = 34
          · rw [decide_eq_true hb] at e
            simp only [cond_true] at e
            have eb : b = 34 := UInt8.toNat_inj.1 hb
            rw [e] at c3 hn
            obtain ⟨t1, t2⟩ := txt_same 201 1 s r' c3
            have t3 := txt_bd 201 1 s c3
            subst hn
            rw [e] at *
            generalize hm : txt 201 1 s = m at *
            obtain ⟨m, rfl⟩ : ∃ m', m = m' + 2 := ⟨m - 2, by omega⟩
            rw [show m + 2 - 1 = m + 1 by omega] at t1 t2 ⊢
            rw [show m + 1 - 1 = m by omega] at t2
            have hw : ∀ x, runP (b :: x) = (0, 0) := fun x => runP_nw fun c hc => by cases hc; rw [eb]; exact wordB_facts.1
            have hz := fun x => num_nw (hw x)
            refine ⟨?_, ?_, by omega, by simp; omega⟩
            · rw [show (b :: s).take (m + 2) ++ r' = b :: (s.take (m + 1) ++ r') from rfl]
              unfold tokP
              rw [(hz _).1, (hz _).2, e]
              have e2 : txt 201 1 (s.take (m + 1) ++ r') = m + 2 := t1
              have e3 : List.take (m + 1) s ++ r' = (s.take m ++ [34]) ++ r' := by rw [t2]
              rw [e2]
              have hlen : (s.take m).length = m := by simp; omega
              simp only [Nat.lt_irrefl, decide_false, cond_false, Nat.zero_lt_succ, decide_true, cond_true, Nat.add_sub_cancel, show m + 2 - 1 = m + 1 by omega, List.take_succ_cons, List.drop_succ_cons, List.drop_zero]
              rw [e3, List.append_assoc, List.take_append_of_le_length (by omega), List.take_of_length_le (by omega)]
            · simp only [List.take_succ_cons, List.drop_succ_cons, List.drop_zero, srcT, decide_true, cond_true]
              rw [t2, eb]
          · rw [decide_eq_false hb] at e
            rw [e] at c3
            simp at c3
      · rw [decide_eq_false c3, cond_false] at h
        by_cases c4 : 0 < symLen s
        · rw [decide_eq_true c4, cond_true] at h
          simp only [Option.some.injEq, Prod.mk.injEq] at h
          obtain ⟨rfl, rfl, rfl⟩ := h
          obtain ⟨s1, s2, x, s3, s4⟩ := sym_same s r' c4 fun c hc => (hr c hc).imp (·.2) id
          refine ⟨?_, rfl, c4, s2⟩
          have hx : ∀ x ∈ syms, ∀ r, (∀ c, (x ++ r).head? = some c → wordB c = false) ∧ txtLen (x ++ r) = 0 := by
            intro x hx r
            simp only [syms, List.mem_cons, List.not_mem_nil, or_false] at hx
            rcases hx with rfl | rfl | rfl | rfl | rfl | rfl | rfl | rfl | rfl | rfl | rfl | rfl | rfl
            all_goals exact ⟨fun c hc => by cases hc; decide, rfl⟩
          obtain ⟨x1, x2⟩ := hx x s3 r'
          have hz := num_nw (runP_nw x1)
          unfold tokP
          rw [s4] at s1 ⊢
          rw [hz.1, hz.2, x2, s1]
          have hlen : x.length = symLen s := by rw [← s4]; simp; omega
          simp only [Nat.lt_irrefl, decide_false, cond_false, c4, decide_true, cond_true]
          rw [List.take_append_of_le_length (by omega), List.take_of_length_le (by omega)]
        · rw [decide_eq_false c4, cond_false] at h
          cases h
/-- What follows ends a token. -/
def Bnd (r : Bs) : Prop := ∀ c, r.head? = some c → wordB c = false ∧ c ≠ 62
def Good (k : Int) (t : Bs) : Prop := ∀ r, Bnd r → tokP (srcT k t ++ r) = some ((srcT k t).length, k, t)
theorem tokP_good {s : Bs} {n : Nat} {k : Int} {t : Bs} (h : tokP s = some (n, k, t)) : Good k t ∧ (srcT k t).length = n := by
  obtain ⟨_, h1, h2, h3⟩ := tokP_same h [] fun c hc => by simp at hc
  have hl : (srcT k t).length = n := by rw [← h1]; simp; omega
  refine ⟨fun r hr => ?_, hl⟩
  rw [← h1]
  rw [(tokP_same h r fun c hc => .inl (hr c hc)).1]
  congr 2
  simp; omega
theorem good_pos {k : Int} {t : Bs} (h : Good k t) : 1 ≤ (srcT k t).length := by
  have := h [] (fun c hc => by simp at hc)
  obtain ⟨_, h1, h2, h3⟩ := tokP_same this [] fun c hc => by simp at hc
  exact h2
/-- A token does not begin as a gap does. -/
theorem tokP_head {b : UInt8} {r : Bs} {x : Nat × Int × Bs} (h : tokP (b :: r) = some x) : blankB b = false ∧ b ≠ 37 := by
  have key : ∀ b : UInt8, (b = 32 ∨ b = 9 ∨ b = 10 ∨ b = 13 ∨ b = 37) → tokP (b :: r) = none := by
    intro b hb
    have hw : runP (b :: r) = (0, 0) := runP_nw fun c hc => by
      cases hc
      rcases hb with rfl | rfl | rfl | rfl | rfl <;> decide
    have hz := num_nw hw
    unfold tokP
    rw [hz.1, hz.2]
    rcases hb with rfl | rfl | rfl | rfl | rfl <;> rfl
  have hn : ∀ b' : UInt8, (b' = 32 ∨ b' = 9 ∨ b' = 10 ∨ b' = 13 ∨ b' = 37) → b ≠ b' := fun b' hb' e => by
    rw [e, key b' hb'] at h; cases h
  refine ⟨?_, hn 37 (by simp)⟩
  have e : ∀ (m : UInt8), b ≠ m → decide (b.toNat = m.toNat) = false := fun m hm => decide_eq_false fun q => hm (UInt8.toNat_inj.1 q)
  have e1 := e 32 (hn 32 (by simp))
  have e2 := e 9 (hn 9 (by simp))
  have e3 := e 10 (hn 10 (by simp))
  have e4 := e 13 (hn 13 (by simp))
  unfold blankB
  rw [show (32 : UInt8).toNat = 32 from rfl] at e1
  rw [show (9 : UInt8).toNat = 9 from rfl] at e2
  rw [show (10 : UInt8).toNat = 10 from rfl] at e3
  rw [show (13 : UInt8).toNat = 13 from rfl] at e4
  rw [e1, e2, e3, e4]
  rfl
end Go.Proofs.YtmhlneeboefkgaaDoor.Pl
