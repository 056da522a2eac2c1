import Derived.Test.YtmhlneeboefkgaaDoorP8
set_option linter.unusedVariables false
set_option linter.unusedSimpArgs false
namespace Go.Proofs.YtmhlneeboefkgaaDoor.Pl
open Go.Av Go.Av.Net
/-! ### A further class at the end, a further operator at the beginning -/
def digN : Nat → Bs := fun n => if h : n < 10 then [48 + n.toUInt8] else digN (n / 10) ++ [48 + (n % 10).toUInt8]
termination_by n => n
theorem digN_eq (n : Nat) : digN n = if n < 10 then [48 + n.toUInt8] else digN (n / 10) ++ [48 + (n % 10).toUInt8] := by
  rw [digN]; split <;> rfl
theorem dig_nat {n : Nat} (h : n < 10) : ((48 : UInt8) + n.toUInt8).toNat = 48 + n := by
  have hc : n = 0 ∨ n = 1 ∨ n = 2 ∨ n = 3 ∨ n = 4 ∨ n = 5 ∨ n = 6 ∨ n = 7 ∨ n = 8 ∨ n = 9 := by omega
  rcases hc with h | h | h | h | h | h | h | h | h | h <;> subst h <;> rfl
theorem dig_digB {n : Nat} (h : n < 10) : digB ((48 : UInt8) + n.toUInt8) = true := by
  unfold digB; rw [dig_nat h]; simp; omega
theorem digN_dig : ∀ (n : Nat), ∀ b ∈ digN n, digB b = true := by
  intro n
  induction n using Nat.strongRecOn with
  | ind n ih =>
    intro b hb
    rw [digN_eq] at hb
    split at hb
    · rename_i h
      rw [List.mem_singleton.1 hb]; exact dig_digB h
    · rename_i h
      rcases List.mem_append.1 hb with hb | hb
      · exact ih (n / 10) (by omega) b hb
      · rw [List.mem_singleton.1 hb]; exact dig_digB (by omega)
theorem digN_len (k : Nat) : ∀ n : Nat, n < 10 ^ (k + 1) → 1 ≤ (digN n).length ∧ (digN n).length ≤ k + 1 := by
  induction k with
  | zero => intro n h; rw [digN_eq, if_pos (by simpa using h)]; simp
  | succ k ih =>
    intro n h
    rw [digN_eq]
    split
    · simp
    · have := ih (n / 10) (by rw [Nat.pow_succ] at h; omega)
      simp only [List.length_append, List.length_singleton]; omega
theorem digN_val : ∀ n : Nat, decV (digN n) = n := by
  intro n
  induction n using Nat.strongRecOn with
  | ind n ih =>
    rw [digN_eq]
    split
    · rename_i h
      simp only [decV, List.foldl_cons, List.foldl_nil, dig_nat h]; omega
    · rename_i h
      have := ih (n / 10) (by omega)
      unfold decV at this ⊢
      rw [List.foldl_append, this]
      simp only [List.foldl_cons, List.foldl_nil, dig_nat (show n % 10 < 10 by omega)]
      omega
theorem good_digN {n : Nat} (h : n < 100000000) : Good 2 (digN n) := good_num (digN_dig n) (digN_len 7 n (by omega)).1 (digN_len 7 n (by omega)).2
def kwToks : List KT := keyWords.map fun x => (1, x)
theorem good_kw : ∀ x ∈ keyWords, Good 1 x := by
  intro x hx
  have : ∀ x ∈ keyWords, (∀ b ∈ x, wordB b = true) ∧ (∃ b ∈ x, digB b = false) ∧ x.length ≤ 20 ∧ x.headD 0 ≠ 95 := by decide
  obtain ⟨h1, h2, h3, h4⟩ := this x hx
  exact good_word h1 h2 h3 h4
theorem LexR.sym {x r : Bs} (hx : x ∈ [s_lb, s_rb, s_semi, s_colon]) {p : Nat} {l : List Tok} (hl : LexR r (p + x.length) l) : LexR (x ++ r) p (⟨3, x, p⟩ :: l) := by
  have h := good_sym hx r
  have hp : 1 ≤ x.length := by
    simp only [List.mem_cons, List.not_mem_nil, or_false] at hx
    rcases hx with rfl | rfl | rfl | rfl <;> decide
  have e : gap false (x ++ r) = 0 := by
    cases x with
    | nil => simp at hp
    | cons b s =>
      obtain ⟨h1, h2⟩ := tokP_head (b := b) (r := s ++ r) h
      have h3 : decide (b.toNat = 37) = false := decide_eq_false fun e => h2 (UInt8.toNat_inj.1 e)
      simp only [List.cons_append]
      unfold gap
      rw [h1, h3]; rfl
  have := LexR.cons (r := x ++ r) (p := p) (n := x.length) (k := 3) (t := x) (l := l) (by rw [e]; simp; omega) (by rw [e]; exact h) (by rw [e]; simpa using hl)
  rw [e] at this
  exact this
/-- A class, as the statement writes it. -/
def clsT (name : Bs) (a b : Nat) : Bs := w_class ++ 32 :: (name ++ 32 :: (s_lb ++ 32 :: (w_cut ++ 32 :: (digN a ++ (s_semi ++ 32 :: (w_deliver ++ 32 :: (digN b ++ (s_semi ++ 32 :: (s_rb ++ []))))))))) 
def clsK (name : Bs) (a b : Nat) : List KT := [(1, w_class), (1, name), (3, s_lb), (1, w_cut), (2, digN a), (3, s_semi), (1, w_deliver), (2, digN b), (3, s_semi), (3, s_rb)]
theorem bnd32 (r : Bs) : Bnd (32 :: r) := fun c hc => by cases hc; decide
theorem bnd59 (r : Bs) : Bnd (s_semi ++ r) := fun c hc => by cases hc; decide
theorem LexR.tokB {k : Int} {t r : Bs} (hk : k ≠ 4) (h : Good k t) {p : Nat} {l : List Tok} (hl : LexR r (p + t.length + 1) l) : LexR (t ++ 32 :: r) p (⟨k, t, p⟩ :: l) := by
  have e : srcT k t = t := by unfold srcT; rw [decide_eq_false hk]; rfl
  have := LexR.tok h (bnd32 r) (p := p) (l := l) (by rw [e]; exact LexR.gapped (G := [32]) gap32 hl)
  rw [e] at this; exact this
theorem LexR.tok59 {k : Int} {t r : Bs} (hk : k ≠ 4) (h : Good k t) {p : Nat} {l : List Tok} (hl : LexR (s_semi ++ r) (p + t.length) l) : LexR (t ++ (s_semi ++ r)) p (⟨k, t, p⟩ :: l) := by
  have e : srcT k t = t := by unfold srcT; rw [decide_eq_false hk]; rfl
  have := LexR.tok h (bnd59 r) (p := p) (l := l) (by rw [e]; exact hl)
  rw [e] at this; exact this
theorem LexR.symB {x r : Bs} (hx : x ∈ [s_lb, s_rb, s_semi, s_colon]) {p : Nat} {l : List Tok} (hl : LexR r (p + x.length + 1) l) : LexR (x ++ 32 :: r) p (⟨3, x, p⟩ :: l) :=
  LexR.sym hx (LexR.gapped (G := [32]) gap32 hl)
theorem cls_lex {name : Bs} (hn : isNameB name = true) {a b : Nat} (ha : a < 65536) (hb : b < 65536) (p : Nat) : ∃ l, LexR (clsT name a b) p l ∧ kts l = clsK name a b := by
  refine ⟨_, LexR.tokB (by decide) (good_kw _ (by decide)) (LexR.tokB (by decide) (good_name hn) (LexR.symB (by decide) (LexR.tokB (by decide) (good_kw _ (by decide)) (LexR.tok59 (by decide) (good_digN (by omega)) (LexR.symB (by decide) (LexR.tokB (by decide) (good_kw _ (by decide)) (LexR.tok59 (by decide) (good_digN (by omega)) (LexR.symB (by decide) (LexR.sym (r := []) (by decide) (LexR.nil rfl)))))))))), ?_⟩
  rfl
theorem oper_lex {name : Bs} (hn : isNameB name = true) (p : Nat) {r : Bs} {l : List Tok} (h : ∀ q, LexR r q (l.map (Tok.sh q))) : ∃ l2, LexR (w_operator ++ 32 :: (name ++ (s_semi ++ r))) p l2 ∧ kts l2 = [(1, w_operator), (1, name), (3, s_semi)] ++ kts l := by
  refine ⟨_, LexR.tokB (by decide) (good_kw _ (by decide)) (LexR.tok59 (by decide) (good_name hn) (LexR.sym (by decide) (h _))), ?_⟩
  simp [kts, Tok.sh, Function.comp_def]
theorem clsP_clsK {name : Bs} (hn : isNameB name = true) (a b : Nat) : clsP (clsK name a b) 0 = .ok ⟨name, a, b⟩ 10 := by
  have e : ∀ (k : Int) (x : Bs) (i : Nat), (clsK name a b)[i]? = some (k, x) → expectP (clsK name a b) k x i = .ok () (i + 1) := by
    intro k x i h
    unfold expectP seesP; rw [h]; simp
  have en : ∀ (x : Bs) (i : Nat), (clsK name a b)[i]? = some (2, x) → numberP (clsK name a b) i = .ok (decV x) (i + 1) := by
    intro x i h
    unfold numberP; rw [h]; simp
  unfold clsP fieldP
  rw [e 1 w_class 0 rfl]
  simp only [PR.bind]
  have : nameP (clsK name a b) 1 = .ok name 2 := by unfold nameP; rw [show (clsK name a b)[1]? = some (1, name) from rfl]; simp [hn]
  rw [show 0 + 1 = 1 from rfl, this]
  simp only [PR.bind]
  rw [e 3 s_lb 2 rfl]
  simp only [PR.bind]
  rw [e 1 w_cut 3 rfl]
  simp only [PR.bind]
  rw [en (digN a) 4 rfl]
  simp only [PR.bind]
  rw [e 3 s_semi 5 rfl]
  simp only [PR.bind]
  rw [e 1 w_deliver 6 rfl]
  simp only [PR.bind]
  rw [en (digN b) 7 rfl]
  simp only [PR.bind]
  rw [e 3 s_semi 8 rfl]
  simp only [PR.bind]
  rw [e 3 s_rb 9 rfl]
  simp only [PR.bind, digN_val]
/-- More tokens behind: the same things, and on. -/
theorem lp_ext {k : Bs} {B : Nw → List KT → Nat → PR Nw} (hB : ∀ n, Clo (B n)) (ts us : List KT) : ∀ (f : Nat) (n n' : Nw) (i j g : Nat), i ≤ ts.length → ts.length - i ≤ f → (ts ++ us).length - i ≤ g → lpP true 1 k B ts f n i = .ok n' j →
    (j < ts.length ∧ lpP true 1 k B (ts ++ us) g n i = .ok n' j) ∨ (j = ts.length ∧ ∃ g', (ts ++ us).length - ts.length ≤ g' ∧ lpP true 1 k B (ts ++ us) g n i = lpP true 1 k B (ts ++ us) g' n' ts.length)
  | 0, n, n', i, j, g, hi, hf, hg, h => by
    cases h
    have : i = ts.length := by omega
    subst this
    exact .inr ⟨rfl, g, hg, rfl⟩
  | f + 1, n, n', i, j, g, hi, hf, hg, h => by
    by_cases c : i < ts.length
    · obtain ⟨g, rfl⟩ : ∃ g', g = g' + 1 := ⟨g - 1, by simp at hg; omega⟩
      unfold lpP at h
      cases q : seesP ts 1 k i with
      | false =>
        rw [q] at h
        cases h
        refine .inl ⟨c, ?_⟩
        unfold lpP
        rw [sees_app c, q]; rfl
      | true =>
        rw [q] at h
        simp only [beq_self_eq_true, cond_true] at h
        obtain ⟨s, j1, h1, h2⟩ := PR.bind_ok h
        have hle := (hB n).toPar.ok_le hi h1
        have hlt := (hB n).st _ _ _ _ h1
        have he := (hB n).ext ts us i s j1 hi h1
        have e : lpP true 1 k B (ts ++ us) (g + 1) n i = lpP true 1 k B (ts ++ us) g s j1 := by
          rw [lpP, sees_app c, q, he]; rfl
        rw [e]
        exact lp_ext hB ts us f s n' j1 j g hle.2 (by omega) (by omega) h2
    · have : i = ts.length := by omega
      subst this
      rw [lp_end] at h
      cases h
      exact .inr ⟨rfl, g, hg, rfl⟩
/-- A section whose things do not begin as what is behind does. -/
theorem sec_ext {k : Bs} {B : Nw → List KT → Nat → PR Nw} (hB : ∀ n, Clo (B n)) {ts us : List KT} (hus : seesP us 1 k 0 = false) {n n' : Nw} {i j : Nat} (hi : i ≤ ts.length) (h : sec k B n ts i = .ok n' j) : sec k B n (ts ++ us) i = .ok n' j := by
  unfold sec at *
  rcases lp_ext hB ts us _ n n' i j (ts ++ us).length hi (by omega) (by omega) h with ⟨_, h1⟩ | ⟨rfl, g, _, h1⟩
  · exact h1
  · rw [h1]
    cases g with
    | zero => rfl
    | succ g =>
      unfold lpP
      have := sees_sh us ts 1 k 0
      rw [Nat.add_zero] at this
      rw [this, hus]; rfl
theorem net_more {ts : List KT} {n : Nw} {L : Nat} (h : netP ts = .ok n L) {name : Bs} (hn : isNameB name = true) (a b : Nat) : ∃ L', netP (ts ++ clsK name a b) = .ok { n with clss := n.clss ++ [⟨name, a, b⟩] } L' := by
  rw [netP_eq] at h ⊢
  unfold netQ at h ⊢
  obtain ⟨n1, j1, e1, h⟩ := PR.bind_ok h
  obtain ⟨n2, j2, e2, h⟩ := PR.bind_ok h
  obtain ⟨n3, j3, e3, h⟩ := PR.bind_ok h
  obtain ⟨n4, j4, e4, h⟩ := PR.bind_ok h
  obtain ⟨n5, j5, e5, h⟩ := PR.bind_ok h
  have l1 := ((par_sec clo_calS nw0).ok_le (Nat.zero_le _) e1).2
  have l2 := ((par_sec clo_operS n1).ok_le l1 e2).2
  have l3 := ((par_sec clo_offS n2).ok_le l2 e3).2
  have l4 := ((par_sec clo_linS n3).ok_le l3 e4).2
  rw [sec_ext clo_calS (by rfl) (Nat.zero_le _) e1]
  simp only [PR.bind]
  rw [sec_ext clo_operS (by rfl) l1 e2]
  simp only [PR.bind]
  rw [sec_ext clo_offS (by rfl) l2 e3]
  simp only [PR.bind]
  rw [sec_ext clo_linS (by rfl) l3 e4]
  simp only [PR.bind]
  unfold finP at h
  by_cases c : j5 < ts.length
  · rw [decide_eq_true c] at h; cases h
  · rw [decide_eq_false c] at h
    cases h
    unfold sec at e5 ⊢
    have hul : (clsK name a b).length = 10 := rfl
    rcases lp_ext clo_clsS ts (clsK name a b) _ n4 n j4 L (ts ++ clsK name a b).length l4 (by omega) (by omega) e5 with ⟨h1, _⟩ | ⟨rfl, g, hg, h1⟩
    · exact absurd h1 c
    · rw [h1]
      obtain ⟨g, rfl⟩ : ∃ g', g = g' + 1 := ⟨g - 1, by simp [hul] at hg; omega⟩
      have hs := sees_sh (clsK name a b) ts 1 w_class 0
      rw [Nat.add_zero] at hs
      have hc := clo_cls.sh (clsK name a b) ts 0 (Nat.zero_le _)
      rw [Nat.add_zero, clsP_clsK hn] at hc
      have hcs : clsS n (ts ++ clsK name a b) ts.length = .ok { n with clss := n.clss ++ [⟨name, a, b⟩] } (ts.length + 10) := by
        unfold clsS; rw [hc]; rfl
      have hend : ts.length + 10 = (ts ++ clsK name a b).length := by simp [hul]
      refine ⟨ts.length + 10, ?_⟩
      rw [lpP, hs, show seesP (clsK name a b) 1 w_class 0 = true from by simp [seesP, clsK], hcs]
      simp only [beq_self_eq_true, cond_true, PR.bind]
      rw [hend, lp_end]
      simp only [PR.bind, finP]
      rw [decide_eq_false (by omega)]
      rfl
/-! A further operator in front, where there are no calendars. -/
def addO (name : Bs) (n : Nw) : Nw := { n with opers := name :: n.opers }
theorem off_none (ts : List KT) (n : Nw) (h : n.names = []) (i : Nat) : ∀ o j, offS n ts i ≠ .ok o j := by
  intro o j e
  obtain ⟨c, k, e, _⟩ := PR.bind_ok e
  unfold offP at e
  obtain ⟨_, _, _, e⟩ := PR.bind_ok e
  obtain ⟨_, _, _, e⟩ := PR.bind_ok e
  obtain ⟨_, _, _, e⟩ := PR.bind_ok e
  obtain ⟨_, _, _, e⟩ := PR.bind_ok e
  obtain ⟨_, _, _, e⟩ := PR.bind_ok e
  obtain ⟨_, _, _, e⟩ := PR.bind_ok e
  obtain ⟨_, _, _, e⟩ := PR.bind_ok e
  obtain ⟨_, _, e1, e⟩ := PR.bind_ok e
  unfold refP at e1
  obtain ⟨_, _, _, e1⟩ := PR.bind_ok e1
  rw [h] at e1
  cases e1
theorem lin_none (ts : List KT) (n : Nw) (h : n.offs = []) (i : Nat) : ∀ o j, linS n ts i ≠ .ok o j := by
  intro o j e
  obtain ⟨c, k, e, _⟩ := PR.bind_ok e
  unfold linP at e
  obtain ⟨_, _, _, e⟩ := PR.bind_ok e
  obtain ⟨_, _, _, e⟩ := PR.bind_ok e
  obtain ⟨_, _, _, e⟩ := PR.bind_ok e
  obtain ⟨_, _, e1, e⟩ := PR.bind_ok e
  unfold refP at e1
  obtain ⟨_, _, _, e1⟩ := PR.bind_ok e1
  rw [h] at e1
  cases e1
/-- A section none of whose things is parsed. -/
theorem sec_none {k : Bs} {B : Nw → List KT → Nat → PR Nw} {ts : List KT} {n n' : Nw} {i j : Nat} (hi : i ≤ ts.length) (hB : ∀ o j, B n ts i ≠ .ok o j) (h : sec k B n ts i = .ok n' j) : n' = n ∧ j = i ∧ seesP ts 1 k i = false := by
  unfold sec at h
  cases hl : ts.length with
  | zero =>
    rw [hl] at h
    cases h
    exact ⟨rfl, rfl, sees_end (by omega)⟩
  | succ f =>
    rw [hl] at h
    unfold lpP at h
    cases c : seesP ts 1 k i with
    | false => rw [c] at h; cases h; exact ⟨rfl, rfl, rfl⟩
    | true =>
      rw [c] at h
      simp only [beq_self_eq_true, cond_true] at h
      obtain ⟨s, j1, h1, _⟩ := PR.bind_ok h
      exact absurd h1 (hB s j1)
theorem sec_stop {k : Bs} {B : Nw → List KT → Nat → PR Nw} {ts : List KT} {n : Nw} {i : Nat} (h : seesP ts 1 k i = false) : sec k B n ts i = .ok n i := by
  unfold sec
  cases hl : ts.length with
  | zero => rfl
  | succ f => unfold lpP; rw [h]; rfl
theorem lp_mp {k : Bs} {B : Nw → List KT → Nat → PR Nw} (φ : Nw → Nw) (ts : List KT) (hB : ∀ n i, B (φ n) ts i = (B n ts i).mp φ) : ∀ (f : Nat) (n : Nw) (i : Nat), lpP true 1 k B ts f (φ n) i = (lpP true 1 k B ts f n i).mp φ
  | 0, n, i => rfl
  | f + 1, n, i => by
    unfold lpP
    rw [hB]
    cases seesP ts 1 k i with
    | false => rfl
    | true => exact mp_bind fun a i => lp_mp φ ts hB f a i
theorem net_front {ts : List KT} {n : Nw} {L : Nat} (h : netP ts = .ok n L) (hc : n.cals = []) {name : Bs} (hn : isNameB name = true) : ∃ L', netP ([(1, w_operator), (1, name), (3, s_semi)] ++ ts) = .ok (addO name n) L' ∧ n.offs = [] ∧ n.lins = [] := by
  rw [netP_eq] at h ⊢
  unfold netQ at h
  obtain ⟨n1, j1, e1, h⟩ := PR.bind_ok h
  obtain ⟨n2, j2, e2, h⟩ := PR.bind_ok h
  obtain ⟨n3, j3, e3, h⟩ := PR.bind_ok h
  obtain ⟨n4, j4, e4, h⟩ := PR.bind_ok h
  obtain ⟨n5, j5, e5, h⟩ := PR.bind_ok h
  have l1 := ((par_sec clo_calS nw0).ok_le (Nat.zero_le _) e1).2
  have l2 := ((par_sec clo_operS n1).ok_le l1 e2).2
  have l3 := ((par_sec clo_offS n2).ok_le l2 e3).2
  have l4 := ((par_sec clo_linS n3).ok_le l3 e4).2
  have l5 := ((par_sec clo_clsS n4).ok_le l4 e5).2
  -- the lists of the other sections stay as they are
  have keep : ∀ {B : Nw → List KT → Nat → PR Nw} {k : Bs} {β : Type} (p : Nw → β) {m m' : Nw} {i j : Nat}, (∀ s i s' j, B s ts i = .ok s' j → p s' = p s ∧ j ≤ ts.length) → i ≤ ts.length → sec k B m ts i = .ok m' j → p m' = p m := by
    intro B k β p m m' i j hB hi e
    have : ∀ (f : Nat) (m m' : Nw) (i j : Nat), lpP true 1 k B ts f m i = .ok m' j → p m' = p m := by
      intro f
      induction f with
      | zero => intro m m' i j e; cases e; rfl
      | succ f ih =>
        intro m m' i j e
        unfold lpP at e
        cases c : seesP ts 1 k i with
        | false => rw [c] at e; cases e; rfl
        | true =>
          rw [c] at e
          simp only [beq_self_eq_true, cond_true] at e
          obtain ⟨s, j1, q1, q2⟩ := PR.bind_ok e
          rw [ih _ _ _ _ q2, (hB _ _ _ _ q1).1]
    exact this _ _ _ _ _ e
  have kO : ∀ s i s' j, operS s ts i = .ok s' j → (fun m : Nw => (m.cals, m.names, m.offs, m.lins)) s' = (fun m : Nw => (m.cals, m.names, m.offs, m.lins)) s := fun s i s' j q => by
    obtain ⟨c, k, _, q⟩ := PR.bind_ok q; cases q; rfl
  have kC : ∀ s i s' j, calS s ts i = .ok s' j → (fun m : Nw => (m.offs, m.lins)) s' = (fun m : Nw => (m.offs, m.lins)) s := fun s i s' j q => by
    obtain ⟨c, k, _, q⟩ := PR.bind_ok q; cases q; rfl
  have lp_keep : ∀ {B : Nw → List KT → Nat → PR Nw} {k : Bs} {β : Type} (p : Nw → β), (∀ s i s' j, B s ts i = .ok s' j → p s' = p s) → ∀ (f : Nat) (m m' : Nw) (i j : Nat), lpP true 1 k B ts f m i = .ok m' j → p m' = p m := by
    intro B k β p hB f
    induction f with
    | zero => intro m m' i j e; cases e; rfl
    | succ f ih =>
      intro m m' i j e
      unfold lpP at e
      cases c : seesP ts 1 k i with
      | false => rw [c] at e; cases e; rfl
      | true =>
        rw [c] at e
        simp only [beq_self_eq_true, cond_true] at e
        obtain ⟨s, j1, q1, q2⟩ := PR.bind_ok e
        rw [ih _ _ _ _ q2, hB _ _ _ _ q1]
  have a5 : n5.cals = n4.cals := lp_keep (fun m => m.cals) (fun s i s' j q => by obtain ⟨c, k, _, q⟩ := PR.bind_ok q; cases q; rfl) _ _ _ _ _ e5
  have a4 : n4.cals = n3.cals := lp_keep (fun m => m.cals) (fun s i s' j q => by obtain ⟨c, k, _, q⟩ := PR.bind_ok q; cases q; rfl) _ _ _ _ _ e4
  have a3 : n3.cals = n2.cals := lp_keep (fun m => m.cals) (fun s i s' j q => by obtain ⟨c, k, _, q⟩ := PR.bind_ok q; cases q; rfl) _ _ _ _ _ e3
  have a2 := lp_keep (fun m : Nw => (m.cals, m.names, m.offs, m.lins)) kO _ _ _ _ _ e2
  simp only [Prod.mk.injEq] at a2
  have hL : n5 = n ∧ L = j5 ∧ ¬ j5 < ts.length := by
    unfold finP at h
    by_cases c : j5 < ts.length
    · rw [decide_eq_true c] at h; cases h
    · rw [decide_eq_false c] at h; cases h; exact ⟨rfl, rfl, c⟩
  obtain ⟨rfl, rfl, hj5⟩ := hL
  have hc1 : n1.cals = [] := by rw [← a2.1, ← a3, ← a4, ← a5, hc]
  -- no calendars: the first section is empty
  have e1' : n1 = nw0 ∧ j1 = 0 := by
    unfold sec at e1
    cases hl : ts.length with
    | zero => rw [hl] at e1; cases e1; exact ⟨rfl, rfl⟩
    | succ f =>
      rw [hl] at e1
      unfold lpP at e1
      cases c : seesP ts 1 w_calendar 0 with
      | false => rw [c] at e1; cases e1; exact ⟨rfl, rfl⟩
      | true =>
        rw [c] at e1
        simp only [beq_self_eq_true, cond_true] at e1
        obtain ⟨s, k, q1, q2⟩ := PR.bind_ok e1
        exfalso
        have hk := (clo_calS nw0).toPar.ok_le (Nat.zero_le _) q1
        have hs : s.cals ≠ [] := by obtain ⟨c, k, _, q⟩ := PR.bind_ok q1; cases q; simp
        have := (lp_inv (fun _ => 0) (fun m : Nw => m.cals ≠ []) ts (fun s i s' j hi q => by
          have hle := (clo_calS s).toPar.ok_le hi q
          refine ⟨hle.2, by omega, fun _ => ?_⟩
          obtain ⟨c, k, _, q⟩ := PR.bind_ok q; cases q; simp) _ _ _ _ _ hk.2 q2).2.2 hs
        exact this hc1
  obtain ⟨rfl, rfl⟩ := e1'
  have hn2 : n2.names = [] := by rw [a2.2.1]; rfl
  have ho2 : n2.offs = [] := by rw [a2.2.2.1]; rfl
  have hl2 : n2.lins = [] := by rw [a2.2.2.2]; rfl
  obtain ⟨rfl, rfl, s3⟩ := sec_none l2 (off_none ts n2 hn2 j2) e3
  obtain ⟨rfl, rfl, s4⟩ := sec_none l3 (lin_none ts n3 ho2 j3) e4
  have b5 := lp_keep (fun m : Nw => (m.offs, m.lins)) (fun s i s' j q => by obtain ⟨c, k, _, q⟩ := PR.bind_ok q; cases q; rfl) _ _ _ _ _ e5
  simp only [Prod.mk.injEq] at b5
  refine ⟨3 + L, ?_, by rw [b5.1, ho2], by rw [b5.2, hl2]⟩
  generalize hus : ([(1, w_operator), (1, name), (3, s_semi)] : List KT) = us
  have hul : us.length = 3 := by rw [← hus]; rfl
  have hsh : ∀ (k : Int) (x : Bs) (i : Nat), seesP (us ++ ts) k x (3 + i) = seesP ts k x i := fun k x i => by rw [← hul]; exact sees_sh ts us k x i
  unfold netQ
  rw [sec_stop (k := w_calendar) (ts := us ++ ts) (by rw [← hus]; rfl)]
  simp only [PR.bind]
  have hop : operS nw0 (us ++ ts) 0 = .ok (addO name nw0) 3 := by
    have q : operP (us ++ ts) 0 = .ok name 3 := by
      rw [← hus]
      unfold operP expectP seesP nameP
      simp [PR.bind, hn]
    unfold operS; rw [q]; rfl
  have hoper : sec w_operator operS nw0 (us ++ ts) 0 = .ok (addO name n4) (3 + j4) := by
    unfold sec at e2 ⊢
    have hlen : (us ++ ts).length = (ts.length + 2) + 1 := by simp [hul]; omega
    rw [hlen, lpP, show seesP (us ++ ts) 1 w_operator 0 = true from by rw [← hus]; simp [seesP], hop]
    simp only [beq_self_eq_true, cond_true, PR.bind]
    have h1 := lp_sh (b := true) (k := 1) (x := w_operator) (fun s => (clo_operS s).toPar) ts us (ts.length + 2) (addO name nw0) 0 (Nat.zero_le _)
    rw [hul, Nat.add_zero] at h1
    rw [h1, lp_mp (k := w_operator) (addO name) ts (fun n i => by
      unfold operS
      cases operP ts i with
      | ok a j => simp [PR.bind, PR.mp, addO]
      | fail e j => rfl)]
    rw [lp_fuel (b := true) (k := 1) (x := w_operator) (fun s => (clo_operS s).toPar) (fun s ts i s' j h => (clo_operS s).st _ _ _ _ h) ts (ts.length + 2) ts.length nw0 0 (Nat.zero_le _) (by simp [ex]) (by simp [ex]), e2]
    rfl
  rw [hoper]
  simp only [PR.bind]
  rw [sec_stop (k := w_office) (ts := us ++ ts) (by rw [hsh]; exact s3)]
  simp only [PR.bind]
  rw [sec_stop (k := w_line) (ts := us ++ ts) (by rw [hsh]; exact s4)]
  simp only [PR.bind]
  have hcls : sec w_class clsS (addO name n4) (us ++ ts) (3 + j4) = .ok (addO name n5) (3 + L) := by
    have h1 := (par_sec clo_clsS (addO name n4) (k := w_class)).sh ts us j4 l2
    rw [hul] at h1
    rw [h1]
    unfold sec at e5 ⊢
    rw [lp_mp (k := w_class) (addO name) ts (fun n i => by
      unfold clsS
      cases clsP ts i with
      | ok a j => simp [PR.bind, PR.mp, addO]
      | fail e j => rfl), e5]
    rfl
  rw [hcls]
  simp only [PR.bind, finP]
  rw [decide_eq_false (by simp [hul]; omega)]
  rfl
end Go.Proofs.YtmhlneeboefkgaaDoor.Pl
