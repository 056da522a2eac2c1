import Derived.Test.YtmhlneeboefkgaaDoorP2
set_option linter.unusedVariables false
set_option linter.unusedSimpArgs false
namespace Go.Proofs.YtmhlneeboefkgaaDoor.Pl
open Go.Av Go.Av.Net
/-! ### Beginnings of a text that is parsed -/
/-- The ends of the things of a section, and the network at each. -/
def lpE (k : Bs) (B : Nw → List KT → Nat → PR Nw) (ts : List KT) : Nat → Nw → Nat → List (Nat × Nw)
  | 0, _, _ => []
  | f + 1, n, i => bif seesP ts 1 k i then (match B n ts i with | .ok s j => (j, s) :: lpE k B ts f s j | .fail _ _ => []) else []
theorem Eb.ok_lt {α : Type} {m i j : Nat} {p : PR α} {a : α} (h : Eb m i p (.ok a j)) (hj : j < m) : p = .ok a j := by
  obtain ⟨hb, h⟩ := h
  cases p with
  | ok b k =>
    by_cases c : k < m
    · exact (h.1 c).symm
    · have := h.2 (by simp only [Bd] at hb; omega); simp only [Up] at this; omega
  | fail e k =>
    by_cases c : e = 91
    · have := h.2 c; simp only [Up] at this; omega
    · have := h.1 c; cases this
section
variable {k : Bs} {B : Nw → List KT → Nat → PR Nw} (hB : ∀ n, Clo (B n))
include hB in
theorem lpE_gt (ts : List KT) : ∀ (f : Nat) (n : Nw) (i : Nat), ∀ x ∈ lpE k B ts f n i, i < x.1
  | 0, n, i, x, hx => by simp [lpE] at hx
  | f + 1, n, i, x, hx => by
    unfold lpE at hx
    cases c : seesP ts 1 k i with
    | false => rw [c] at hx; simp at hx
    | true =>
      rw [c] at hx
      simp only [cond_true] at hx
      cases q : B n ts i with
      | fail e m => rw [q] at hx; simp at hx
      | ok s j =>
        rw [q] at hx
        have := (hB n).st _ _ _ _ q
        rcases List.mem_cons.1 hx with rfl | hx
        · exact this
        · have := lpE_gt ts f s j x hx; omega
include hB in
theorem lpE_last (ts : List KT) : ∀ (f : Nat) (n n' : Nw) (i j : Nat), lpP true 1 k B ts f n i = .ok n' j → (j, n') ∈ (i, n) :: lpE k B ts f n i ∧ (∀ x ∈ (i, n) :: lpE k B ts f n i, x.1 ≤ j) ∧ ((i, n) :: lpE k B ts f n i).Pairwise (fun a b => a.1 < b.1)
  | 0, n, n', i, j, h => by cases h; simp [lpE]
  | f + 1, n, n', i, j, h => by
    unfold lpP at h
    unfold lpE
    cases c : seesP ts 1 k i with
    | false => rw [c] at h; cases h; simp
    | true =>
      rw [c] at h
      simp only [beq_self_eq_true, cond_true] at h ⊢
      obtain ⟨s, j1, h1, h2⟩ := PR.bind_ok h
      rw [h1]
      simp only
      have h0 := (hB n).st _ _ _ _ h1
      obtain ⟨q1, q2, q3⟩ := lpE_last ts f s n' j1 j h2
      refine ⟨List.mem_cons_of_mem _ q1, fun x hx => ?_, ?_⟩
      · rcases List.mem_cons.1 hx with rfl | hx
        · have := q2 _ (List.mem_cons_self ..); simp only at *; omega
        · exact q2 x hx
      · refine List.pairwise_cons.2 ⟨fun x hx => ?_, q3⟩
        rcases List.mem_cons.1 hx with rfl | hx
        · exact h0
        · have := lpE_gt hB ts f s j1 x hx; simp only; omega
theorem lp_end (ts : List KT) : ∀ (f : Nat) (n : Nw), lpP true 1 k B ts f n ts.length = .ok n ts.length
  | 0, n => rfl
  | f + 1, n => by unfold lpP; rw [sees_end (Nat.le_refl _)]; rfl
include hB in
theorem lp_cut (ts us : List KT) : ∀ (g f : Nat) (n n' : Nw) (i j : Nat), i ≤ ts.length → ts.length - i ≤ f → lpP true 1 k B (ts ++ us) g n i = .ok n' j → ts.length ≤ j →
    (∃ x ∈ (i, n) :: lpE k B (ts ++ us) g n i, x.1 = ts.length ∧ lpP true 1 k B ts f n i = .ok x.2 ts.length) ∨ ((∀ x ∈ (i, n) :: lpE k B (ts ++ us) g n i, x.1 ≠ ts.length) ∧ ∃ m, lpP true 1 k B ts f n i = .fail 91 m) := by
  intro g
  induction g with
  | zero =>
    intro f n n' i j hi hf h hj
    cases h
    have : i = ts.length := by omega
    subst this
    exact .inl ⟨_, List.mem_cons_self .., rfl, lp_end ts f n⟩
  | succ g ih =>
    intro f n n' i j hi hf h hj
    by_cases c : i < ts.length
    · obtain ⟨f, rfl⟩ : ∃ f', f = f' + 1 := ⟨f - 1, by omega⟩
      unfold lpP at h ⊢
      unfold lpE
      rw [sees_app c] at *
      cases c2 : seesP ts 1 k i with
      | false => rw [c2] at h; cases h; omega
      | true =>
        rw [c2] at h
        simp only [beq_self_eq_true, cond_true] at h ⊢
        obtain ⟨s, j1, h1, h2⟩ := PR.bind_ok h
        have h0 := (hB n).st _ _ _ _ h1
        obtain ⟨q1, q2⟩ := (hB n).cut ts us i s j1 hi h1
        rw [h1]
        simp only
        by_cases c3 : j1 ≤ ts.length
        · rw [q1 c3]
          simp only [PR.bind]
          rcases ih f s n' j1 j c3 (by omega) h2 hj with ⟨x, hx, r1, r2⟩ | ⟨r1, r2⟩
          · exact .inl ⟨x, List.mem_cons_of_mem _ hx, r1, r2⟩
          · refine .inr ⟨fun x hx => ?_, r2⟩
            rcases List.mem_cons.1 hx with rfl | hx
            · simp only; omega
            · exact r1 x hx
        · obtain ⟨m, hm⟩ := q2 (by omega)
          rw [hm]
          refine .inr ⟨fun x hx => ?_, ⟨m, rfl⟩⟩
          rcases List.mem_cons.1 hx with rfl | hx
          · simp only; omega
          · rcases List.mem_cons.1 hx with rfl | hx
            · simp only; omega
            · have := lpE_gt hB _ _ _ _ x hx; omega
    · have : i = ts.length := by omega
      subst this
      exact .inl ⟨_, List.mem_cons_self .., rfl, lp_end ts f n⟩
end
inductive Th where
  | cal (n : Bs) (c : Cal)
  | oper (n : Bs)
  | off (o : Off)
  | lin (l : Lin)
  | cls (c : Cls)
/-- The things of a network in their order. -/
def flat (n : Nw) : List Th := List.zipWith Th.cal n.names n.cals ++ (n.opers.map Th.oper ++ (n.offs.map Th.off ++ (n.lins.map Th.lin ++ n.clss.map Th.cls)))
structure Ph where
  key : Bs
  B : Nw → List KT → Nat → PR Nw
  lv : Nw → Prop
structure PhOK (p : Ph) : Prop where
  clo : ∀ n, Clo (p.B n)
  nms : ∀ s, p.lv s → s.names.length = s.cals.length
  step : ∀ s ts i s' j, p.lv s → p.B s ts i = .ok s' j → p.lv s' ∧ ∃ t, flat s' = flat s ++ [t]
def run : List Ph → List KT → Nw → Nat → PR Nw
  | [], ts, n, i => finP n ts i
  | p :: r, ts, n, i => (sec p.key p.B n ts i).bind fun n i => run r ts n i
def runE : List Ph → List KT → Nw → Nat → List (Nat × Nw)
  | [], _, _, _ => []
  | p :: r, ts, n, i => lpE p.key p.B ts ts.length n i ++ (match sec p.key p.B n ts i with | .ok n j => runE r ts n j | .fail _ _ => [])
inductive Chn : List Ph → Prop
  | nil : Chn []
  | one {p} : PhOK p → Chn [p]
  | cons {p q r} : PhOK p → (∀ n, p.lv n → q.lv n) → Chn (q :: r) → Chn (p :: q :: r)
theorem Chn.ok {p : Ph} {r : List Ph} (h : Chn (p :: r)) : PhOK p := by cases h <;> assumption
theorem Chn.tail {p : Ph} {r : List Ph} (h : Chn (p :: r)) : Chn r := by cases h <;> first | assumption | exact .nil
theorem run_end : ∀ (r : List Ph) (ts : List KT) (n : Nw), run r ts n ts.length = .ok n ts.length
  | [], ts, n => by unfold run finP; rw [decide_eq_false (by omega)]; rfl
  | p :: r, ts, n => by
    unfold run sec
    rw [lp_end]
    exact run_end r ts n
theorem runE_gt : ∀ (r : List Ph), Chn r → ∀ (ts : List KT) (n : Nw) (i : Nat), ∀ x ∈ runE r ts n i, i < x.1
  | [], _, ts, n, i, x, hx => by simp [runE] at hx
  | p :: r, h, ts, n, i, x, hx => by
    unfold runE at hx
    rcases List.mem_append.1 hx with hx | hx
    · exact lpE_gt h.ok.clo _ _ _ _ x hx
    · cases q : sec p.key p.B n ts i with
      | fail e k => rw [q] at hx; simp at hx
      | ok n' j =>
        rw [q] at hx
        have h1 := runE_gt r h.tail ts n' j x hx
        have h2 := (par_sec h.ok.clo n (k := p.key)).up ts i
        rw [q] at h2
        simp only [Up] at h2
        omega
theorem runE_sorted : ∀ (r : List Ph), Chn r → ∀ (ts : List KT) (n N : Nw) (i L : Nat), run r ts n i = .ok N L → (runE r ts n i).Pairwise (fun a b => a.1 < b.1) ∧ ∀ x ∈ runE r ts n i, x.1 ≤ L
  | [], _, ts, n, N, i, L, _ => by simp [runE]
  | p :: r, h, ts, n, N, i, L, hr => by
    unfold run at hr
    obtain ⟨n', j, h1, h2⟩ := PR.bind_ok hr
    unfold runE
    rw [h1]
    simp only
    obtain ⟨q1, q2, q3⟩ := lpE_last h.ok.clo ts _ _ _ _ _ h1
    obtain ⟨r1, r2⟩ := runE_sorted r h.tail ts n' N j L h2
    have hjL : j ≤ L := by
      clear r1 r2
      have : ∀ (r : List Ph), Chn r → ∀ n j, Up j (run r ts n j) := by
        intro r
        induction r with
        | nil => intro _ n j; exact (par_fin n).up ts j
        | cons p r ih => intro hc n j; exact ((par_sec hc.ok.clo n).up ts j).bind fun a j => ih hc.tail a j
      exact (this r h.tail n' j).lt h2
    refine ⟨List.pairwise_append.2 ⟨(List.pairwise_cons.1 q3).2, r1, fun a ha b hb => ?_⟩, fun x hx => ?_⟩
    · have := q2 a (List.mem_cons_of_mem _ ha)
      have := runE_gt r h.tail ts n' j b hb
      omega
    · rcases List.mem_append.1 hx with hx | hx
      · have := q2 x (List.mem_cons_of_mem _ hx); omega
      · exact r2 x hx
theorem run_cut (ts us : List KT) : ∀ (r : List Ph), Chn r → ∀ (n N : Nw) (i L : Nat), i ≤ ts.length → ts.length ≤ L → run r (ts ++ us) n i = .ok N L → L = (ts ++ us).length →
    (∃ x ∈ (i, n) :: runE r (ts ++ us) n i, x.1 = ts.length ∧ run r ts n i = .ok x.2 ts.length) ∨ ((∀ x ∈ (i, n) :: runE r (ts ++ us) n i, x.1 ≠ ts.length) ∧ ∃ m, run r ts n i = .fail 91 m)
  | [], _, n, N, i, L, hi, hL, h, hLL => by
    unfold run finP at h
    by_cases c : i < (ts ++ us).length
    · rw [decide_eq_true c] at h; cases h
    · have : i = ts.length := by simp at c; omega
      subst this
      exact .inl ⟨_, List.mem_cons_self .., rfl, run_end [] ts n⟩
  | p :: r, hc, n, N, i, L, hi, hL, h, hLL => by
    unfold run at h ⊢
    obtain ⟨n', j, h1, h2⟩ := PR.bind_ok h
    unfold runE
    rw [h1]
    simp only
    obtain ⟨q1, q2, q3⟩ := lpE_last hc.ok.clo (ts ++ us) _ _ _ _ _ h1
    by_cases c : j < ts.length
    · have hE := (par_sec hc.ok.clo n (k := p.key)).eb ts us i hi
      rw [h1] at hE
      rw [hE.ok_lt c]
      simp only [PR.bind]
      rcases run_cut ts us r hc.tail n' N j L (by omega) hL h2 hLL with ⟨x, hx, r1, r2⟩ | ⟨r1, r2⟩
      · refine .inl ⟨x, ?_, r1, r2⟩
        rcases List.mem_cons.1 hx with rfl | hx
        · simp only at r1; omega
        · exact List.mem_cons_of_mem _ (List.mem_append_right _ hx)
      · refine .inr ⟨fun x hx => ?_, r2⟩
        rw [← List.cons_append] at hx
        rcases List.mem_append.1 hx with hx | hx
        · have := q2 x hx; omega
        · exact r1 x (List.mem_cons_of_mem _ hx)
    · rcases lp_cut hc.ok.clo ts us _ ts.length n n' i j hi (by omega) h1 (by omega) with ⟨x, hx, r1, r2⟩ | ⟨r1, m, r2⟩
      · refine .inl ⟨x, ?_, r1, ?_⟩
        · rw [← List.cons_append]; exact List.mem_append_left _ hx
        · unfold sec
          rw [r2]
          exact run_end r ts x.2
      · refine .inr ⟨fun x hx => ?_, m, by unfold sec; rw [r2]; rfl⟩
        rw [← List.cons_append] at hx
        rcases List.mem_append.1 hx with hx | hx
        · exact r1 x hx
        · have := runE_gt r hc.tail (ts ++ us) n' j x hx; omega
/-- Each network is the one before it with a thing more. -/
inductive Steps : Nw → List (Nat × Nw) → Nw → Prop
  | nil (n) : Steps n [] n
  | cons {n j s t r N} : flat s = flat n ++ [t] → s.names.length = s.cals.length → Steps s r N → Steps n ((j, s) :: r) N
theorem Steps.app {n m N : Nw} {a b : List (Nat × Nw)} (h : Steps n a m) (h2 : Steps m b N) : Steps n (a ++ b) N := by
  induction h with
  | nil => exact h2
  | cons q q2 _ ih => exact .cons q q2 (ih h2)
theorem lp_steps {p : Ph} (hp : PhOK p) (ts : List KT) : ∀ (f : Nat) (n n' : Nw) (i j : Nat), p.lv n → lpP true 1 p.key p.B ts f n i = .ok n' j → p.lv n' ∧ Steps n (lpE p.key p.B ts f n i) n'
  | 0, n, n', i, j, hl, h => by cases h; exact ⟨hl, .nil _⟩
  | f + 1, n, n', i, j, hl, h => by
    unfold lpP at h
    unfold lpE
    cases c : seesP ts 1 p.key i with
    | false => rw [c] at h; cases h; exact ⟨hl, .nil _⟩
    | true =>
      rw [c] at h
      simp only [beq_self_eq_true, cond_true] at h ⊢
      obtain ⟨s, j1, h1, h2⟩ := PR.bind_ok h
      rw [h1]
      obtain ⟨k1, t, k2⟩ := hp.step _ _ _ _ _ hl h1
      obtain ⟨k3, k4⟩ := lp_steps hp ts f s n' j1 j k1 h2
      exact ⟨k3, .cons k2 (hp.nms _ k1) k4⟩
theorem run_steps (ts : List KT) : ∀ (r : List Ph), Chn r → ∀ (n N : Nw) (i L : Nat), (∀ p, r.head? = some p → p.lv n) → run r ts n i = .ok N L → Steps n (runE r ts n i) N
  | [], _, n, N, i, L, _, h => by
    unfold run finP at h
    cases c : decide (i < ts.length) <;> rw [c] at h <;> cases h
    exact .nil _
  | p :: r, hc, n, N, i, L, hl, h => by
    unfold run at h
    obtain ⟨n', j, h1, h2⟩ := PR.bind_ok h
    unfold runE
    rw [h1]
    obtain ⟨k1, k2⟩ := lp_steps hc.ok ts _ _ _ _ _ (hl p rfl) h1
    refine k2.app (run_steps ts r hc.tail n' N j L (fun q hq => ?_) h2)
    cases hc with
    | one _ => cases hq
    | cons _ h3 _ => cases hq; exact h3 _ k1
theorem Steps.get {n N : Nw} {E : List (Nat × Nw)} (h : Steps n E N) : (flat N).length = (flat n).length + E.length ∧ (∃ x, flat N = flat n ++ x) ∧ ∀ (k : Nat) (hk : k < E.length), flat E[k].2 = (flat N).take ((flat n).length + k + 1) ∧ E[k].2.names.length = E[k].2.cals.length := by
  induction h with
  | nil n => simp
  | @cons n j s t r N q q0 _ ih =>
    obtain ⟨h1, ⟨x, h2⟩, h3⟩ := ih
    rw [q] at h1 h2
    refine ⟨by simp at h1 ⊢; omega, ⟨[t] ++ x, by rw [h2]; simp⟩, fun k hk => ?_⟩
    cases k with
    | zero =>
      simp only [List.getElem_cons_zero]
      refine ⟨?_, q0⟩
      rw [q, h2]
      rw [List.take_append_of_le_length (by simp)]
      rw [List.take_of_length_le (by simp)]
    | succ k =>
      simp only [List.getElem_cons_succ]
      refine ⟨?_, (h3 k (by simpa using hk)).2⟩
      rw [(h3 k (by simpa using hk)).1, q]
      simp only [List.length_append, List.length_singleton]
      congr 1; omega
def getC : Th → Option Cal | .cal _ c => some c | _ => none
def getN : Th → Option Bs | .cal n _ => some n | _ => none
def getP : Th → Option Bs | .oper n => some n | _ => none
def getO : Th → Option Off | .off n => some n | _ => none
def getL : Th → Option Lin | .lin n => some n | _ => none
def getK : Th → Option Cls | .cls n => some n | _ => none
theorem flat_inj {a b : Nw} (ha : a.names.length = a.cals.length) (hb : b.names.length = b.cals.length) (h : flat a = flat b) : a = b := by
  have key : ∀ (n : Nw), n.names.length = n.cals.length → (flat n).filterMap getC = n.cals ∧ (flat n).filterMap getN = n.names ∧ (flat n).filterMap getP = n.opers ∧ (flat n).filterMap getO = n.offs ∧ (flat n).filterMap getL = n.lins ∧ (flat n).filterMap getK = n.clss := by
    intro n hn
    obtain ⟨c, nm, o, f, l, k⟩ := n
    simp only at hn
    have e1 : ∀ (a : List Bs) (b : List Cal), a.length = b.length → (List.zipWith Th.cal a b).filterMap getC = b ∧ (List.zipWith Th.cal a b).filterMap getN = a ∧ (List.zipWith Th.cal a b).filterMap getP = [] ∧ (List.zipWith Th.cal a b).filterMap getO = [] ∧ (List.zipWith Th.cal a b).filterMap getL = [] ∧ (List.zipWith Th.cal a b).filterMap getK = [] := by
      intro a
      induction a with
      | nil => intro b hb; cases b with
        | nil => simp
        | cons _ _ => simp at hb
      | cons x a ih => intro b hb; cases b with
        | nil => simp at hb
        | cons y b =>
          obtain ⟨i1, i2, i3, i4, i5, i6⟩ := ih b (by simpa using hb)
          refine ⟨?_, ?_, ?_, ?_, ?_, ?_⟩ <;> simp only [List.zipWith_cons_cons, List.filterMap_cons, i1, i2, i3, i4, i5, i6] <;> rfl
    obtain ⟨i1, i2, i3, i4, i5, i6⟩ := e1 nm c hn
    have nl : ∀ {α β : Type} (l : List α), l.filterMap (fun _ => (none : Option β)) = [] := fun l => by simp
    have sm : ∀ {α : Type} (l : List α), l.filterMap (fun x => some x) = l := fun l => by simp
    simp only [flat, List.filterMap_append, List.filterMap_map, i1, i2, i3, i4, i5, i6, List.nil_append]
    refine ⟨?_, ?_, ?_, ?_, ?_, ?_⟩ <;> simp only [Function.comp_def, getC, getN, getP, getO, getL, getK, nl, sm, List.append_nil, List.nil_append]
  obtain ⟨a1, a2, a3, a4, a5, a6⟩ := key a ha
  obtain ⟨b1, b2, b3, b4, b5, b6⟩ := key b hb
  rw [h] at a1 a2 a3 a4 a5 a6
  cases a; cases b
  simp only at *
  subst a1 a2 a3 a4 a5 a6
  simp only [b1, b2, b3, b4, b5, b6]
def szN (n : Nw) : Nat := n.cals.length + n.opers.length + n.offs.length + n.lins.length + n.clss.length
/-- The network of the first things. -/
def firstN (n : Nw) (k : Nat) : Nw :=
  let c1 := min k n.cals.length
  let k1 := k - c1
  let c2 := min k1 n.opers.length
  let k2 := k1 - c2
  let c3 := min k2 n.offs.length
  let k3 := k2 - c3
  let c4 := min k3 n.lins.length
  let k4 := k3 - c4
  ⟨n.cals.take c1, n.names.take c1, n.opers.take c2, n.offs.take c3, n.lins.take c4, n.clss.take (min k4 n.clss.length)⟩
theorem flat_len (n : Nw) (h : n.names.length = n.cals.length) : (flat n).length = szN n := by
  simp only [flat, szN, List.length_append, List.length_zipWith, List.length_map]; omega
theorem flat_first (n : Nw) (h : n.names.length = n.cals.length) (k : Nat) : flat (firstN n k) = (flat n).take k := by
  have tm : ∀ {α : Type} (l : List α) (k : Nat), l.take (min k l.length) = l.take k := fun l k => by
    rcases Nat.le_total k l.length with c | c
    · rw [Nat.min_eq_left c]
    · rw [Nat.min_eq_right c, List.take_of_length_le (Nat.le_refl _), List.take_of_length_le c]
  have sb : ∀ k l : Nat, k - min k l = k - l := by omega
  have tn : n.names.take (min k n.cals.length) = n.names.take k := by rw [← h]; exact tm _ _
  simp only [flat, firstN, tm, tn, sb, List.take_append, List.length_zipWith, List.length_map, List.take_zipWith, List.map_take, h, Nat.min_self]
def phs : List Ph := [
  ⟨w_calendar, calS, fun n => n.names.length = n.cals.length ∧ n.opers = [] ∧ n.offs = [] ∧ n.lins = [] ∧ n.clss = []⟩,
  ⟨w_operator, operS, fun n => n.names.length = n.cals.length ∧ n.offs = [] ∧ n.lins = [] ∧ n.clss = []⟩,
  ⟨w_office, offS, fun n => n.names.length = n.cals.length ∧ n.lins = [] ∧ n.clss = []⟩,
  ⟨w_line, linS, fun n => n.names.length = n.cals.length ∧ n.clss = []⟩,
  ⟨w_class, clsS, fun n => n.names.length = n.cals.length⟩]
theorem netQ_run (ts : List KT) (i : Nat) : netQ ts i = run phs ts nw0 i := rfl
theorem zw_snoc (a : List Bs) (b : List Cal) (x : Bs) (y : Cal) (h : a.length = b.length) : List.zipWith Th.cal (a ++ [x]) (b ++ [y]) = List.zipWith Th.cal a b ++ [Th.cal x y] := by
  rw [List.zipWith_append h]; rfl
theorem chn : Chn phs := by
  refine .cons ⟨clo_calS, fun s h => h.1, fun s ts i s' j h q => ?_⟩ (fun n h => ⟨h.1, h.2.2⟩) (.cons ⟨clo_operS, fun s h => h.1, fun s ts i s' j h q => ?_⟩ (fun n h => ⟨h.1, h.2.2⟩) (.cons ⟨clo_offS, fun s h => h.1, fun s ts i s' j h q => ?_⟩ (fun n h => ⟨h.1, h.2.2⟩) (.cons ⟨clo_linS, fun s h => h.1, fun s ts i s' j h q => ?_⟩ (fun n h => h.1) (.one ⟨clo_clsS, fun s h => h, fun s ts i s' j h q => ?_⟩))))
  · obtain ⟨c, k, h1, h2⟩ := PR.bind_ok q
    obtain ⟨h, a, b, d, e⟩ := h
    cases h2
    refine ⟨⟨by simp [h], a, b, d, e⟩, .cal c.1 c.2, ?_⟩
    simp only [flat, a, b, d, e, zw_snoc _ _ _ _ h, List.map_nil, List.append_nil]
  · obtain ⟨c, k, h1, h2⟩ := PR.bind_ok q
    obtain ⟨h, b, d, e⟩ := h
    cases h2
    refine ⟨⟨h, b, d, e⟩, .oper c, ?_⟩
    simp [flat, b, d, e]
  · obtain ⟨c, k, h1, h2⟩ := PR.bind_ok q
    obtain ⟨h, d, e⟩ := h
    cases h2
    refine ⟨⟨h, d, e⟩, .off c, ?_⟩
    simp [flat, d, e]
  · obtain ⟨c, k, h1, h2⟩ := PR.bind_ok q
    obtain ⟨h, e⟩ := h
    cases h2
    refine ⟨⟨h, e⟩, .lin c, ?_⟩
    simp [flat, e]
  · obtain ⟨c, k, h1, h2⟩ := PR.bind_ok q
    cases h2
    refine ⟨h, .cls c, ?_⟩
    simp [flat]
theorem firstN_nms (n : Nw) (h : n.names.length = n.cals.length) (k : Nat) : (firstN n k).names.length = (firstN n k).cals.length := by
  simp [firstN, h]
theorem net_begin {ts : List KT} {N : Nw} {L : Nat} (h : netP ts = .ok N L) (hN : N.names.length = N.cals.length) : L = ts.length ∧ ∃ E : List (Nat × Nw), E.length = szN N ∧ E.Pairwise (fun a b => a.1 < b.1) ∧ (∀ x ∈ E, 0 < x.1 ∧ x.1 ≤ ts.length) ∧ (∀ (k : Nat) (hk : k < E.length), E[k].2 = firstN N (k + 1)) ∧
    ∀ m, 0 < m → m ≤ ts.length → (∃ x ∈ E, x.1 = m ∧ netP (ts.take m) = .ok x.2 m) ∨ ((∀ x ∈ E, x.1 ≠ m) ∧ ∃ j, netP (ts.take m) = .fail 91 j ∧ m ≤ j) := by
  rw [netP_eq, netQ_run] at h
  have hL : L = ts.length := by
    rw [← netQ_run] at h
    have h00 := h
    unfold netQ at h
    obtain ⟨n1, j1, _, h⟩ := PR.bind_ok h
    obtain ⟨n2, j2, _, h⟩ := PR.bind_ok h
    obtain ⟨n3, j3, _, h⟩ := PR.bind_ok h
    obtain ⟨n4, j4, _, h⟩ := PR.bind_ok h
    obtain ⟨n5, j5, h1, h⟩ := PR.bind_ok h
    have hb := (par_net.eb ts [] 0 (Nat.zero_le _)).1
    have h0 := h00
    unfold finP at h
    by_cases c : j5 < ts.length
    · rw [decide_eq_true c] at h; cases h
    · rw [decide_eq_false c] at h
      cases h
      rw [h0] at hb
      simp only [Bd] at hb
      omega
  subst hL
  refine ⟨rfl, runE phs ts nw0 0, ?_⟩
  obtain ⟨s1, s2⟩ := runE_sorted phs chn ts nw0 N 0 _ h
  have st := run_steps ts phs chn nw0 N 0 _ (fun p hp => by cases hp; exact ⟨rfl, rfl, rfl, rfl, rfl⟩) h
  obtain ⟨g1, _, g3⟩ := st.get
  have e0 : (flat nw0).length = 0 := rfl
  refine ⟨by rw [← flat_len N hN]; omega, s1, fun x hx => ⟨runE_gt phs chn ts nw0 0 x hx, s2 x hx⟩, fun k hk => ?_, fun m hm hmL => ?_⟩
  · obtain ⟨q1, q2⟩ := g3 k hk
    refine flat_inj q2 (firstN_nms N hN _) ?_
    rw [flat_first N hN, q1, e0]
    congr 1; omega
  · have hl : (ts.take m).length = m := by simp; omega
    have hc := run_cut (ts.take m) (ts.drop m) phs chn nw0 N 0 ts.length (Nat.zero_le _) (by rw [hl]; exact hmL) (by rw [List.take_append_drop]; exact h) (by rw [List.take_append_drop])
    rw [List.take_append_drop, hl] at hc
    rw [netP_eq, netQ_run]
    rcases hc with ⟨x, hx, r1, r2⟩ | ⟨r1, j, r2⟩
    · rcases List.mem_cons.1 hx with rfl | hx
      · simp only at r1; omega
      · exact .inl ⟨x, hx, r1, r2⟩
    · refine .inr ⟨fun x hx => r1 x (List.mem_cons_of_mem _ hx), j, r2, ?_⟩
      have hb := (par_net.eb (ts.take m) [] 0 (Nat.zero_le _)).1
      rw [netQ_run, r2] at hb
      simp only [Bd] at hb
      omega
end Go.Proofs.YtmhlneeboefkgaaDoor.Pl
