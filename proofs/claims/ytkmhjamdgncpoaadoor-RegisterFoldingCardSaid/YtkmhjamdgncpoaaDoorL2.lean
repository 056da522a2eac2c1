/-
  Plain laws of registers: beginnings, points that stay, streets that are closed.
-/
import Derived.Test.YtkmhjamdgncpoaaDoorL1
set_option linter.unusedVariables false
set_option linter.unusedSimpArgs false
namespace Go.Proofs.YtkmhjamdgncpoaaDoor
open Go.Av Go.Shelf Pl Go.RowKit
namespace Pl
theorem nameP_eq {r : List Ch} (h : soundP r = true) (day : Int) (p : Pt) : nameP r day p = nameL (atP r day) p := by unfold nameP; rw [h, if_pos rfl]
theorem findP_eq {r : List Ch} (h : soundP r = true) (day : Int) (a : Ad) : findP r day a = findL (atP r day) a := by unfold findP; rw [h, if_pos rfl]
theorem dayB_iff {d : Int} : dayB d = true ↔ -1000000 ≤ d ∧ d ≤ 1000000 := by unfold dayB; simp
theorem mem_tw {α : Type} {p : α → Bool} : ∀ {l : List α} {x : α}, x ∈ l.takeWhile p → p x = true
  | [], x, h => by cases h
  | a :: l, x, h => by
    rw [List.takeWhile_cons] at h
    split at h
    · rename_i ha
      rcases List.mem_cons.1 h with rfl | h
      · exact ha
      · exact mem_tw h
    · cases h
theorem until_until {day en : Int} (h : day ≤ en) : ∀ r : List Ch, untilP (untilP r en) day = untilP r day
  | [] => rfl
  | c :: r => by
    have ih := until_until h r
    unfold untilP at ih ⊢
    rw [List.takeWhile_cons, List.takeWhile_cons]
    by_cases hc : c.da ≤ day
    · rw [if_pos (by simp; omega), if_pos (by simpa using hc), List.takeWhile_cons, if_pos (by simpa using hc), ih]
    · rw [if_neg (c := decide (c.da ≤ day) = true) (by simpa using hc)]
      split
      · rw [List.takeWhile_cons, if_neg (by simpa using hc)]
      · rfl
/-- The changes up to the day of one of them. -/
theorem begin_at {r : List Ch} (h : soundP r = true) {k e : Nat} (hk : k < e) (he : e ≤ r.length) (hm : ∀ j (hj : j < r.length), k ≤ j → j < e → r[j].da = r[k].da) (hx : ∀ hj : e < r.length, r[e].da ≠ r[k].da) :
    untilP r r[k].da = r.take e ∧ untilP (r.take e) r[k].da = r.take e ∧ untilP (r.take e) (r[k].da + 100) = r.take e ∧ atP r r[k].da = atP (r.take e) r[k].da ∧ atP r r[k].da = atP (r.take e) (r[k].da + 100) ∧ (atP r r[k].da).length = (r.take e).countP fun c => decide (c.ki = 1) := by
  have h1 : untilP r r[k].da = r.take e := until_take (fun j hj hje => by
    rcases Nat.lt_or_ge j k with h1 | h1
    · exact sound_sorted h (Nat.le_of_lt h1) (by omega)
    · exact Int.le_of_eq (hm j hj h1 hje)) fun hj => by
      have := sound_sorted h (Nat.le_of_lt hk) hj
      have := hx hj
      omega
  have hle : ∀ c ∈ r.take e, c.da ≤ r[k].da := fun c hc => by
    rw [← h1] at hc
    unfold untilP at hc
    have := mem_tw hc
    simpa using this
  have h2 : untilP (r.take e) r[k].da = r.take e := until_all hle
  have h3 : untilP (r.take e) (r[k].da + 100) = r.take e := until_all fun c hc => by have := hle c hc; omega
  have hs := sound_take h e
  have e1 : atP r r[k].da = atP (r.take e) r[k].da := by unfold atP; rw [h, hs, h1, h2]
  have e2 : atP r r[k].da = atP (r.take e) (r[k].da + 100) := by unfold atP; rw [h, hs, h1, h3]
  have hr := at_runs h r[k].da
  rw [h1] at hr
  exact ⟨h1, h2, h3, e1, e2, by simpa using hr.len⟩
/-! ### Points that stay -/
def tch (k : Int) (c : Ch) : Bool := decide (c.ki ≠ 1) && decide (c.sr = k)
def sumF : List Ch → Int
  | [] => 0
  | c :: r => c.sh + sumF r
theorem sumF_app : ∀ a b : List Ch, sumF (a ++ b) = sumF a + sumF b
  | [], b => by simp [sumF]
  | c :: a, b => by simp only [List.cons_append, sumF, sumF_app a b]; omega
theorem sumF_zero : ∀ {l : List Ch}, (∀ c ∈ l, c.sh = 0) → sumF l = 0
  | [], _ => rfl
  | c :: r, h => by
    simp only [sumF]
    rw [h c (by simp), sumF_zero fun x hx => h x (by simp [hx])]
    rfl
/-- What becomes of a street. -/
structure Moved (M : List Ch) (s s' : St) : Prop where
  tw : s'.to = s.to
  sh : s'.sh = s.sh + sumF M
  lo : s'.lo = s.lo + sumF M
  hi : s'.hi = s.hi + sumF M
  op : s'.op = (s.op && !M.any fun c => decide (c.ki = 6))
  na : (M.any fun c => decide (c.ki ≠ 5)) = false → s'.na = s.na ∧ s'.co = s.co
theorem Moved.refl (s : St) : Moved [] s s := ⟨rfl, by simp [sumF], by simp [sumF], by simp [sumF], by simp, fun _ => ⟨rfl, rfl⟩⟩
theorem Moved.trans {M N : List Ch} {a b c : St} (h : Moved M a b) (g : Moved N b c) : Moved (M ++ N) a c := by
  refine ⟨g.tw.trans h.tw, by rw [g.sh, h.sh, sumF_app]; omega, by rw [g.lo, h.lo, sumF_app]; omega, by rw [g.hi, h.hi, sumF_app]; omega, by rw [g.op, h.op, List.any_append, Bool.not_or, Bool.and_assoc], fun q => ?_⟩
  rw [List.any_append, Bool.or_eq_false_iff] at q
  exact ⟨(g.na q.2).1.trans (h.na q.1).1, (g.na q.2).2.trans (h.na q.1).2⟩
theorem moved_edit {s s' : St} {c : Ch} (hu : usesB c = true) (hk : c.ki ≠ 1) (ho : s.op = true) (h : editS s c = .ok s') : Moved [c] s s' := by
  have hsh : c.ki ≠ 4 → c.sh = 0 := uses_sh hu
  have hki : c.ki = 1 ∨ c.ki = 2 ∨ c.ki = 3 ∨ c.ki = 4 ∨ c.ki = 5 ∨ c.ki = 6 := kind_cases hu
  unfold editS at h
  split at h
  · rename_i h2
    cases h
    have := hsh (by omega)
    exact ⟨rfl, by simp [sumF, this], by simp [sumF, this], by simp [sumF, this], by simp [h2], fun q => by simp [h2] at q⟩
  · split at h
    · rename_i h3
      cases h
      have := hsh (by omega)
      exact ⟨rfl, by simp [sumF, this], by simp [sumF, this], by simp [sumF, this], by simp [h3], fun q => by simp [h3] at q⟩
    · split at h
      · rename_i h4
        split at h
        · cases h
          exact ⟨rfl, by simp [sumF], by simp [sumF], by simp [sumF], by simp [h4], fun q => by simp [h4] at q⟩
        · cases h
      · split at h
        · rename_i h5
          split at h
          · cases h
          · cases h
            have := hsh (by omega)
            exact ⟨rfl, by simp [sumF, this], by simp [sumF, this], by simp [sumF, this], by simp [h5], fun q => ⟨rfl, rfl⟩⟩
        · cases h
          have := hsh (by omega)
          have h6 : c.ki = 6 := by omega
          exact ⟨rfl, by simp [sumF, this], by simp [sumF, this], by simp [sumF, this], by simp [h6], fun q => by simp [h6] at q⟩
theorem Runs.street : ∀ {r : List Ch} {i : Nat} {p : Option Int} {l L : List St} {k : Nat} {s : St}, Runs r i p l L → l[k]? = some s → ∃ s', L[k]? = some s' ∧ Moved (r.filter (tch k)) s s'
  | [], i, p, l, L, k, s, h, hs => ⟨s, by rw [show L = l from h]; exact hs, Moved.refl s⟩
  | c :: r, i, p, l, L, k, s, h, hs => by
    obtain ⟨l', h1, h2⟩ := h
    obtain ⟨_, _, _, hu, n, hm, _⟩ := step_ok h1
    obtain ⟨_, hfr, hc⟩ := mk_frame hm
    have hkl : k < l.length := (List.getElem?_eq_some_iff.1 hs).1
    by_cases ht : tch k c = true
    · have ht' := ht
      unfold tch at ht'
      simp only [Bool.and_eq_true, decide_eq_true_eq] at ht'
      obtain ⟨t1, t2⟩ := ht'
      rcases hc with ⟨hk, _⟩ | ⟨_, hn, s0, s1, hs0, ho, he, rfl⟩
      · exact absurd hk t1
      · obtain rfl : n = k := by omega
        rw [hs] at hs0
        cases hs0
        obtain ⟨s', h3, h4⟩ := Runs.street (k := n) (s := s1) h2 (by rw [List.getElem?_set_self hkl])
        refine ⟨s', h3, ?_⟩
        rw [List.filter_cons, if_pos ht]
        exact (moved_edit hu t1 ho he).trans h4
    · have hkn : k ≠ n := by
        rcases hc with ⟨_, hn, _⟩ | ⟨hk, hn, _⟩
        · omega
        · intro e
          subst e
          refine ht ?_
          unfold tch
          rw [decide_eq_true hk, decide_eq_true hn.symm]
          rfl
      obtain ⟨s', h3, h4⟩ := Runs.street (k := k) (s := s) h2 (by rw [hfr k hkn]; exact hs)
      refine ⟨s', h3, ?_⟩
      rw [List.filter_cons, if_neg ht]
      exact h4
def inW (day en k : Int) (c : Ch) : Bool := decide (day < c.da) && decide (c.da ≤ en) && tch k c
theorem until_le {r : List Ch} {day : Int} : ∀ c ∈ untilP r day, c.da ≤ day := fun c hc => by
  unfold untilP at hc
  have := mem_tw hc
  simpa using this
theorem until_gt {r z : List Ch} {day : Int} (hs : r.Pairwise fun a b => a.da ≤ b.da) (h : r = untilP r day ++ z) : ∀ c ∈ z, day < c.da := by
  have hz : z = r.dropWhile fun c => decide (c.da ≤ day) := by
    have := List.takeWhile_append_dropWhile (p := fun c : Ch => decide (c.da ≤ day)) (l := r)
    unfold untilP at h
    exact List.append_cancel_left (h.symm.trans this.symm)
  cases hd : z with
  | nil => intro c hc; cases hc
  | cons x y =>
    have hx : day < x.da := by
      have e := hz.symm.trans hd
      have := List.head?_dropWhile_not (p := fun c : Ch => decide (c.da ≤ day)) (l := r)
      rw [e] at this
      simpa using this
    have hp : (x :: y).Pairwise fun a b => a.da ≤ b.da := by
      rw [h, hd] at hs
      exact (List.pairwise_append.1 hs).2.1
    intro c hc
    rcases List.mem_cons.1 hc with rfl | hc
    · exact hx
    · have := (List.pairwise_cons.1 hp).1 c hc
      omega
theorem until_mono {r : List Ch} (hs : r.Pairwise fun a b => a.da ≤ b.da) {day en : Int} (h : day ≤ en) (k : Int) : ∃ M, untilP r en = untilP r day ++ M ∧ M.filter (tch k) = r.filter (inW day en k) := by
  obtain ⟨z1, hz1⟩ := until_split r day
  obtain ⟨z2, hz2⟩ := until_split r en
  have g1 := until_gt hs hz1
  have g2 := until_gt hs hz2
  have l1 := until_le (r := r) (day := day)
  have l2 := until_le (r := r) (day := en)
  have hsub : untilP r day = untilP (untilP r en) day := (until_until h r).symm
  obtain ⟨M, hM⟩ := until_split (untilP r en) day
  rw [← hsub] at hM
  refine ⟨M, hM, ?_⟩
  have hsM : (untilP r en).Pairwise fun a b => a.da ≤ b.da := by
    rw [hz2] at hs
    exact (List.pairwise_append.1 hs).1
  have gM : ∀ c ∈ M, day < c.da := until_gt (r := untilP r en) hsM (by rw [← hsub]; exact hM)
  have e : r = untilP r day ++ M ++ z2 := by rw [← hM]; exact hz2
  have f1 : (untilP r day).filter (inW day en k) = [] := by
    rw [List.filter_eq_nil_iff]
    intro c hc
    have := l1 c hc
    unfold inW
    simp
    omega
  have f3 : z2.filter (inW day en k) = [] := by
    rw [List.filter_eq_nil_iff]
    intro c hc
    have := g2 c hc
    unfold inW
    simp
    omega
  have f2 : M.filter (inW day en k) = M.filter (tch k) := by
    refine List.filter_congr fun c hc => ?_
    have a1 := gM c hc
    have a2 := l2 c (by rw [hM]; exact List.mem_append_right _ hc)
    unfold inW
    rw [decide_eq_true a1, decide_eq_true a2]
    rfl
  conv => rhs; rw [e]
  rw [List.filter_append, List.filter_append, f1, f2, f3]
  simp
theorem stay {r : List Ch} (h : soundP r = true) {day en : Int} (hd : day ≤ en) {p : Pt} {a : Ad} (ha : nameP r day p = (a, 0)) :
    (((r.filter (inW day en p.s)).any fun c => decide (c.ki = 6)) = true → nameP r en p = (ad0, 3)) ∧
    (((r.filter (inW day en p.s)).any fun c => decide (c.ki = 6)) = false → ∃ b, nameP r en p = (b, 0) ∧ b.nu = a.nu + sumF (r.filter (inW day en p.s)) ∧ b.tw = a.tw ∧ (((r.filter (inW day en p.s)).any fun c => decide (c.ki ≠ 5)) = false → a = b)) := by
  rw [nameP_eq h] at ha ⊢
  obtain ⟨s, hs, rfl⟩ := name_ok ha
  obtain ⟨L, hL⟩ := sound_iff.1 h
  obtain ⟨M, hM, hf⟩ := until_mono hL.sorted.2 hd p.s
  have hr := at_runs h en
  rw [hM] at hr
  obtain ⟨m, h1, h2⟩ := runs_app.1 hr
  have hm : m = atP r day := by
    have := at_runs h day
    have e1 := runs_eq h1
    have e2 := runs_eq this
    rw [e1] at e2
    exact (Prod.mk.inj e2).1
  subst hm
  have hk : ((p.s.toNat : Nat) : Int) = p.s := by have := hs.pos; omega
  obtain ⟨s', h3, h4⟩ := Runs.street h2 hs.at_
  rw [hk, hf] at h4
  have hu : ∀ c ∈ r.filter (inW day en p.s), c.ki ≠ 4 → c.sh = 0 := fun c hc => uses_sh (sound_day h (List.mem_filter.1 hc).1).2
  generalize r.filter (inW day en p.s) = F at h4 hu ⊢
  refine ⟨fun hc => ?_, fun hc => ?_⟩
  · have ho : s'.op = false := by rw [h4.op, hc]; simp
    unfold nameL
    rw [if_neg (by have := hs.pos; omega), h3]
    simp [ho]
  · have ho : s'.op = true := by rw [h4.op, hc, hs.op]; rfl
    have hh : Has (atP r en) p s' := ⟨hs.pos, h3, ho, by have := hs.lo; rw [h4.lo, h4.sh]; omega, by have := hs.hi; rw [h4.hi, h4.sh]; omega⟩
    refine ⟨adS s' p, name_has hh, by (show p.n + s'.sh = p.n + s.sh + _; rw [h4.sh]; omega), h4.tw, fun hn => ?_⟩
    obtain ⟨n1, n2⟩ := h4.na hn
    have hz : sumF F = 0 := sumF_zero fun c hc5 => hu c hc5 (by
      have := List.any_eq_false.1 hn c hc5
      simp at this
      omega)
    unfold adS
    rw [n1, n2, h4.tw, h4.sh, hz, Int.add_zero]
/-! ### Streets that are closed -/
theorem lastDa_eq : ∀ (r : List Ch) (p : Option Int), lastDa p r = match r.getLast? with | some c => some c.da | none => p
  | [], p => rfl
  | [c], p => rfl
  | c :: d :: r, p => by
    simp only [lastDa]
    have := lastDa_eq (d :: r) (some c.da)
    simp only [lastDa] at this
    rw [this, List.getLast?_cons_cons]
    cases hq : (d :: r).getLast? with
    | none => simp at hq
    | some x => rfl
def closeC (day : Int) (k : Nat) : Ch := ⟨day, 6, k, [], [], [], 0, 0, 0⟩
def openC (day : Int) (s : St) : Ch := ⟨day, 1, 0, s.co, s.to, s.na, s.lo, s.hi, 0⟩
def againS (s : St) : St := ⟨s.co, s.to, s.na, [], s.lo, s.hi, 0, true⟩
def endL (l : List St) (k : Nat) (s : St) : List St := l.set k { s with op := false } ++ [againS s]
theorem runs_last {r : List Ch} (h : soundP r = true) {day : Int} (hd : ∀ c ∈ r, c.da ≤ day) : Runs r 0 none [] (atP r day) := by
  have := at_runs h day
  rwa [until_all hd] at this
theorem le_last {r : List Ch} (h : soundP r = true) {x : Ch} (hx : r.getLast? = some x) : ∀ c ∈ r, c.da ≤ x.da := by
  intro c hc
  obtain ⟨i, hi, rfl⟩ := List.getElem_of_mem hc
  have hl : r.length - 1 < r.length := by omega
  have e : r[r.length - 1] = x := by
    rw [List.getLast?_eq_getElem?, List.getElem?_eq_getElem hl] at hx
    exact Option.some.inj hx
  rw [← e]
  exact sound_sorted h (by omega) hl
theorem closing {r : List Ch} (h : soundP r = true) (hl : r.length ≤ 58) {x : Ch} (hx : r.getLast? = some x) {k : Nat} {s : St} (hk : (atP r x.da)[k]? = some s) (ho : s.op = true) :
    Runs (r ++ [closeC x.da k, openC x.da s]) 0 none [] (endL (atP r x.da) k s) := by
  have hr := runs_last h (le_last h hx)
  have hfree := at_free h x.da
  have hfull := at_full h x.da s (List.mem_of_getElem? hk)
  have hdx : dayB x.da = true := (sound_day h (List.mem_of_getLast? hx)).1
  have hkl : k < (atP r x.da).length := (List.getElem?_eq_some_iff.1 hk).1
  generalize atP r x.da = l at *
  refine runs_app.2 ⟨l, hr, ?_⟩
  rw [lastDa_eq, hx]
  simp only [Nat.zero_add]
  have hdate : dateB (some x.da) x.da = false := by unfold dateB; simp
  have u1 : usesB (closeC x.da k) = true := by unfold usesB closeC; simp
  have u2 : usesB (openC x.da s) = true := by
    unfold usesB openC
    simp only [if_true]
    rw [hfull.co, hfull.tw, hfull.na, hfull.lo, hfull.hi, decide_eq_true hfull.le]
    rfl
  have m1 : mkS l (closeC x.da k) = .ok (l.set k { s with op := false }, k) := by
    unfold mkS
    rw [if_neg (by simp [closeC])]
    have : openS l (closeC x.da k).sr = true := by
      unfold openS closeC
      simp [hk, ho]
    rw [if_pos this]
    unfold closeC
    simp only [Int.toNat_natCast, hk]
    unfold editS
    simp
  have c1 : clashS (l.set k { s with op := false }) k = false := clash_no fun s' hs' j o hj hoj => by
    rw [List.getElem?_set_self hkl] at hs'
    cases hs'
    unfold hitS
    simp
  have m2 : mkS (l.set k { s with op := false }) (openC x.da s) = .ok (endL l k s, l.length) := by
    unfold mkS
    rw [if_pos (show (openC x.da s).ki = 1 from rfl)]
    simp only [List.length_set]
    rfl
  have c2 : clashS (endL l k s) l.length = false := clash_no fun s' hs' j o hj hoj => by
    have hs2 : s' = againS s := by
      unfold endL at hs'
      rw [List.getElem?_append_right (by simp)] at hs'
      simp at hs'
      exact hs'.symm
    subst hs2
    have hjl : j < l.length := by
      have := (List.getElem?_eq_some_iff.1 hoj).1
      unfold endL at this
      simp at this
      omega
    unfold endL at hoj
    rw [List.getElem?_append_left (by simpa using hjl)] at hoj
    rw [Bool.eq_false_iff]
    intro hh
    obtain ⟨⟨h1, h2, h3, h4, h5⟩, y, hy, z, hz, e⟩ := hit_iff.1 hh
    by_cases hjk : j = k
    · subst hjk
      rw [List.getElem?_set_self hkl] at hoj
      cases hoj
      cases h2
    · rw [List.getElem?_set_ne (Ne.symm hjk)] at hoj
      have := hfree k j s o (Ne.symm hjk) hk hoj
      have hy' : y ∈ nms s := by
        unfold nms againS at hy
        simp at hy
        simp [nms, hy]
      rw [hit_iff.2 ⟨⟨ho, h2, h3, h4, h5⟩, y, hy', z, hz, e⟩] at this
      cases this
  refine ⟨l.set k { s with op := false }, ?_, endL l k s, ?_, rfl⟩
  · rw [step_mk (c := closeC x.da k) (by omega) hdate (by rw [u1, Bool.and_true]; exact hdx), m1]
    simp only
    rw [c1]
    rfl
  · rw [show (closeC x.da k).da = x.da from rfl, step_mk (c := openC x.da s) (by omega) hdate (by rw [u2, Bool.and_true]; exact hdx), m2]
    simp only
    rw [c2]
    rfl
theorem closed_at {r : List Ch} (h : soundP r = true) (hl : r.length ≤ 58) {x : Ch} (hx : r.getLast? = some x) {k : Nat} {s : St} (hk : (atP r x.da)[k]? = some s) (ho : s.op = true) :
    soundP (r ++ [closeC x.da k, openC x.da s]) = true ∧ atP (r ++ [closeC x.da k, openC x.da s]) x.da = endL (atP r x.da) k s := by
  have hr := closing h hl hx hk ho
  have hs := sound_iff.2 ⟨_, hr⟩
  refine ⟨hs, ?_⟩
  have := runs_last hs (day := x.da) fun c hc => by
    rcases List.mem_append.1 hc with hc | hc
    · exact le_last h hx c hc
    · simp only [List.mem_cons, List.not_mem_nil, or_false] at hc
      rcases hc with rfl | rfl <;> exact Int.le_refl _
  have e1 := runs_eq hr
  have e2 := runs_eq this
  rw [e1] at e2
  exact ((Prod.mk.inj e2).1).symm
theorem closed_law {r : List Ch} (h : soundP r = true) (hl : r.length ≤ 58) {x : Ch} (hx : r.getLast? = some x) {k : Nat} {s : St} (hk : (atP r x.da)[k]? = some s) (ho : s.op = true) {n : Int} (h1 : s.lo ≤ n) (h2 : n ≤ s.hi) :
    nameP r x.da ⟨k, n - s.sh⟩ = (adS s ⟨k, n - s.sh⟩, 0) ∧ nameP (r ++ [closeC x.da k, openC x.da s]) x.da ⟨k, n - s.sh⟩ = (ad0, 3) ∧ findP (r ++ [closeC x.da k, openC x.da s]) x.da (adS s ⟨k, n - s.sh⟩) = (⟨(atP r x.da).length, n⟩, 0) := by
  obtain ⟨g1, g2⟩ := closed_at h hl hx hk ho
  have hkl : k < (atP r x.da).length := (List.getElem?_eq_some_iff.1 hk).1
  have hfree := at_free g1 x.da
  rw [nameP_eq h, nameP_eq g1, findP_eq g1]
  rw [g2] at hfree ⊢
  have e0 : n - s.sh + s.sh = n := by omega
  refine ⟨name_has ⟨by simp only; omega, by simpa using hk, ho, by simp only; omega, by simp only; omega⟩, ?_, ?_⟩
  · unfold nameL endL
    rw [if_neg (by simp only; omega)]
    simp only [Int.toNat_natCast]
    rw [List.getElem?_append_left (by simpa using hkl), List.getElem?_set_self hkl]
    simp
  · have hi : (endL (atP r x.da) k s)[(atP r x.da).length]? = some (againS s) := by
      unfold endL
      rw [List.getElem?_append_right (by simp)]
      simp
    have hm : meansS (adS s ⟨k, n - s.sh⟩) (againS s) = true := means_iff.2 ⟨rfl, rfl, by (show s.lo ≤ n - s.sh + s.sh; omega), by (show n - s.sh + s.sh ≤ s.hi; omega), named_iff.2 ⟨s.na, by simp [nms, againS], rfl⟩⟩
    rw [find_one hfree hi hm]
    unfold adS againS
    simp only [e0, Int.sub_zero]
theorem some_street {r : List Ch} (h : soundP r = true) (hr : r ≠ []) {day : Int} (hd : ∀ c ∈ r, c.da ≤ day) : atP r day ≠ [] := by
  have h1 := runs_last h hd
  cases r with
  | nil => exact absurd rfl hr
  | cons c r =>
    obtain ⟨l', h2, h3⟩ := h1
    obtain ⟨_, _, _, _, n, hm, _⟩ := step_ok h2
    obtain ⟨_, _, (⟨hk, _, rfl⟩ | ⟨_, _, s, s', hs, _⟩)⟩ := mk_frame hm
    · intro e
      have h4 := h3.len
      rw [e] at h4
      simp only [List.nil_append, List.length_nil, List.length_singleton] at h4
      omega
    · simp at hs
end Pl
end Go.Proofs.YtkmhjamdgncpoaaDoor
