/-
  At, Find, Name.
-/
import Derived.Test.YtkmhjamdgncpoaaDoorF9
set_option linter.unusedVariables false
set_option linter.unusedSimpArgs false
namespace Go.Proofs.YtkmhjamdgncpoaaDoor
open Go.Av Go.Shelf Pl Go.RowKit
namespace Pl
/-- An address. -/
structure Ad where
  pe : Bs
  st : Bs
  nu : Int
  co : Bs
  tw : Bs
deriving DecidableEq
def Ad.v (a : Ad) : AV := .agg [.str a.pe, .str a.st, .int .i64 a.nu, .str a.co, .str a.tw]
/-- A point. -/
structure Pt where
  s : Int
  n : Int
deriving DecidableEq
def Pt.v (p : Pt) : AV := .agg [.int .i64 p.s, .int .i64 p.n]
def pt0 : Pt := ⟨0, 0⟩
def ad0 : Ad := ⟨[], [], 0, [], []⟩
/-- A street that an address means. -/
def meansS (a : Ad) (s : St) : Bool := s.op && decide (s.co = a.co) && decide (s.lo ≤ a.nu) && decide (a.nu ≤ s.hi) && namedS s a.st
def findL (l : List St) (a : Ad) : Pt × Int := match l.findIdx? (meansS a) with
  | some i => (match l[i]? with | some s => (⟨i, a.nu - s.sh⟩, 0) | none => (pt0, 3))
  | none => (pt0, 3)
def findP (r : List Ch) (day : Int) (a : Ad) : Pt × Int := if soundP r then findL (atP r day) a else (pt0, 1)
def nameL (l : List St) (p : Pt) : Ad × Int := if p.s < 0 then (ad0, 3) else match l[p.s.toNat]? with
  | some s => if !s.op || decide (p.n < s.lo - s.sh) || decide (s.hi - s.sh < p.n) then (ad0, 3) else (⟨[], s.na, p.n + s.sh, s.co, s.to⟩, 0)
  | none => (ad0, 3)
def nameP (r : List Ch) (day : Int) (p : Pt) : Ad × Int := if soundP r then nameL (atP r day) p else (ad0, 1)
end Pl
/-! ### What the streets are like -/
theorem edit_ok {s s' : St} {c : Ch} {i : Nat} (hu : usesB c = true) (hk : c.ki ≠ 1) (hs : StOK s i) (h : editS s c = .ok s') : StOK s' (i + 1) := by
  have hm := hs.mono (Nat.le_succ i)
  unfold editS at h
  split at h
  · rename_i h2
    cases h
    exact hm.withNa (na_len hu (.inl h2))
  · split at h
    · cases h
      exact hm.withCo _
    · split at h
      · split at h
        · rename_i hb
          cases h
          simp only [Bool.and_eq_true] at hb
          have := hs.sh
          exact ⟨hs.na, Nat.le_succ_of_le hs.al, hs.ass, num_ok hb.1, num_ok hb.2, by simp only; omega⟩
        · cases h
      · split at h
        · rename_i h5
          split at h
          · cases h
          · cases h
            exact ⟨hs.na, by have := hs.al; simp; omega, fun a ha => by (simp only [List.mem_append, List.mem_singleton] at ha; rcases ha with ha | rfl; exact hs.ass a ha; exact na_len hu (.inr h5)), hs.lo, hs.hi, hs.sh⟩
        · cases h
          exact hm.withOp _
theorem mk_ok {l l' : List St} {c : Ch} {i n : Nat} (hu : usesB c = true) (hs : ∀ s ∈ l, StOK s i) (h : mkS l c = .ok (l', n)) : (∀ s ∈ l', StOK s (i + 1)) ∧ l'.length ≤ l.length + 1 := by
  unfold mkS at h
  split at h
  · rename_i hk
    cases h
    obtain ⟨h1, h2, h3⟩ := uses_open hu hk
    refine ⟨fun s hx => ?_, by simp⟩
    rcases List.mem_append.1 hx with hx | hx
    · exact (hs s hx).mono (Nat.le_succ i)
    · rw [List.mem_singleton] at hx
      subst hx
      exact ⟨name_len h1, Nat.zero_le _, fun a ha => by simp [newS] at ha, num_ok h2, num_ok h3, by have := num_ok h2; simp only [newS]; omega⟩
  · rename_i hk
    split at h
    · split at h
      · rename_i s hg
        split at h
        · rename_i s' he
          cases h
          refine ⟨fun y hy => ?_, by simp⟩
          rcases List.mem_or_eq_of_mem_set hy with hy | rfl
          · exact (hs y hy).mono (Nat.le_succ i)
          · exact edit_ok hu hk (hs s (List.mem_of_getElem? hg)) he
        · cases h
      · cases h
    · cases h
theorem step_ok {p : Option Int} {i : Nat} {l l' : List St} {c : Ch} (h : stepS p i l c = .ok l') : i < 60 ∧ dateB p c.da = false ∧ dayB c.da = true ∧ usesB c = true ∧ ∃ n, mkS l c = .ok (l', n) ∧ clashS l' n = false := by
  rw [step_eq] at h
  split at h
  · cases h
  · rename_i h60
    split at h
    · cases h
    · rename_i hd
      split at h
      · cases h
      · rename_i hu
        simp only [Bool.not_eq_true', Bool.not_eq_false, Bool.and_eq_true] at hu
        split at h
        · cases h
        · rename_i l2 n hm
          split at h
          · cases h
          · rename_i hc
            cases h
            exact ⟨by omega, by simpa using hd, hu.1, hu.2, n, hm, by simpa using hc⟩
theorem run_good : ∀ (r : List Ch) (i : Nat) (p : Option Int) (l : List St), (∀ s ∈ l, StOK s i) → l.length ≤ i → i ≤ 60 → (∀ s ∈ (runS r i p l).1, StOK s 60) ∧ (runS r i p l).1.length ≤ 60
  | [], i, p, l, h, hl, hi => ⟨fun s hs => (h s hs).mono hi, by show l.length ≤ 60; omega⟩
  | c :: r, i, p, l, h, hl, hi => by
    unfold runS
    split
    · exact ⟨fun s hs => (by cases hs), by simp⟩
    · rename_i l' hs
      obtain ⟨h1, _, _, h4, n, h5, _⟩ := step_ok hs
      obtain ⟨k1, k2⟩ := mk_ok h4 h h5
      exact run_good r (i + 1) _ l' k1 (by omega) (by omega)
theorem build_good (r : List Ch) : (∀ s ∈ (buildS r).1, StOK s 60) ∧ (buildS r).1.length ≤ 60 := run_good r 0 none [] (fun s hs => by cases hs) (Nat.le_refl _) (by omega)
theorem at_good (r : List Ch) (day : Int) : (∀ s ∈ atP r day, StOK s 60) ∧ (atP r day).length ≤ 60 := by
  unfold atP
  split
  · exact build_good _
  · exact ⟨fun s hs => (by cases hs), by simp⟩
theorem find_at {l : List St} {a : Ad} {k : Nat} (hk : k < l.length) (h : ∀ j (hj : j < l.length), j < k → meansS a l[j] = false) (hm : meansS a l[k] = true) : findL l a = (⟨k, a.nu - l[k].sh⟩, 0) := by
  unfold findL
  rw [List.findIdx?_eq_some_iff_getElem.2 ⟨hk, hm, fun j hj => by rw [h j (by omega) hj]; decide⟩]
  simp only
  rw [List.getElem?_eq_getElem hk]
theorem find_no {l : List St} {a : Ad} (h : ∀ j (hj : j < l.length), meansS a l[j] = false) : findL l a = (pt0, 3) := by
  unfold findL
  rw [List.findIdx?_eq_none_iff.2 fun x hx => by obtain ⟨i, hi, rfl⟩ := List.getElem_of_mem hx; exact h i hi]
theorem At_spec (r : List Ch) (day : Int) : Ctr Tryd.prog 13 [chs r, .int .i64 day] (fun x => x = sts (atP r day)) := by
  refine Ctr.of_body Tryd.func13 rfl tys_ok (by kernel_rfl) ?_
  conv => whnf
  repeat (first | refine ACode.seq ?_ | (refine ACode.s_reg tys_ok ?_; conv => whnf) | refine ACode.s_block ?_ | refine ACode.s_scope ?_ | (refine ACode.s_cond ?_; conv => whnf) | (refine ACode.s_exit ?_; conv => whnf) | (refine ACode.s_ret ?_; conv => whnf) | (refine ACode.s_skip ?_; conv => whnf) | (refine ACode.s_label ?_; conv => whnf))
  refine ACall.of_spec (at_spec r day) rfl fun r hr => ?_
  subst hr
  conv => whnf
  repeat (first | refine ACode.seq ?_ | (refine ACode.s_reg tys_ok ?_; conv => whnf) | refine ACode.s_block ?_ | refine ACode.s_scope ?_ | (refine ACode.s_cond ?_; conv => whnf) | (refine ACode.s_exit ?_; conv => whnf) | (refine ACode.s_ret ?_; conv => whnf) | (refine ACode.s_skip ?_; conv => whnf) | (refine ACode.s_label ?_; conv => whnf))
  rfl
set_option maxRecDepth 100000 in
theorem Name_spec (r : List Ch) (day : Int) (p : Pt) : Ctr Tryd.prog 15 [chs r, .int .i64 day, p.v] (fun x => x = .tuple [(nameP r day p).1.v, .int .i64 (nameP r day p).2]) := by
  refine Ctr.of_body Tryd.func15 rfl tys_ok (by kernel_rfl) ?_
  conv => whnf
  repeat (first | refine ACode.seq ?_ | (refine ACode.s_reg tys_ok ?_; conv => whnf) | refine ACode.s_block ?_ | refine ACode.s_scope ?_ | (refine ACode.s_cond ?_; conv => whnf) | (refine ACode.s_exit ?_; conv => whnf) | (refine ACode.s_ret ?_; conv => whnf) | (refine ACode.s_skip ?_; conv => whnf) | (refine ACode.s_label ?_; conv => whnf))
  refine ACall.of_spec (at_spec r day) rfl fun r hr => ?_
  subst hr
  conv => whnf
  repeat (first | refine ACode.seq ?_ | (refine ACode.s_reg tys_ok ?_; conv => whnf) | refine ACode.s_block ?_ | refine ACode.s_scope ?_ | (refine ACode.s_cond ?_; conv => whnf) | (refine ACode.s_exit ?_; conv => whnf) | (refine ACode.s_ret ?_; conv => whnf) | (refine ACode.s_skip ?_; conv => whnf) | (refine ACode.s_label ?_; conv => whnf))
  refine ⟨fun h => ?_, fun h => ?_⟩
  · have hs : soundP r = false := by simpa using h
    conv => whnf
    repeat (first | refine ACode.seq ?_ | (refine ACode.s_reg tys_ok ?_; conv => whnf) | refine ACode.s_block ?_ | refine ACode.s_scope ?_ | (refine ACode.s_cond ?_; conv => whnf) | (refine ACode.s_exit ?_; conv => whnf) | (refine ACode.s_ret ?_; conv => whnf) | (refine ACode.s_skip ?_; conv => whnf) | (refine ACode.s_label ?_; conv => whnf))
    unfold nameP
    rw [hs]
    rfl
  · have hs : soundP r = true := by simpa using h
    obtain ⟨hok, hlen⟩ := at_good r day
    have hn : nameP r day p = nameL (atP r day) p := by unfold nameP; rw [hs]; rfl
    rw [hn]
    generalize atP r day = l at *
    conv => whnf
    repeat (first | refine ACode.seq ?_ | (refine ACode.s_reg tys_ok ?_; conv => whnf) | refine ACode.s_block ?_ | refine ACode.s_scope ?_ | (refine ACode.s_cond ?_; conv => whnf) | (refine ACode.s_exit ?_; conv => whnf) | (refine ACode.s_ret ?_; conv => whnf) | (refine ACode.s_skip ?_; conv => whnf) | (refine ACode.s_label ?_; conv => whnf))
    repeat' (first | (refine And.intro (fun _ => ?_) (fun _ => ?_) <;> conv => whnf) | refine ACode.seq ?_ | (refine ACode.s_reg tys_ok ?_; conv => whnf) | refine ACode.s_block ?_ | refine ACode.s_scope ?_ | (refine ACode.s_cond ?_; conv => whnf) | (refine ACode.s_exit ?_; conv => whnf) | (refine ACode.s_ret ?_; conv => whnf) | (refine ACode.s_skip ?_; conv => whnf) | (refine ACode.s_label ?_; conv => whnf))
    · rename_i h1 h2
      simp only [decide_eq_false_iff_not, decide_eq_true_eq, List.length_map] at h1 h2
      unfold nameL
      rw [if_neg h1, List.getElem?_eq_none (by omega)]
      rfl
    · rename_i h1 h2
      simp only [decide_eq_false_iff_not, List.length_map] at h1 h2
      have hlt : p.s.toNat < l.length := by omega
      have hst := hok _ (List.getElem_mem hlt)
      obtain ⟨q1, q2⟩ := hst.lo
      obtain ⟨q3, q4⟩ := hst.hi
      obtain ⟨q5, q6⟩ := hst.sh
      have e1 : Wr .i64 (l[p.s.toNat].lo - l[p.s.toNat].sh) = l[p.s.toNat].lo - l[p.s.toNat].sh := Wr64 _ (by omega) (by omega)
      have e2 : Wr .i64 (l[p.s.toNat].hi - l[p.s.toNat].sh) = l[p.s.toNat].hi - l[p.s.toNat].sh := Wr64 _ (by omega) (by omega)
      have hnl : nameL l p = if !l[p.s.toNat].op || decide (p.n < l[p.s.toNat].lo - l[p.s.toNat].sh) || decide (l[p.s.toNat].hi - l[p.s.toNat].sh < p.n) then (ad0, 3) else (⟨[], l[p.s.toNat].na, p.n + l[p.s.toNat].sh, l[p.s.toNat].co, l[p.s.toNat].to⟩, 0) := by
        unfold nameL
        rw [if_neg h1, List.getElem?_eq_getElem hlt]
      rw [hnl]
      refine ⟨by omega, l[p.s.toNat].v, by simp [hlt], ?_⟩
      conv => whnf
      repeat (first | refine ACode.seq ?_ | (refine ACode.s_reg tys_ok ?_; conv => whnf) | refine ACode.s_block ?_ | refine ACode.s_scope ?_ | (refine ACode.s_cond ?_; conv => whnf) | (refine ACode.s_exit ?_; conv => whnf) | (refine ACode.s_ret ?_; conv => whnf) | (refine ACode.s_skip ?_; conv => whnf) | (refine ACode.s_label ?_; conv => whnf))
      repeat' (first | (refine And.intro (fun _ => ?_) (fun _ => ?_) <;> conv => whnf) | refine ACode.seq ?_ | (refine ACode.s_reg tys_ok ?_; conv => whnf) | refine ACode.s_block ?_ | refine ACode.s_scope ?_ | (refine ACode.s_cond ?_; conv => whnf) | (refine ACode.s_exit ?_; conv => whnf) | (refine ACode.s_ret ?_; conv => whnf) | (refine ACode.s_skip ?_; conv => whnf) | (refine ACode.s_label ?_; conv => whnf))
      · rename_i a1 a2 a3
        rw [e2] at a3
        rw [if_pos (by rw [a3]; simp)]
        rfl
      · rename_i a1 a2 a3
        rw [e1] at a2
        rw [e2] at a3
        have e3 : Wr .i64 (p.n + l[p.s.toNat].sh) = p.n + l[p.s.toNat].sh := by simp only [decide_eq_false_iff_not] at a2 a3; exact Wr64 _ (by omega) (by omega)
        rw [if_neg (by rw [a1, a2, a3]; decide), e3]
        rfl
      · rename_i a1 a2
        rw [e1] at a2
        rw [if_pos (by rw [a2]; simp)]
        rfl
      · rename_i a1
        rw [if_pos (by rw [a1]; simp)]
        rfl
    · rename_i h1
      unfold nameL
      rw [if_pos (by simpa using h1)]
      rfl
set_option maxRecDepth 100000 in
theorem Find_spec (r : List Ch) (day : Int) (a : Ad) : Ctr Tryd.prog 16 [chs r, .int .i64 day, a.v] (fun x => x = .tuple [(findP r day a).1.v, .int .i64 (findP r day a).2]) := by
  refine Ctr.of_body Tryd.func16 rfl tys_ok (by kernel_rfl) ?_
  conv => whnf
  repeat (first | refine ACode.seq ?_ | (refine ACode.s_reg tys_ok ?_; conv => whnf) | refine ACode.s_block ?_ | refine ACode.s_scope ?_ | (refine ACode.s_cond ?_; conv => whnf) | (refine ACode.s_exit ?_; conv => whnf) | (refine ACode.s_ret ?_; conv => whnf) | (refine ACode.s_skip ?_; conv => whnf) | (refine ACode.s_label ?_; conv => whnf))
  refine ACall.of_spec (at_spec r day) rfl fun r hr => ?_
  subst hr
  conv => whnf
  repeat (first | refine ACode.seq ?_ | (refine ACode.s_reg tys_ok ?_; conv => whnf) | refine ACode.s_block ?_ | refine ACode.s_scope ?_ | (refine ACode.s_cond ?_; conv => whnf) | (refine ACode.s_exit ?_; conv => whnf) | (refine ACode.s_ret ?_; conv => whnf) | (refine ACode.s_skip ?_; conv => whnf) | (refine ACode.s_label ?_; conv => whnf))
  refine ⟨fun h => ?_, fun h => ?_⟩
  · have hs : soundP r = false := by simpa using h
    conv => whnf
    repeat (first | refine ACode.seq ?_ | (refine ACode.s_reg tys_ok ?_; conv => whnf) | refine ACode.s_block ?_ | refine ACode.s_scope ?_ | (refine ACode.s_cond ?_; conv => whnf) | (refine ACode.s_exit ?_; conv => whnf) | (refine ACode.s_ret ?_; conv => whnf) | (refine ACode.s_skip ?_; conv => whnf) | (refine ACode.s_label ?_; conv => whnf))
    unfold findP
    rw [hs]
    rfl
  · have hs : soundP r = true := by simpa using h
    obtain ⟨hok, hlen⟩ := at_good r day
    have hn : findP r day a = findL (atP r day) a := by unfold findP; rw [hs]; rfl
    rw [hn]
    generalize atP r day = l at *
    conv => whnf
    repeat (first | refine ACode.seq ?_ | (refine ACode.s_reg tys_ok ?_; conv => whnf) | refine ACode.s_block ?_ | refine ACode.s_scope ?_ | (refine ACode.s_cond ?_; conv => whnf) | (refine ACode.s_exit ?_; conv => whnf) | (refine ACode.s_ret ?_; conv => whnf) | (refine ACode.s_skip ?_; conv => whnf) | (refine ACode.s_label ?_; conv => whnf))
    refine ACode.loopD (fun k : Nat => mk 66 [(0, chs r), (5, .ptr 0 0), (6, .ptr 1 0), (8, sts l), (21, sts l), (22, .int .i64 l.length), (23, .int .i64 k)]) (fun _ => [.cells [.str a.pe, .str a.st, .int .i64 a.nu, .str a.co, .str a.tw], .cells [.int .i64 0, .int .i64 0]]) (fun k => k ≤ l.length ∧ ∀ j (hj : j < l.length), j < k → meansS a l[j] = false) (fun k => l.length - k) (fun _ _ => ⟨rfl, rfl, rfl, trivial⟩) ⟨0, ?_⟩ (fun _ => rfl) fun k hk => ?_
    · conv => whnf
      repeat (refine And.intro ?_ ?_; (focus (first | rfl | (simp; done) | (simp; done))); conv => whnf)
      exact fun j hj hn => absurd hn (Nat.not_lt_zero _)
    · obtain ⟨hk, ha⟩ := hk
      have hw1 : Wr .i64 ((k : Int) + 1) = ((k + 1 : Nat) : Int) := by rw [Wr64 _ (by omega) (by omega)]; rfl
      repeat (first | refine ACode.seq ?_ | (refine ACode.s_reg tys_ok ?_; conv => whnf) | refine ACode.s_block ?_ | refine ACode.s_scope ?_ | (refine ACode.s_cond ?_; conv => whnf) | (refine ACode.s_exit ?_; conv => whnf) | (refine ACode.s_ret ?_; conv => whnf) | (refine ACode.s_skip ?_; conv => whnf) | (refine ACode.s_label ?_; conv => whnf))
      refine ⟨fun h1 => ?_, fun h1 => ?_⟩
      · have h1 : k < l.length := by simpa using h1
        conv => whnf
        repeat (first | refine ACode.seq ?_ | (refine ACode.s_reg tys_ok ?_; conv => whnf) | refine ACode.s_block ?_ | refine ACode.s_scope ?_ | (refine ACode.s_cond ?_; conv => whnf) | (refine ACode.s_exit ?_; conv => whnf) | (refine ACode.s_ret ?_; conv => whnf) | (refine ACode.s_skip ?_; conv => whnf) | (refine ACode.s_label ?_; conv => whnf))
        refine ⟨by omega, (l[k]).v, by simp [h1], ?_⟩
        conv => whnf
        have hst := hok _ (List.getElem_mem h1)
        obtain ⟨q1, q2⟩ := hst.lo
        obtain ⟨q3, q4⟩ := hst.hi
        obtain ⟨q5, q6⟩ := hst.sh
        have no : meansS a l[k] = false → ∀ j (hj : j < l.length), j < k + 1 → meansS a l[j] = false := fun h j hj hjk => by
          rcases Nat.lt_or_ge j k with h3 | h3
          · exact ha j hj h3
          · obtain rfl : j = k := by omega
            exact h
        conv => whnf
        repeat (first | refine ACode.seq ?_ | (refine ACode.s_reg tys_ok ?_; conv => whnf) | refine ACode.s_block ?_ | refine ACode.s_scope ?_ | (refine ACode.s_cond ?_; conv => whnf) | (refine ACode.s_exit ?_; conv => whnf) | (refine ACode.s_ret ?_; conv => whnf) | (refine ACode.s_skip ?_; conv => whnf) | (refine ACode.s_label ?_; conv => whnf))
        repeat' (first | (refine And.intro (fun _ => ?_) (fun _ => ?_) <;> conv => whnf) | (refine ACall.of_spec (hasName_spec l[k] a.st (by have := hst.al; omega) (by have := hst.na; omega) (fun x hx => by have := hst.ass x hx; omega)) rfl fun r hr => ?_; subst hr; conv => whnf) | refine ACode.seq ?_ | (refine ACode.s_reg tys_ok ?_; conv => whnf) | refine ACode.s_block ?_ | refine ACode.s_scope ?_ | (refine ACode.s_cond ?_; conv => whnf) | (refine ACode.s_exit ?_; conv => whnf) | (refine ACode.s_ret ?_; conv => whnf) | (refine ACode.s_skip ?_; conv => whnf) | (refine ACode.s_label ?_; conv => whnf))
        · rename_i g1 g2 g3 g4 g5
          simp only [decide_eq_true_eq, beq_iff_eq] at g1 g2 g3 g4 g5
          have hm : meansS a l[k] = true := by unfold meansS; simp_all
          rw [find_at h1 ha hm, show Wr .i64 (a.nu - l[k].sh) = a.nu - l[k].sh from Wr64 _ (by omega) (by omega)]
          rfl
        all_goals (
          refine ⟨k + 1, ?_⟩
          conv => whnf
          repeat (refine And.intro ?_ ?_; (focus (first | rfl | (simp; done) | (exact hw1; done))); conv => whnf)
          refine ⟨⟨by omega, no ?_⟩, by omega⟩
          unfold meansS
          simp_all <;> intros <;> omega)
      · have h1 : k = l.length := by simp at h1; omega
        conv => whnf
        repeat (first | refine ACode.seq ?_ | (refine ACode.s_reg tys_ok ?_; conv => whnf) | refine ACode.s_block ?_ | refine ACode.s_scope ?_ | (refine ACode.s_cond ?_; conv => whnf) | (refine ACode.s_exit ?_; conv => whnf) | (refine ACode.s_ret ?_; conv => whnf) | (refine ACode.s_skip ?_; conv => whnf) | (refine ACode.s_label ?_; conv => whnf))
        rw [find_no fun j hj => ha j hj (by omega)]
        rfl
end Go.Proofs.YtkmhjamdgncpoaaDoor
