import Derived.Test.YtmhlneeboefkgaaGreatDoorR1
set_option linter.unusedVariables false
set_option linter.unusedSimpArgs false
namespace Go.Proofs.YtmhlneeboefkgaaGreatDoor
open Go.Av Go.Av.Net
def sameOffB (a b : Off) : Bool := decide (a.name = b.name) && decide (a.oper = b.oper) && decide (a.cal = b.cal) && decide (a.pockets = b.pockets) && decide (a.passes = b.passes) && decide (a.minutes = b.minutes) && decide (a.codes = b.codes)
set_option maxRecDepth 20000 in
theorem sameOff_spec (a b : Off) (h1 : a.codes.length ≤ 100000) (h2 : b.codes.length ≤ 100000) : Ctr Tryz.prog 29 [offA a, offA b] (fun r => r = .bool (sameOffB a b)) := by
 refine Ctr.lits ?_
 refine Ctr.of_body Tryz.func29 rfl tys_ok (by kernel_rfl) ?_
 conv => whnf
 repeat (first | refine ACode.seq ?_ | (refine ACode.s_reg tys_ok ?_; conv => whnf) | refine ACode.s_block ?_ | refine ACode.s_scope ?_ | (refine ACode.s_cond ?_; conv => whnf) | (refine ACode.s_exit ?_; conv => whnf) | (refine ACode.s_ret ?_; conv => whnf) | (refine ACode.s_skip ?_; conv => whnf) | (refine ACode.s_label ?_; conv => whnf))
 repeat' (first | (refine And.intro (fun _ => ?_) (fun _ => ?_) <;> conv => whnf) | (refine ACall.of_spec (strings_spec a.codes b.codes h1 h2) rfl fun r hr => ?_; subst hr; conv => whnf) | refine ACode.seq ?_ | (refine ACode.s_reg tys_ok ?_; conv => whnf) | refine ACode.s_block ?_ | refine ACode.s_scope ?_ | (refine ACode.s_cond ?_; conv => whnf) | (refine ACode.s_exit ?_; conv => whnf) | (refine ACode.s_ret ?_; conv => whnf) | (refine ACode.s_skip ?_; conv => whnf) | (refine ACode.s_label ?_; conv => whnf))
 all_goals (right; congr 1; unfold sameOffB; simp_all [Int.natCast_inj])
def allZ {α : Type} (f : α → α → Bool) : List α → List α → Bool
 | [], [] => true
 | x :: xs, y :: ys => f x y && allZ f xs ys
 | _, _ => false
theorem allZ_iff {α : Type} {f : α → α → Bool} : ∀ {a b : List α}, allZ f a b = true ↔ a.length = b.length ∧ ∀ (k : Nat) (h : k < a.length) (h' : k < b.length), f a[k] b[k] = true
 | [], [] => by simp [allZ]
 | [], _ :: _ => by simp [allZ]
 | _ :: _, [] => by simp [allZ]
 | x :: xs, y :: ys => by
  unfold allZ
  rw [Bool.and_eq_true, allZ_iff]
  constructor
  ·rintro ⟨h1, h2, h3⟩
   refine ⟨by simp [h2], fun k h h' => ?_⟩
   cases k with
   | zero => exact h1
   | succ k => exact h3 k (by simpa using h) (by simpa using h')
  ·rintro ⟨h1, h2⟩
   exact ⟨h2 0 (by simp) (by simp), by simpa using h1, fun k h h' => h2 (k + 1) (by simpa using h) (by simpa using h')⟩
def sameLinB (a b : Lin) : Bool := decide (a.name = b.name) && decide (a.from_ = b.from_) && decide (a.to_ = b.to_) && decide (a.at_ = b.at_) && decide (a.travel = b.travel) && decide (a.load = b.load)
def sameClsB (a b : Cls) : Bool := decide (a.name = b.name) && decide (a.cut = b.cut) && decide (a.deliver = b.deliver)
def sameNwB (a b : Nw) : Bool := allZ sameCalB a.cals b.cals && decide (a.names = b.names) && allZ (fun x y => decide (x = y)) a.opers b.opers && allZ sameOffB a.offs b.offs && allZ sameLinB a.lins b.lins && allZ sameClsB a.clss b.clss
/-- No list of a network is longer than any that is parsed. -/
structure Sml (n : Nw) : Prop where
 cals : n.cals.length ≤ 100000
 names : n.names.length ≤ 100000
 opers : n.opers.length ≤ 100000
 offs : n.offs.length ≤ 100000
 lins : n.lins.length ≤ 100000
 clss : n.clss.length ≤ 100000
 week : ∀ c ∈ n.cals, c.week.length ≤ 100000 ∧ c.hols.length ≤ 100000
 codes : ∀ o ∈ n.offs, o.codes.length ≤ 100000
structure SameNw (a b : Nw) : Prop where
 e1 : a.names = b.names
 e2 : allZ sameCalB a.cals b.cals = true
 e3 : allZ (fun x y => decide (x = y)) a.opers b.opers = true
 e4 : allZ sameOffB a.offs b.offs = true
 e5 : allZ sameLinB a.lins b.lins = true
 e6 : allZ sameClsB a.clss b.clss = true
theorem sameNw_iff {a b : Nw} : sameNwB a b = true ↔ SameNw a b := by
 unfold sameNwB
 simp only [Bool.and_eq_true, decide_eq_true_eq]
 exact ⟨fun ⟨⟨⟨⟨⟨h1, h2⟩, h3⟩, h4⟩, h5⟩, h6⟩ => ⟨h2, h1, h3, h4, h5, h6⟩, fun h => ⟨⟨⟨⟨⟨h.e2, h.e1⟩, h.e3⟩, h.e4⟩, h.e5⟩, h.e6⟩⟩
set_option maxRecDepth 20000 in
set_option maxHeartbeats 4000000 in
theorem same_spec (a b : Nw) (ha : Sml a) (hb : Sml b) : Ctr Tryz.prog 7 [netA a, netA b] (fun r => r = .bool (sameNwB a b)) := by
 refine Ctr.lits ?_
 refine Ctr.of_body Tryz.func7 rfl tys_ok (by kernel_rfl) ?_
 conv => whnf
 repeat (first | refine ACode.seq ?_ | (refine ACode.s_reg tys_ok ?_; conv => whnf) | refine ACode.s_block ?_ | refine ACode.s_scope ?_ | (refine ACode.s_cond ?_; conv => whnf) | (refine ACode.s_exit ?_; conv => whnf) | (refine ACode.s_ret ?_; conv => whnf) | (refine ACode.s_skip ?_; conv => whnf) | (refine ACode.s_label ?_; conv => whnf))
 have hF : ¬ SameNw a b → sameNwB a b = false := fun h => by
  rw [Bool.eq_false_iff]; intro hh; exact h (sameNw_iff.1 hh)
 have hL : ¬ (a.cals.length = b.cals.length ∧ a.names = b.names ∧ a.opers.length = b.opers.length ∧ a.offs.length = b.offs.length ∧ a.lins.length = b.lins.length ∧ a.clss.length = b.clss.length) → sameNwB a b = false := fun h => hF fun e => h ⟨(allZ_iff.1 e.e2).1, e.e1, (allZ_iff.1 e.e3).1, (allZ_iff.1 e.e4).1, (allZ_iff.1 e.e5).1, (allZ_iff.1 e.e6).1⟩
 repeat' (first | (refine And.intro (fun _ => ?_) (fun _ => ?_) <;> conv => whnf) | (refine ACall.of_spec (strings_spec a.names b.names ha.names hb.names) rfl fun r hr => ?_; subst hr; conv => whnf) | refine ACode.seq ?_ | (refine ACode.s_reg tys_ok ?_; conv => whnf) | refine ACode.s_block ?_ | refine ACode.s_scope ?_ | (refine ACode.s_cond ?_; conv => whnf) | (refine ACode.s_exit ?_; conv => whnf) | (refine ACode.s_ret ?_; conv => whnf) | (refine ACode.s_skip ?_; conv => whnf) | (refine ACode.s_label ?_; conv => whnf))
 rotate_left
 rotate_left
 all_goals try (rw [hL (fun ⟨q1, q2, q3, q4, q5, q6⟩ => by simp_all)]; first | exact .inl rfl | exact .inr rfl)
 rename_i x1 x2 x3 x4 x5 x6
 obtain ⟨m1, m2, m3, m4, m5, m6, m7, m8⟩ := ha
 have l1 : a.cals.length = b.cals.length := by simp at x1; omega
 have enm : a.names = b.names := by simpa using x2
 have l3 : a.opers.length = b.opers.length := by simp at x3; omega
 have l4 : a.offs.length = b.offs.length := by simp at x4; omega
 have l5 : a.lins.length = b.lins.length := by simp at x5; omega
 have l6 : a.clss.length = b.clss.length := by simp at x6; omega
 refine ACode.loopD (fun k : Nat => mk 153 [(2, .ptr 0 0), (3, .ptr 1 0), (5, .int .i64 k)]) (fun _ => [.cells [.sl 3 (a.cals.map calA), .sl 1 (strs a.names), .sl 1 (a.opers.map operA), .sl 7 (a.offs.map offA), .sl 6 (a.lins.map linA), .sl 3 (a.clss.map clsA)], .cells [.sl 3 (b.cals.map calA), .sl 1 (strs b.names), .sl 1 (b.opers.map operA), .sl 7 (b.offs.map offA), .sl 6 (b.lins.map linA), .sl 3 (b.clss.map clsA)]]) (fun k => k ≤ a.cals.length ∧ ∀ (j : Nat) (h : j < a.cals.length) (h' : j < b.cals.length), j < k → sameCalB a.cals[j] b.cals[j] = true) (fun k => a.cals.length - k) (fun k hk => ⟨rfl, rfl, rfl, trivial⟩) ⟨0, ?_⟩ (fun _ => rfl) fun k hk => ?_
 ·conv => whnf
  repeat (refine And.intro ?_ ?_; (focus (first | rfl | (simp; done))); conv => whnf)
  first | exact ⟨Nat.zero_le _, fun j h h' q => absurd q (by omega)⟩ | exact fun j h h' q => absurd q (by omega)
 ·obtain ⟨hk, hp⟩ := hk
  repeat (first | refine ACode.seq ?_ | (refine ACode.s_reg tys_ok ?_; conv => whnf) | refine ACode.s_block ?_ | refine ACode.s_scope ?_ | (refine ACode.s_cond ?_; conv => whnf) | (refine ACode.s_exit ?_; conv => whnf) | (refine ACode.s_ret ?_; conv => whnf) | (refine ACode.s_skip ?_; conv => whnf) | (refine ACode.s_label ?_; conv => whnf))
  refine ⟨fun h => ?_, fun h => ?_⟩
  ·have h : k < a.cals.length := by simp at h; omega
   have h' : k < b.cals.length := by omega
   have hbad : ¬ sameCalB a.cals[k] b.cals[k] = true → sameNwB a b = false := fun hn => hF fun e => hn ((allZ_iff.1 e.e2).2 k h h')
   have hgood : sameCalB a.cals[k] b.cals[k] = true → ∀ (j : Nat) (h : j < a.cals.length) (h' : j < b.cals.length), j < k + 1 → sameCalB a.cals[j] b.cals[j] = true := fun hg j h h' q => by
    by_cases e : j = k
    ·subst e; exact hg
    ·exact hp j h h' (by omega)
   repeat (first | refine ACode.seq ?_ | (refine ACode.s_reg tys_ok ?_; conv => whnf) | refine ACode.s_block ?_ | refine ACode.s_scope ?_ | (refine ACode.s_cond ?_; conv => whnf) | (refine ACode.s_exit ?_; conv => whnf) | (refine ACode.s_ret ?_; conv => whnf) | (refine ACode.s_skip ?_; conv => whnf) | (refine ACode.s_label ?_; conv => whnf))
   refine ACode.draw [] tys_ok (by kernel_rfl) (by kernel_rfl) ?_
   conv => whnf
   refine ⟨by omega, calA a.cals[k], by simp [h], ?_⟩
   conv => whnf
   refine ⟨by omega, calA b.cals[k], by simp [h'], ?_⟩
   conv => whnf
   refine ⟨_, ⟨sameCal_spec a.cals[k] b.cals[k] (m7 _ (List.getElem_mem h)).1 (hb.week _ (List.getElem_mem h')).1 (m7 _ (List.getElem_mem h)).2 (hb.week _ (List.getElem_mem h')).2, rfl⟩, ?_⟩
   conv => whnf
   refine ⟨fun hg => ?_, fun hg => ?_⟩ <;> (conv => whnf)
   ·repeat (first | refine ACode.seq ?_ | (refine ACode.s_reg tys_ok ?_; conv => whnf) | refine ACode.s_block ?_ | refine ACode.s_scope ?_ | (refine ACode.s_cond ?_; conv => whnf) | (refine ACode.s_exit ?_; conv => whnf) | (refine ACode.s_ret ?_; conv => whnf) | (refine ACode.s_skip ?_; conv => whnf) | (refine ACode.s_label ?_; conv => whnf))
    refine ⟨k + 1, ?_⟩
    conv => whnf
    repeat (refine And.intro ?_ ?_; (focus (first | rfl | (simp; done) | (rw [Wr64 _ (by omega) (by omega)]; omega; done))); conv => whnf)
    exact ⟨⟨by omega, hgood hg⟩, by omega⟩
   ·repeat (first | refine ACode.seq ?_ | (refine ACode.s_reg tys_ok ?_; conv => whnf) | refine ACode.s_block ?_ | refine ACode.s_scope ?_ | (refine ACode.s_cond ?_; conv => whnf) | (refine ACode.s_exit ?_; conv => whnf) | (refine ACode.s_ret ?_; conv => whnf) | (refine ACode.s_skip ?_; conv => whnf) | (refine ACode.s_label ?_; conv => whnf))
    rw [hbad (by rw [hg]; simp)]
    first | exact .inl rfl | exact .inr rfl
  ·have h : k = a.cals.length := by simp at h; omega
   subst h
   have z0 : allZ sameCalB a.cals b.cals = true := allZ_iff.2 ⟨by omega, fun j h h' => hp j h h' h⟩
   repeat (first | refine ACode.seq ?_ | (refine ACode.s_reg tys_ok ?_; conv => whnf) | refine ACode.s_block ?_ | refine ACode.s_scope ?_ | (refine ACode.s_cond ?_; conv => whnf) | (refine ACode.s_exit ?_; conv => whnf) | (refine ACode.s_ret ?_; conv => whnf) | (refine ACode.s_skip ?_; conv => whnf) | (refine ACode.s_label ?_; conv => whnf))
   refine ACode.loopD (fun k : Nat => mk 153 [(2, .ptr 0 0), (3, .ptr 1 0), (6, .int .i64 k)]) (fun _ => [.cells [.sl 3 (a.cals.map calA), .sl 1 (strs a.names), .sl 1 (a.opers.map operA), .sl 7 (a.offs.map offA), .sl 6 (a.lins.map linA), .sl 3 (a.clss.map clsA)], .cells [.sl 3 (b.cals.map calA), .sl 1 (strs b.names), .sl 1 (b.opers.map operA), .sl 7 (b.offs.map offA), .sl 6 (b.lins.map linA), .sl 3 (b.clss.map clsA)]]) (fun k => k ≤ a.opers.length ∧ ∀ (j : Nat) (h : j < a.opers.length) (h' : j < b.opers.length), j < k → (fun x y => decide (x = y)) a.opers[j] b.opers[j] = true) (fun k => a.opers.length - k) (fun k hk => ⟨rfl, rfl, rfl, trivial⟩) ⟨0, ?_⟩ (fun _ => rfl) fun k hk => ?_
   ·conv => whnf
    repeat (refine And.intro ?_ ?_; (focus (first | rfl | (simp; done))); conv => whnf)
    first | exact ⟨Nat.zero_le _, fun j h h' q => absurd q (by omega)⟩ | exact fun j h h' q => absurd q (by omega)
   ·obtain ⟨hk, hp⟩ := hk
    repeat (first | refine ACode.seq ?_ | (refine ACode.s_reg tys_ok ?_; conv => whnf) | refine ACode.s_block ?_ | refine ACode.s_scope ?_ | (refine ACode.s_cond ?_; conv => whnf) | (refine ACode.s_exit ?_; conv => whnf) | (refine ACode.s_ret ?_; conv => whnf) | (refine ACode.s_skip ?_; conv => whnf) | (refine ACode.s_label ?_; conv => whnf))
    refine ⟨fun h => ?_, fun h => ?_⟩
    ·have h : k < a.opers.length := by simp at h; omega
     have h' : k < b.opers.length := by omega
     have hbad : ¬ (fun x y => decide (x = y)) a.opers[k] b.opers[k] = true → sameNwB a b = false := fun hn => hF fun e => hn ((allZ_iff.1 e.e3).2 k h h')
     have hgood : (fun x y => decide (x = y)) a.opers[k] b.opers[k] = true → ∀ (j : Nat) (h : j < a.opers.length) (h' : j < b.opers.length), j < k + 1 → (fun x y => decide (x = y)) a.opers[j] b.opers[j] = true := fun hg j h h' q => by
      by_cases e : j = k
      ·subst e; exact hg
      ·exact hp j h h' (by omega)
     repeat (first | refine ACode.seq ?_ | (refine ACode.s_reg tys_ok ?_; conv => whnf) | refine ACode.s_block ?_ | refine ACode.s_scope ?_ | (refine ACode.s_cond ?_; conv => whnf) | (refine ACode.s_exit ?_; conv => whnf) | (refine ACode.s_ret ?_; conv => whnf) | (refine ACode.s_skip ?_; conv => whnf) | (refine ACode.s_label ?_; conv => whnf))
     refine ACode.draw [] tys_ok (by kernel_rfl) (by kernel_rfl) ?_
     conv => whnf
     refine ⟨by omega, operA a.opers[k], by simp [h], ?_⟩
     conv => whnf
     refine ⟨by omega, operA b.opers[k], by simp [h'], ?_⟩
     conv => whnf
     refine ⟨fun hg => ?_, fun hg => ?_⟩ <;> (conv => whnf)
     ·repeat (first | refine ACode.seq ?_ | (refine ACode.s_reg tys_ok ?_; conv => whnf) | refine ACode.s_block ?_ | refine ACode.s_scope ?_ | (refine ACode.s_cond ?_; conv => whnf) | (refine ACode.s_exit ?_; conv => whnf) | (refine ACode.s_ret ?_; conv => whnf) | (refine ACode.s_skip ?_; conv => whnf) | (refine ACode.s_label ?_; conv => whnf))
      rw [hbad (fun q => by simp [Int.natCast_inj] at q hg; simp_all)]
      first | exact .inl rfl | exact .inr rfl
     ·repeat (first | refine ACode.seq ?_ | (refine ACode.s_reg tys_ok ?_; conv => whnf) | refine ACode.s_block ?_ | refine ACode.s_scope ?_ | (refine ACode.s_cond ?_; conv => whnf) | (refine ACode.s_exit ?_; conv => whnf) | (refine ACode.s_ret ?_; conv => whnf) | (refine ACode.s_skip ?_; conv => whnf) | (refine ACode.s_label ?_; conv => whnf))
      refine ⟨k + 1, ?_⟩
      conv => whnf
      repeat (refine And.intro ?_ ?_; (focus (first | rfl | (simp; done) | (rw [Wr64 _ (by omega) (by omega)]; omega; done))); conv => whnf)
      exact ⟨⟨by omega, hgood (by simp [Int.natCast_inj] at hg ⊢; simp_all)⟩, by omega⟩
    ·have h : k = a.opers.length := by simp at h; omega
     subst h
     have z1 : allZ (fun x y => decide (x = y)) a.opers b.opers = true := allZ_iff.2 ⟨by omega, fun j h h' => hp j h h' h⟩
     repeat (first | refine ACode.seq ?_ | (refine ACode.s_reg tys_ok ?_; conv => whnf) | refine ACode.s_block ?_ | refine ACode.s_scope ?_ | (refine ACode.s_cond ?_; conv => whnf) | (refine ACode.s_exit ?_; conv => whnf) | (refine ACode.s_ret ?_; conv => whnf) | (refine ACode.s_skip ?_; conv => whnf) | (refine ACode.s_label ?_; conv => whnf))
     refine ACode.loopD (fun k : Nat => mk 153 [(2, .ptr 0 0), (3, .ptr 1 0), (7, .int .i64 k)]) (fun _ => [.cells [.sl 3 (a.cals.map calA), .sl 1 (strs a.names), .sl 1 (a.opers.map operA), .sl 7 (a.offs.map offA), .sl 6 (a.lins.map linA), .sl 3 (a.clss.map clsA)], .cells [.sl 3 (b.cals.map calA), .sl 1 (strs b.names), .sl 1 (b.opers.map operA), .sl 7 (b.offs.map offA), .sl 6 (b.lins.map linA), .sl 3 (b.clss.map clsA)]]) (fun k => k ≤ a.offs.length ∧ ∀ (j : Nat) (h : j < a.offs.length) (h' : j < b.offs.length), j < k → sameOffB a.offs[j] b.offs[j] = true) (fun k => a.offs.length - k) (fun k hk => ⟨rfl, rfl, rfl, trivial⟩) ⟨0, ?_⟩ (fun _ => rfl) fun k hk => ?_
     ·conv => whnf
      repeat (refine And.intro ?_ ?_; (focus (first | rfl | (simp; done))); conv => whnf)
      first | exact ⟨Nat.zero_le _, fun j h h' q => absurd q (by omega)⟩ | exact fun j h h' q => absurd q (by omega)
     ·obtain ⟨hk, hp⟩ := hk
      repeat (first | refine ACode.seq ?_ | (refine ACode.s_reg tys_ok ?_; conv => whnf) | refine ACode.s_block ?_ | refine ACode.s_scope ?_ | (refine ACode.s_cond ?_; conv => whnf) | (refine ACode.s_exit ?_; conv => whnf) | (refine ACode.s_ret ?_; conv => whnf) | (refine ACode.s_skip ?_; conv => whnf) | (refine ACode.s_label ?_; conv => whnf))
      refine ⟨fun h => ?_, fun h => ?_⟩
      ·have h : k < a.offs.length := by simp at h; omega
       have h' : k < b.offs.length := by omega
       have hbad : ¬ sameOffB a.offs[k] b.offs[k] = true → sameNwB a b = false := fun hn => hF fun e => hn ((allZ_iff.1 e.e4).2 k h h')
       have hgood : sameOffB a.offs[k] b.offs[k] = true → ∀ (j : Nat) (h : j < a.offs.length) (h' : j < b.offs.length), j < k + 1 → sameOffB a.offs[j] b.offs[j] = true := fun hg j h h' q => by
        by_cases e : j = k
        ·subst e; exact hg
        ·exact hp j h h' (by omega)
       repeat (first | refine ACode.seq ?_ | (refine ACode.s_reg tys_ok ?_; conv => whnf) | refine ACode.s_block ?_ | refine ACode.s_scope ?_ | (refine ACode.s_cond ?_; conv => whnf) | (refine ACode.s_exit ?_; conv => whnf) | (refine ACode.s_ret ?_; conv => whnf) | (refine ACode.s_skip ?_; conv => whnf) | (refine ACode.s_label ?_; conv => whnf))
       refine ACode.draw [] tys_ok (by kernel_rfl) (by kernel_rfl) ?_
       conv => whnf
       refine ⟨by omega, offA a.offs[k], by simp [h], ?_⟩
       conv => whnf
       refine ⟨by omega, offA b.offs[k], by simp [h'], ?_⟩
       conv => whnf
       refine ⟨_, ⟨sameOff_spec a.offs[k] b.offs[k] (m8 _ (List.getElem_mem h)) (hb.codes _ (List.getElem_mem h')), rfl⟩, ?_⟩
       conv => whnf
       refine ⟨fun hg => ?_, fun hg => ?_⟩ <;> (conv => whnf)
       ·repeat (first | refine ACode.seq ?_ | (refine ACode.s_reg tys_ok ?_; conv => whnf) | refine ACode.s_block ?_ | refine ACode.s_scope ?_ | (refine ACode.s_cond ?_; conv => whnf) | (refine ACode.s_exit ?_; conv => whnf) | (refine ACode.s_ret ?_; conv => whnf) | (refine ACode.s_skip ?_; conv => whnf) | (refine ACode.s_label ?_; conv => whnf))
        refine ⟨k + 1, ?_⟩
        conv => whnf
        repeat (refine And.intro ?_ ?_; (focus (first | rfl | (simp; done) | (rw [Wr64 _ (by omega) (by omega)]; omega; done))); conv => whnf)
        exact ⟨⟨by omega, hgood hg⟩, by omega⟩
       ·repeat (first | refine ACode.seq ?_ | (refine ACode.s_reg tys_ok ?_; conv => whnf) | refine ACode.s_block ?_ | refine ACode.s_scope ?_ | (refine ACode.s_cond ?_; conv => whnf) | (refine ACode.s_exit ?_; conv => whnf) | (refine ACode.s_ret ?_; conv => whnf) | (refine ACode.s_skip ?_; conv => whnf) | (refine ACode.s_label ?_; conv => whnf))
        rw [hbad (by rw [hg]; simp)]
        first | exact .inl rfl | exact .inr rfl
      ·have h : k = a.offs.length := by simp at h; omega
       subst h
       have z2 : allZ sameOffB a.offs b.offs = true := allZ_iff.2 ⟨by omega, fun j h h' => hp j h h' h⟩
       repeat (first | refine ACode.seq ?_ | (refine ACode.s_reg tys_ok ?_; conv => whnf) | refine ACode.s_block ?_ | refine ACode.s_scope ?_ | (refine ACode.s_cond ?_; conv => whnf) | (refine ACode.s_exit ?_; conv => whnf) | (refine ACode.s_ret ?_; conv => whnf) | (refine ACode.s_skip ?_; conv => whnf) | (refine ACode.s_label ?_; conv => whnf))
       refine ACode.loopD (fun k : Nat => mk 153 [(2, .ptr 0 0), (3, .ptr 1 0), (8, .int .i64 k)]) (fun _ => [.cells [.sl 3 (a.cals.map calA), .sl 1 (strs a.names), .sl 1 (a.opers.map operA), .sl 7 (a.offs.map offA), .sl 6 (a.lins.map linA), .sl 3 (a.clss.map clsA)], .cells [.sl 3 (b.cals.map calA), .sl 1 (strs b.names), .sl 1 (b.opers.map operA), .sl 7 (b.offs.map offA), .sl 6 (b.lins.map linA), .sl 3 (b.clss.map clsA)]]) (fun k => k ≤ a.lins.length ∧ ∀ (j : Nat) (h : j < a.lins.length) (h' : j < b.lins.length), j < k → sameLinB a.lins[j] b.lins[j] = true) (fun k => a.lins.length - k) (fun k hk => ⟨rfl, rfl, rfl, trivial⟩) ⟨0, ?_⟩ (fun _ => rfl) fun k hk => ?_
       ·conv => whnf
        repeat (refine And.intro ?_ ?_; (focus (first | rfl | (simp; done))); conv => whnf)
        first | exact ⟨Nat.zero_le _, fun j h h' q => absurd q (by omega)⟩ | exact fun j h h' q => absurd q (by omega)
       ·obtain ⟨hk, hp⟩ := hk
        repeat (first | refine ACode.seq ?_ | (refine ACode.s_reg tys_ok ?_; conv => whnf) | refine ACode.s_block ?_ | refine ACode.s_scope ?_ | (refine ACode.s_cond ?_; conv => whnf) | (refine ACode.s_exit ?_; conv => whnf) | (refine ACode.s_ret ?_; conv => whnf) | (refine ACode.s_skip ?_; conv => whnf) | (refine ACode.s_label ?_; conv => whnf))
        refine ⟨fun h => ?_, fun h => ?_⟩
        ·have h : k < a.lins.length := by simp at h; omega
         have h' : k < b.lins.length := by omega
         have hbad : ¬ sameLinB a.lins[k] b.lins[k] = true → sameNwB a b = false := fun hn => hF fun e => hn ((allZ_iff.1 e.e5).2 k h h')
         have hgood : sameLinB a.lins[k] b.lins[k] = true → ∀ (j : Nat) (h : j < a.lins.length) (h' : j < b.lins.length), j < k + 1 → sameLinB a.lins[j] b.lins[j] = true := fun hg j h h' q => by
          by_cases e : j = k
          ·subst e; exact hg
          ·exact hp j h h' (by omega)
         repeat (first | refine ACode.seq ?_ | (refine ACode.s_reg tys_ok ?_; conv => whnf) | refine ACode.s_block ?_ | refine ACode.s_scope ?_ | (refine ACode.s_cond ?_; conv => whnf) | (refine ACode.s_exit ?_; conv => whnf) | (refine ACode.s_ret ?_; conv => whnf) | (refine ACode.s_skip ?_; conv => whnf) | (refine ACode.s_label ?_; conv => whnf))
         refine ACode.draw [] tys_ok (by kernel_rfl) (by kernel_rfl) ?_
         conv => whnf
         refine ⟨by omega, linA a.lins[k], by simp [h], ?_⟩
         conv => whnf
         refine ⟨by omega, linA b.lins[k], by simp [h'], ?_⟩
         conv => whnf
         refine ⟨fun hg => ?_, fun hg => ?_⟩ <;> (conv => whnf)
         ·repeat (first | refine ACode.seq ?_ | (refine ACode.s_reg tys_ok ?_; conv => whnf) | refine ACode.s_block ?_ | refine ACode.s_scope ?_ | (refine ACode.s_cond ?_; conv => whnf) | (refine ACode.s_exit ?_; conv => whnf) | (refine ACode.s_ret ?_; conv => whnf) | (refine ACode.s_skip ?_; conv => whnf) | (refine ACode.s_label ?_; conv => whnf))
          rw [hbad (fun q => by unfold sameLinB at q; simp [Int.natCast_inj] at q hg; simp_all)]
          first | exact .inl rfl | exact .inr rfl
         ·repeat (first | refine ACode.seq ?_ | (refine ACode.s_reg tys_ok ?_; conv => whnf) | refine ACode.s_block ?_ | refine ACode.s_scope ?_ | (refine ACode.s_cond ?_; conv => whnf) | (refine ACode.s_exit ?_; conv => whnf) | (refine ACode.s_ret ?_; conv => whnf) | (refine ACode.s_skip ?_; conv => whnf) | (refine ACode.s_label ?_; conv => whnf))
          refine ⟨k + 1, ?_⟩
          conv => whnf
          repeat (refine And.intro ?_ ?_; (focus (first | rfl | (simp; done) | (rw [Wr64 _ (by omega) (by omega)]; omega; done))); conv => whnf)
          exact ⟨⟨by omega, hgood (by unfold sameLinB; simp [Int.natCast_inj] at hg ⊢; simp_all)⟩, by omega⟩
        ·have h : k = a.lins.length := by simp at h; omega
         subst h
         have z3 : allZ sameLinB a.lins b.lins = true := allZ_iff.2 ⟨by omega, fun j h h' => hp j h h' h⟩
         repeat (first | refine ACode.seq ?_ | (refine ACode.s_reg tys_ok ?_; conv => whnf) | refine ACode.s_block ?_ | refine ACode.s_scope ?_ | (refine ACode.s_cond ?_; conv => whnf) | (refine ACode.s_exit ?_; conv => whnf) | (refine ACode.s_ret ?_; conv => whnf) | (refine ACode.s_skip ?_; conv => whnf) | (refine ACode.s_label ?_; conv => whnf))
         refine ACode.loopD (fun k : Nat => mk 153 [(2, .ptr 0 0), (3, .ptr 1 0), (9, .int .i64 k)]) (fun _ => [.cells [.sl 3 (a.cals.map calA), .sl 1 (strs a.names), .sl 1 (a.opers.map operA), .sl 7 (a.offs.map offA), .sl 6 (a.lins.map linA), .sl 3 (a.clss.map clsA)], .cells [.sl 3 (b.cals.map calA), .sl 1 (strs b.names), .sl 1 (b.opers.map operA), .sl 7 (b.offs.map offA), .sl 6 (b.lins.map linA), .sl 3 (b.clss.map clsA)]]) (fun k => k ≤ a.clss.length ∧ ∀ (j : Nat) (h : j < a.clss.length) (h' : j < b.clss.length), j < k → sameClsB a.clss[j] b.clss[j] = true) (fun k => a.clss.length - k) (fun k hk => ⟨rfl, rfl, rfl, trivial⟩) ⟨0, ?_⟩ (fun _ => rfl) fun k hk => ?_
         ·conv => whnf
          repeat (refine And.intro ?_ ?_; (focus (first | rfl | (simp; done))); conv => whnf)
          first | exact ⟨Nat.zero_le _, fun j h h' q => absurd q (by omega)⟩ | exact fun j h h' q => absurd q (by omega)
         ·obtain ⟨hk, hp⟩ := hk
          repeat (first | refine ACode.seq ?_ | (refine ACode.s_reg tys_ok ?_; conv => whnf) | refine ACode.s_block ?_ | refine ACode.s_scope ?_ | (refine ACode.s_cond ?_; conv => whnf) | (refine ACode.s_exit ?_; conv => whnf) | (refine ACode.s_ret ?_; conv => whnf) | (refine ACode.s_skip ?_; conv => whnf) | (refine ACode.s_label ?_; conv => whnf))
          refine ⟨fun h => ?_, fun h => ?_⟩
          ·have h : k < a.clss.length := by simp at h; omega
           have h' : k < b.clss.length := by omega
           have hbad : ¬ sameClsB a.clss[k] b.clss[k] = true → sameNwB a b = false := fun hn => hF fun e => hn ((allZ_iff.1 e.e6).2 k h h')
           have hgood : sameClsB a.clss[k] b.clss[k] = true → ∀ (j : Nat) (h : j < a.clss.length) (h' : j < b.clss.length), j < k + 1 → sameClsB a.clss[j] b.clss[j] = true := fun hg j h h' q => by
            by_cases e : j = k
            ·subst e; exact hg
            ·exact hp j h h' (by omega)
           repeat (first | refine ACode.seq ?_ | (refine ACode.s_reg tys_ok ?_; conv => whnf) | refine ACode.s_block ?_ | refine ACode.s_scope ?_ | (refine ACode.s_cond ?_; conv => whnf) | (refine ACode.s_exit ?_; conv => whnf) | (refine ACode.s_ret ?_; conv => whnf) | (refine ACode.s_skip ?_; conv => whnf) | (refine ACode.s_label ?_; conv => whnf))
           refine ACode.draw [] tys_ok (by kernel_rfl) (by kernel_rfl) ?_
           conv => whnf
           refine ⟨by omega, clsA a.clss[k], by simp [h], ?_⟩
           conv => whnf
           refine ⟨by omega, clsA b.clss[k], by simp [h'], ?_⟩
           conv => whnf
           refine ⟨fun hg => ?_, fun hg => ?_⟩ <;> (conv => whnf)
           ·repeat (first | refine ACode.seq ?_ | (refine ACode.s_reg tys_ok ?_; conv => whnf) | refine ACode.s_block ?_ | refine ACode.s_scope ?_ | (refine ACode.s_cond ?_; conv => whnf) | (refine ACode.s_exit ?_; conv => whnf) | (refine ACode.s_ret ?_; conv => whnf) | (refine ACode.s_skip ?_; conv => whnf) | (refine ACode.s_label ?_; conv => whnf))
            rw [hbad (fun q => by unfold sameClsB at q; simp [Int.natCast_inj] at q hg; simp_all)]
            first | exact .inl rfl | exact .inr rfl
           ·repeat (first | refine ACode.seq ?_ | (refine ACode.s_reg tys_ok ?_; conv => whnf) | refine ACode.s_block ?_ | refine ACode.s_scope ?_ | (refine ACode.s_cond ?_; conv => whnf) | (refine ACode.s_exit ?_; conv => whnf) | (refine ACode.s_ret ?_; conv => whnf) | (refine ACode.s_skip ?_; conv => whnf) | (refine ACode.s_label ?_; conv => whnf))
            refine ⟨k + 1, ?_⟩
            conv => whnf
            repeat (refine And.intro ?_ ?_; (focus (first | rfl | (simp; done) | (rw [Wr64 _ (by omega) (by omega)]; omega; done))); conv => whnf)
            exact ⟨⟨by omega, hgood (by unfold sameClsB; simp [Int.natCast_inj] at hg ⊢; simp_all)⟩, by omega⟩
          ·have h : k = a.clss.length := by simp at h; omega
           subst h
           have z4 : allZ sameClsB a.clss b.clss = true := allZ_iff.2 ⟨by omega, fun j h h' => hp j h h' h⟩
           repeat (first | refine ACode.seq ?_ | (refine ACode.s_reg tys_ok ?_; conv => whnf) | refine ACode.s_block ?_ | refine ACode.s_scope ?_ | (refine ACode.s_cond ?_; conv => whnf) | (refine ACode.s_exit ?_; conv => whnf) | (refine ACode.s_ret ?_; conv => whnf) | (refine ACode.s_skip ?_; conv => whnf) | (refine ACode.s_label ?_; conv => whnf))
           rw [show sameNwB a b = true by unfold sameNwB; simp [z0, z1, z2, z3, z4, enm]]
           first | exact .inl rfl | exact .inr rfl
end Go.Proofs.YtmhlneeboefkgaaGreatDoor
