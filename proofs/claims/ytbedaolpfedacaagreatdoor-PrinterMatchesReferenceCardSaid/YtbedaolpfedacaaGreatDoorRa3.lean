/- A part of the proof. -/
import Derived.Test.YtbedaolpfedacaaGreatDoorNb3
import Derived.Test.YtbedaolpfedacaaGreatDoorPa3
set_option linter.unusedVariables false
set_option linter.unusedSimpArgs false
namespace Go.Proofs.YtbedaolpfedacaaGreatDoor
open Go.Av Go.Av.Net
theorem _root_.Go.Av.Ctr.lits {P : Go.Program} {f : Nat} {args : List AV} {b : Bool} (h : Ctr P f args (fun r => r = .lit b ∨ r = .bool b)) : Ctr P f args (fun r => r = .bool b) :=
 ⟨h.good, fun C w vs h1 h2 => (h.out C w vs h1 h2).mono fun e w' hp => by
  obtain ⟨r, v, h3, h4, h5, h6⟩ := hp
  refine ⟨.bool b, v, h3, rfl, h5, ?_⟩
  rcases h4 with rfl | rfl <;> (unfold Rep at *; exact h6)⟩
theorem drop_eq {α : Type} {a b : List α} (hl : a.length = b.length) (k : Nat) (h : k < a.length) (hp : a.take k = b.take k) : (a = b ↔ a[k] = b[k] ∧ a.drop (k + 1) = b.drop (k + 1)) ∧ (a[k] = b[k] → a.take (k + 1) = b.take (k + 1)) := by
 have h' : k < b.length := by omega
 have e1 : a = a.take k ++ a[k] :: a.drop (k + 1) := by rw [← List.drop_eq_getElem_cons h, List.take_append_drop]
 have e2 : b = b.take k ++ b[k] :: b.drop (k + 1) := by rw [← List.drop_eq_getElem_cons h', List.take_append_drop]
 refine ⟨⟨fun e => by subst e; exact ⟨rfl, rfl⟩, fun ⟨q1, q2⟩ => by rw [e1, e2, hp, q1, q2]⟩, fun q => by rw [List.take_succ_eq_append_getElem h, List.take_succ_eq_append_getElem h', hp, q]⟩
theorem take_all {α : Type} {a b : List α} (hl : a.length = b.length) (hp : a.take a.length = b.take a.length) : a = b := by
 rw [List.take_length, hl, List.take_length] at hp; exact hp
set_option maxRecDepth 20000 in
theorem strings_spec (a b : List Bs) (ha : a.length ≤ 100000) (hb : b.length ≤ 100000) : Ctr Tryz.prog 60 [.sl 1 (strs a), .sl 1 (strs b)] (fun r => r = .bool (decide (a = b))) := by
 refine Ctr.lits ?_
 refine Ctr.of_body Tryz.func60 rfl tys_ok (by kernel_rfl) ?_
 conv => whnf
 repeat (first | (refine ACode.st tys_ok rfl ?_; conv => whnf))
 refine ⟨fun h => ?_, fun h => ?_⟩
 ·have h : ¬ a.length = b.length := by simp [strs] at h; omega
  repeat (first | (refine ACode.st tys_ok rfl ?_; conv => whnf))
  rw [decide_eq_false (show ¬ a = b from fun e => h (by rw [e]))]
  first | exact .inl rfl | exact .inr rfl
 ·have hl : a.length = b.length := by simp [strs] at h; omega
  repeat (first | (refine ACode.st tys_ok rfl ?_; conv => whnf))
  refine ACode.loopD (fun k : Nat => mk 26 [(0, .sl 1 (strs a)), (1, .sl 1 (strs b)), (5, .int .i64 k)]) (fun _ => []) (fun k => k ≤ a.length ∧ a.take k = b.take k) (fun k => a.length - k) (fun k hk => ⟨rfl, trivial⟩) ⟨0, ?_⟩ (fun _ => rfl) fun k hk => ?_
  ·conv => whnf
   repeat (refine And.intro ?_ ?_; (focus (first | rfl | (simp; done))); conv => whnf)
   simp
  ·obtain ⟨hk, hp⟩ := hk
   repeat (first | (refine ACode.st tys_ok rfl ?_; conv => whnf))
   refine ⟨fun h => ?_, fun h => ?_⟩
   ·have h : k < a.length := by simp [strs] at h; omega
    have h' : k < b.length := by omega
    obtain ⟨q1, q2⟩ := drop_eq hl k h hp
    repeat (first | (refine ACode.st tys_ok rfl ?_; conv => whnf))
    refine ACode.draw [] tys_ok (by kernel_rfl) (by kernel_rfl) ?_
    conv => whnf
    refine ⟨by omega, .str a[k], strs_get _ _ h, ?_⟩
    conv => whnf
    refine ⟨by omega, .str b[k], strs_get _ _ h', ?_⟩
    conv => whnf
    refine ⟨fun hc => ?_, fun hc => ?_⟩
    ·have hc : ¬ a[k] = b[k] := by simpa using hc
     conv => whnf
     repeat (first | (refine ACode.st tys_ok rfl ?_; conv => whnf))
     rw [decide_eq_false (show ¬ a = b from fun e => hc (q1.1 e).1)]
     first | exact .inl rfl | exact .inr rfl
    ·have hc : a[k] = b[k] := by simpa using hc
     conv => whnf
     repeat (first | (refine ACode.st tys_ok rfl ?_; conv => whnf))
     refine ⟨k + 1, ?_⟩
     conv => whnf
     repeat (refine And.intro ?_ ?_; (focus (first | rfl | (simp; done) | (rw [Wr64 _ (by omega) (by omega)]; omega; done))); conv => whnf)
     exact ⟨⟨by omega, q2 hc⟩, by omega⟩
   ·have h : k = a.length := by simp [strs] at h; omega
    subst h
    repeat (first | (refine ACode.st tys_ok rfl ?_; conv => whnf))
    rw [decide_eq_true (take_all hl hp)]
    first | exact .inl rfl | exact .inr rfl
def sameCalB (a b : Cal) : Bool := decide (a.zone = b.zone) && decide (a.week = b.week) && decide (a.hols = b.hols)
set_option maxRecDepth 20000 in
theorem sameCal_spec (a b : Cal) (h1 : a.week.length ≤ 100000) (h2 : b.week.length ≤ 100000) (h3 : a.hols.length ≤ 100000) (h4 : b.hols.length ≤ 100000) : Ctr Tryz.prog 61 [calA a, calA b] (fun r => r = .bool (sameCalB a b)) := by
 refine Ctr.lits ?_
 refine Ctr.of_body Tryz.func61 rfl tys_ok (by kernel_rfl) ?_
 conv => whnf
 repeat (first | (refine ACode.st tys_ok rfl ?_; conv => whnf))
 have hF : ¬ (a.zone = b.zone ∧ a.week = b.week ∧ a.hols = b.hols) → sameCalB a b = false := fun h => by
  rw [Bool.eq_false_iff]; intro hh; unfold sameCalB at hh; simp only [Bool.and_eq_true, decide_eq_true_eq] at hh; exact h ⟨hh.1.1, hh.1.2, hh.2⟩
 repeat' (first | (refine And.intro (fun _ => ?_) (fun _ => ?_) <;> conv => whnf) | (refine ACode.st tys_ok rfl ?_; conv => whnf))
 rotate_left
 rotate_left
 all_goals try (rw [hF (fun ⟨e1, e2, e3⟩ => by simp_all)]; first | exact .inl rfl | exact .inr rfl)
 rename_i x1 x2 x3
 have e1 : a.zone = b.zone := by simpa using x1
 have e2 : a.week.length = b.week.length := by simp at x2; omega
 have e3 : a.hols.length = b.hols.length := by simp at x3; omega
 refine ACode.loopD (fun k : Nat => mk 66 [(2, .ptr 0 0), (3, .ptr 1 0), (5, .int .i64 k)]) (fun _ => [.cells [.int .i64 a.zone, .sl 1 (a.week.map .bool), .sl 1 (a.hols.map (.int .i64))], .cells [.int .i64 b.zone, .sl 1 (b.week.map .bool), .sl 1 (b.hols.map (.int .i64))]]) (fun k => k ≤ a.week.length ∧ a.week.take k = b.week.take k) (fun k => a.week.length - k) (fun k hk => ⟨rfl, rfl, rfl, trivial⟩) ⟨0, ?_⟩ (fun _ => rfl) fun k hk => ?_
 ·conv => whnf
  repeat (refine And.intro ?_ ?_; (focus (first | rfl | (simp; done))); conv => whnf)
  simp
 ·obtain ⟨hk, hp⟩ := hk
  repeat (first | (refine ACode.st tys_ok rfl ?_; conv => whnf))
  refine ⟨fun h => ?_, fun h => ?_⟩
  ·have h : k < a.week.length := by simp at h; omega
   have h' : k < b.week.length := by omega
   obtain ⟨q1, q2⟩ := drop_eq e2 k h hp
   repeat (first | (refine ACode.st tys_ok rfl ?_; conv => whnf))
   refine ACode.draw [] tys_ok (by kernel_rfl) (by kernel_rfl) ?_
   conv => whnf
   refine ⟨by omega, .bool a.week[k], by simp [h], ?_⟩
   conv => whnf
   refine ⟨fun g1 => ?_, fun g1 => ?_⟩ <;> (conv => whnf)
   all_goals
    refine ⟨by omega, .bool b.week[k], by simp [h'], ?_⟩
    (conv => whnf)
    refine ⟨fun g2 => ?_, fun g2 => ?_⟩ <;> (conv => whnf)
   all_goals
    refine ⟨fun g3 => ?_, fun g3 => ?_⟩ <;> (conv => whnf)
   all_goals first
    | (exfalso; simp at g3; done)
    | (repeat (first | (refine ACode.st tys_ok rfl ?_; conv => whnf))
       rw [hF (fun e => by have := (q1.1 e.2.1).1; rw [g1, g2] at this; cases this)]
       first | exact .inl rfl | exact .inr rfl)
    | (repeat (first | (refine ACode.st tys_ok rfl ?_; conv => whnf))
       refine ⟨k + 1, ?_⟩
       conv => whnf
       repeat (refine And.intro ?_ ?_; (focus (first | rfl | (simp; done) | (rw [Wr64 _ (by omega) (by omega)]; omega; done))); conv => whnf)
       exact ⟨⟨by omega, q2 (by rw [g1, g2])⟩, by omega⟩)
  ·have h : k = a.week.length := by simp at h; omega
   subst h
   have e4 := take_all e2 hp
   repeat (first | (refine ACode.st tys_ok rfl ?_; conv => whnf))
   refine ACode.loopD (fun k : Nat => mk 66 [(2, .ptr 0 0), (3, .ptr 1 0), (6, .int .i64 k)]) (fun _ => [.cells [.int .i64 a.zone, .sl 1 (a.week.map .bool), .sl 1 (a.hols.map (.int .i64))], .cells [.int .i64 b.zone, .sl 1 (b.week.map .bool), .sl 1 (b.hols.map (.int .i64))]]) (fun k => k ≤ a.hols.length ∧ a.hols.take k = b.hols.take k) (fun k => a.hols.length - k) (fun k hk => ⟨rfl, rfl, rfl, trivial⟩) ⟨0, ?_⟩ (fun _ => rfl) fun k hk => ?_
   ·conv => whnf
    repeat (refine And.intro ?_ ?_; (focus (first | rfl | (simp; done))); conv => whnf)
    simp
   ·obtain ⟨hk, hp⟩ := hk
    repeat (first | (refine ACode.st tys_ok rfl ?_; conv => whnf))
    refine ⟨fun h => ?_, fun h => ?_⟩
    ·have h : k < a.hols.length := by simp at h; omega
     have h' : k < b.hols.length := by omega
     obtain ⟨q1, q2⟩ := drop_eq e3 k h hp
     repeat (first | (refine ACode.st tys_ok rfl ?_; conv => whnf))
     refine ACode.draw [] tys_ok (by kernel_rfl) (by kernel_rfl) ?_
     conv => whnf
     refine ⟨by omega, .int .i64 a.hols[k], by simp [h], ?_⟩
     conv => whnf
     refine ⟨by omega, .int .i64 b.hols[k], by simp [h'], ?_⟩
     conv => whnf
     refine ⟨fun hc => ?_, fun hc => ?_⟩
     ·have hc : ¬ a.hols[k] = b.hols[k] := by simpa using hc
      conv => whnf
      repeat (first | (refine ACode.st tys_ok rfl ?_; conv => whnf))
      rw [hF (fun e => hc (q1.1 e.2.2).1)]
      first | exact .inl rfl | exact .inr rfl
     ·have hc : a.hols[k] = b.hols[k] := by simpa using hc
      conv => whnf
      repeat (first | (refine ACode.st tys_ok rfl ?_; conv => whnf))
      refine ⟨k + 1, ?_⟩
      conv => whnf
      repeat (refine And.intro ?_ ?_; (focus (first | rfl | (simp; done) | (rw [Wr64 _ (by omega) (by omega)]; omega; done))); conv => whnf)
      exact ⟨⟨by omega, q2 hc⟩, by omega⟩
    ·have h : k = a.hols.length := by simp at h; omega
     subst h
     have e5 := take_all e3 hp
     repeat (first | (refine ACode.st tys_ok rfl ?_; conv => whnf))
     rw [show sameCalB a b = true by unfold sameCalB; simp [e1, e4, e5]]
     first | exact .inl rfl | exact .inr rfl
end Go.Proofs.YtbedaolpfedacaaGreatDoor
namespace Go.Proofs.YtbedaolpfedacaaGreatDoor
open Go.Av Go.Av.Net
def sameOffB (a b : Off) : Bool := decide (a.name = b.name) && decide (a.oper = b.oper) && decide (a.cal = b.cal) && decide (a.pockets = b.pockets) && decide (a.passes = b.passes) && decide (a.minutes = b.minutes) && decide (a.codes = b.codes)
set_option maxRecDepth 20000 in
theorem sameOff_spec (a b : Off) (h1 : a.codes.length ≤ 100000) (h2 : b.codes.length ≤ 100000) : Ctr Tryz.prog 62 [offA a, offA b] (fun r => r = .bool (sameOffB a b)) := by
 refine Ctr.lits ?_
 refine Ctr.of_body Tryz.func62 rfl tys_ok (by kernel_rfl) ?_
 conv => whnf
 repeat (first | (refine ACode.st tys_ok rfl ?_; conv => whnf))
 repeat' (first | (refine And.intro (fun _ => ?_) (fun _ => ?_) <;> conv => whnf) | (refine ACall.of_spec (strings_spec a.codes b.codes h1 h2) rfl fun r hr => ?_; subst hr; conv => whnf) | (refine ACode.st tys_ok rfl ?_; conv => whnf))
 all_goals (right; congr 1; unfold sameOffB; simp_all [Int.natCast_inj])
def allZ {α : Type} (f : α → α → Bool) : List α → List α → Bool
 | [], [] => true
 | x :: xs, y :: ys => f x y && allZ f xs ys
 | _, _ => false
theorem allZ_iff {α : Type} {f : α → α → Bool} : ∀ {a b : List α}, allZ f a b = true ↔ a.length = b.length ∧ ∀ (k : Nat) (h : k < a.length) (h' : k < b.length), f a[k] b[k] = true
 | [], [] => by simp [allZ]
 | [], _ :: _ => by simp [allZ]
 | _ :: _, [] => by simp [allZ]
 | x :: xs, y :: ys => by
  unfold allZ
  rw [Bool.and_eq_true, allZ_iff]
  constructor
  ·rintro ⟨h1, h2, h3⟩
   refine ⟨by simp [h2], fun k h h' => ?_⟩
   cases k with
   | zero => exact h1
   | succ k => exact h3 k (by simpa using h) (by simpa using h')
  ·rintro ⟨h1, h2⟩
   exact ⟨h2 0 (by simp) (by simp), by simpa using h1, fun k h h' => h2 (k + 1) (by simpa using h) (by simpa using h')⟩
def sameLinB (a b : Lin) : Bool := decide (a.name = b.name) && decide (a.from_ = b.from_) && decide (a.to_ = b.to_) && decide (a.at_ = b.at_) && decide (a.travel = b.travel) && decide (a.load = b.load)
def sameClsB (a b : Cls) : Bool := decide (a.name = b.name) && decide (a.cut = b.cut) && decide (a.deliver = b.deliver)
def sameNwB (a b : Nw) : Bool := allZ sameCalB a.cals b.cals && decide (a.names = b.names) && allZ (fun x y => decide (x = y)) a.opers b.opers && allZ sameOffB a.offs b.offs && allZ sameLinB a.lins b.lins && allZ sameClsB a.clss b.clss
structure Sml (n : Nw) : Prop where
 cals : n.cals.length ≤ 100000
 names : n.names.length ≤ 100000
 opers : n.opers.length ≤ 100000
 offs : n.offs.length ≤ 100000
 lins : n.lins.length ≤ 100000
 clss : n.clss.length ≤ 100000
 week : ∀ c ∈ n.cals, c.week.length ≤ 100000 ∧ c.hols.length ≤ 100000
 codes : ∀ o ∈ n.offs, o.codes.length ≤ 100000
structure SameNw (a b : Nw) : Prop where
 e1 : a.names = b.names
 e2 : allZ sameCalB a.cals b.cals = true
 e3 : allZ (fun x y => decide (x = y)) a.opers b.opers = true
 e4 : allZ sameOffB a.offs b.offs = true
 e5 : allZ sameLinB a.lins b.lins = true
 e6 : allZ sameClsB a.clss b.clss = true
theorem sameNw_iff {a b : Nw} : sameNwB a b = true ↔ SameNw a b := by
 unfold sameNwB
 simp only [Bool.and_eq_true, decide_eq_true_eq]
 exact ⟨fun ⟨⟨⟨⟨⟨h1, h2⟩, h3⟩, h4⟩, h5⟩, h6⟩ => ⟨h2, h1, h3, h4, h5, h6⟩, fun h => ⟨⟨⟨⟨⟨h.e2, h.e1⟩, h.e3⟩, h.e4⟩, h.e5⟩, h.e6⟩⟩
set_option maxRecDepth 20000 in
set_option maxHeartbeats 4000000 in
theorem same_spec (a b : Nw) (ha : Sml a) (hb : Sml b) : Ctr Tryz.prog 17 [netA a, netA b] (fun r => r = .bool (sameNwB a b)) := by
 refine Ctr.lits ?_
 refine Ctr.of_body Tryz.func17 rfl tys_ok (by kernel_rfl) ?_
 conv => whnf
 repeat (first | (refine ACode.st tys_ok rfl ?_; conv => whnf))
 have hF : ¬ SameNw a b → sameNwB a b = false := fun h => by
  rw [Bool.eq_false_iff]; intro hh; exact h (sameNw_iff.1 hh)
 have hL : ¬ (a.cals.length = b.cals.length ∧ a.names = b.names ∧ a.opers.length = b.opers.length ∧ a.offs.length = b.offs.length ∧ a.lins.length = b.lins.length ∧ a.clss.length = b.clss.length) → sameNwB a b = false := fun h => hF fun e => h ⟨(allZ_iff.1 e.e2).1, e.e1, (allZ_iff.1 e.e3).1, (allZ_iff.1 e.e4).1, (allZ_iff.1 e.e5).1, (allZ_iff.1 e.e6).1⟩
 repeat' (first | (refine And.intro (fun _ => ?_) (fun _ => ?_) <;> conv => whnf) | (refine ACall.of_spec (strings_spec a.names b.names ha.names hb.names) rfl fun r hr => ?_; subst hr; conv => whnf) | (refine ACode.st tys_ok rfl ?_; conv => whnf))
 rotate_left
 rotate_left
 all_goals try (rw [hL (fun ⟨q1, q2, q3, q4, q5, q6⟩ => by simp_all)]; first | exact .inl rfl | exact .inr rfl)
 rename_i x1 x2 x3 x4 x5 x6
 obtain ⟨m1, m2, m3, m4, m5, m6, m7, m8⟩ := ha
 have l1 : a.cals.length = b.cals.length := by simp at x1; omega
 have enm : a.names = b.names := by simpa using x2
 have l3 : a.opers.length = b.opers.length := by simp at x3; omega
 have l4 : a.offs.length = b.offs.length := by simp at x4; omega
 have l5 : a.lins.length = b.lins.length := by simp at x5; omega
 have l6 : a.clss.length = b.clss.length := by simp at x6; omega
 refine ACode.loopD (fun k : Nat => mk 153 [(2, .ptr 0 0), (3, .ptr 1 0), (5, .int .i64 k)]) (fun _ => [.cells [.sl 3 (a.cals.map calA), .sl 1 (strs a.names), .sl 1 (a.opers.map operA), .sl 7 (a.offs.map offA), .sl 6 (a.lins.map linA), .sl 3 (a.clss.map clsA)], .cells [.sl 3 (b.cals.map calA), .sl 1 (strs b.names), .sl 1 (b.opers.map operA), .sl 7 (b.offs.map offA), .sl 6 (b.lins.map linA), .sl 3 (b.clss.map clsA)]]) (fun k => k ≤ a.cals.length ∧ ∀ (j : Nat) (h : j < a.cals.length) (h' : j < b.cals.length), j < k → sameCalB a.cals[j] b.cals[j] = true) (fun k => a.cals.length - k) (fun k hk => ⟨rfl, rfl, rfl, trivial⟩) ⟨0, ?_⟩ (fun _ => rfl) fun k hk => ?_
 ·conv => whnf
  repeat (refine And.intro ?_ ?_; (focus (first | rfl | (simp; done))); conv => whnf)
  first | exact ⟨Nat.zero_le _, fun j h h' q => absurd q (by omega)⟩ | exact fun j h h' q => absurd q (by omega)
 ·obtain ⟨hk, hp⟩ := hk
  repeat (first | (refine ACode.st tys_ok rfl ?_; conv => whnf))
  refine ⟨fun h => ?_, fun h => ?_⟩
  ·have h : k < a.cals.length := by simp at h; omega
   have h' : k < b.cals.length := by omega
   have hbad : ¬ sameCalB a.cals[k] b.cals[k] = true → sameNwB a b = false := fun hn => hF fun e => hn ((allZ_iff.1 e.e2).2 k h h')
   have hgood : sameCalB a.cals[k] b.cals[k] = true → ∀ (j : Nat) (h : j < a.cals.length) (h' : j < b.cals.length), j < k + 1 → sameCalB a.cals[j] b.cals[j] = true := fun hg j h h' q => by
    by_cases e : j = k
    ·subst e; exact hg
    ·exact hp j h h' (by omega)
   repeat (first | (refine ACode.st tys_ok rfl ?_; conv => whnf))
   refine ACode.draw [] tys_ok (by kernel_rfl) (by kernel_rfl) ?_
   conv => whnf
   refine ⟨by omega, calA a.cals[k], by simp [h], ?_⟩
   conv => whnf
   refine ⟨by omega, calA b.cals[k], by simp [h'], ?_⟩
   conv => whnf
   refine ⟨_, ⟨sameCal_spec a.cals[k] b.cals[k] (m7 _ (List.getElem_mem h)).1 (hb.week _ (List.getElem_mem h')).1 (m7 _ (List.getElem_mem h)).2 (hb.week _ (List.getElem_mem h')).2, rfl⟩, ?_⟩
   conv => whnf
   refine ⟨fun hg => ?_, fun hg => ?_⟩ <;> (conv => whnf)
   ·repeat (first | (refine ACode.st tys_ok rfl ?_; conv => whnf))
    refine ⟨k + 1, ?_⟩
    conv => whnf
    repeat (refine And.intro ?_ ?_; (focus (first | rfl | (simp; done) | (rw [Wr64 _ (by omega) (by omega)]; omega; done))); conv => whnf)
    exact ⟨⟨by omega, hgood hg⟩, by omega⟩
   ·repeat (first | (refine ACode.st tys_ok rfl ?_; conv => whnf))
    rw [hbad (by rw [hg]; simp)]
    first | exact .inl rfl | exact .inr rfl
  ·have h : k = a.cals.length := by simp at h; omega
   subst h
   have z0 : allZ sameCalB a.cals b.cals = true := allZ_iff.2 ⟨by omega, fun j h h' => hp j h h' h⟩
   repeat (first | (refine ACode.st tys_ok rfl ?_; conv => whnf))
   refine ACode.loopD (fun k : Nat => mk 153 [(2, .ptr 0 0), (3, .ptr 1 0), (6, .int .i64 k)]) (fun _ => [.cells [.sl 3 (a.cals.map calA), .sl 1 (strs a.names), .sl 1 (a.opers.map operA), .sl 7 (a.offs.map offA), .sl 6 (a.lins.map linA), .sl 3 (a.clss.map clsA)], .cells [.sl 3 (b.cals.map calA), .sl 1 (strs b.names), .sl 1 (b.opers.map operA), .sl 7 (b.offs.map offA), .sl 6 (b.lins.map linA), .sl 3 (b.clss.map clsA)]]) (fun k => k ≤ a.opers.length ∧ ∀ (j : Nat) (h : j < a.opers.length) (h' : j < b.opers.length), j < k → (fun x y => decide (x = y)) a.opers[j] b.opers[j] = true) (fun k => a.opers.length - k) (fun k hk => ⟨rfl, rfl, rfl, trivial⟩) ⟨0, ?_⟩ (fun _ => rfl) fun k hk => ?_
   ·conv => whnf
    repeat (refine And.intro ?_ ?_; (focus (first | rfl | (simp; done))); conv => whnf)
    first | exact ⟨Nat.zero_le _, fun j h h' q => absurd q (by omega)⟩ | exact fun j h h' q => absurd q (by omega)
   ·obtain ⟨hk, hp⟩ := hk
    repeat (first | (refine ACode.st tys_ok rfl ?_; conv => whnf))
    refine ⟨fun h => ?_, fun h => ?_⟩
    ·have h : k < a.opers.length := by simp at h; omega
     have h' : k < b.opers.length := by omega
     have hbad : ¬ (fun x y => decide (x = y)) a.opers[k] b.opers[k] = true → sameNwB a b = false := fun hn => hF fun e => hn ((allZ_iff.1 e.e3).2 k h h')
     have hgood : (fun x y => decide (x = y)) a.opers[k] b.opers[k] = true → ∀ (j : Nat) (h : j < a.opers.length) (h' : j < b.opers.length), j < k + 1 → (fun x y => decide (x = y)) a.opers[j] b.opers[j] = true := fun hg j h h' q => by
      by_cases e : j = k
      ·subst e; exact hg
      ·exact hp j h h' (by omega)
     repeat (first | (refine ACode.st tys_ok rfl ?_; conv => whnf))
     refine ACode.draw [] tys_ok (by kernel_rfl) (by kernel_rfl) ?_
     conv => whnf
     refine ⟨by omega, operA a.opers[k], by simp [h], ?_⟩
     conv => whnf
     refine ⟨by omega, operA b.opers[k], by simp [h'], ?_⟩
     conv => whnf
     refine ⟨fun hg => ?_, fun hg => ?_⟩ <;> (conv => whnf)
     ·repeat (first | (refine ACode.st tys_ok rfl ?_; conv => whnf))
      rw [hbad (fun q => by simp [Int.natCast_inj] at q hg; simp_all)]
      first | exact .inl rfl | exact .inr rfl
     ·repeat (first | (refine ACode.st tys_ok rfl ?_; conv => whnf))
      refine ⟨k + 1, ?_⟩
      conv => whnf
      repeat (refine And.intro ?_ ?_; (focus (first | rfl | (simp; done) | (rw [Wr64 _ (by omega) (by omega)]; omega; done))); conv => whnf)
      exact ⟨⟨by omega, hgood (by simp [Int.natCast_inj] at hg ⊢; simp_all)⟩, by omega⟩
    ·have h : k = a.opers.length := by simp at h; omega
     subst h
     have z1 : allZ (fun x y => decide (x = y)) a.opers b.opers = true := allZ_iff.2 ⟨by omega, fun j h h' => hp j h h' h⟩
     repeat (first | (refine ACode.st tys_ok rfl ?_; conv => whnf))
     refine ACode.loopD (fun k : Nat => mk 153 [(2, .ptr 0 0), (3, .ptr 1 0), (7, .int .i64 k)]) (fun _ => [.cells [.sl 3 (a.cals.map calA), .sl 1 (strs a.names), .sl 1 (a.opers.map operA), .sl 7 (a.offs.map offA), .sl 6 (a.lins.map linA), .sl 3 (a.clss.map clsA)], .cells [.sl 3 (b.cals.map calA), .sl 1 (strs b.names), .sl 1 (b.opers.map operA), .sl 7 (b.offs.map offA), .sl 6 (b.lins.map linA), .sl 3 (b.clss.map clsA)]]) (fun k => k ≤ a.offs.length ∧ ∀ (j : Nat) (h : j < a.offs.length) (h' : j < b.offs.length), j < k → sameOffB a.offs[j] b.offs[j] = true) (fun k => a.offs.length - k) (fun k hk => ⟨rfl, rfl, rfl, trivial⟩) ⟨0, ?_⟩ (fun _ => rfl) fun k hk => ?_
     ·conv => whnf
      repeat (refine And.intro ?_ ?_; (focus (first | rfl | (simp; done))); conv => whnf)
      first | exact ⟨Nat.zero_le _, fun j h h' q => absurd q (by omega)⟩ | exact fun j h h' q => absurd q (by omega)
     ·obtain ⟨hk, hp⟩ := hk
      repeat (first | (refine ACode.st tys_ok rfl ?_; conv => whnf))
      refine ⟨fun h => ?_, fun h => ?_⟩
      ·have h : k < a.offs.length := by simp at h; omega
       have h' : k < b.offs.length := by omega
       have hbad : ¬ sameOffB a.offs[k] b.offs[k] = true → sameNwB a b = false := fun hn => hF fun e => hn ((allZ_iff.1 e.e4).2 k h h')
       have hgood : sameOffB a.offs[k] b.offs[k] = true → ∀ (j : Nat) (h : j < a.offs.length) (h' : j < b.offs.length), j < k + 1 → sameOffB a.offs[j] b.offs[j] = true := fun hg j h h' q => by
        by_cases e : j = k
        ·subst e; exact hg
        ·exact hp j h h' (by omega)
       repeat (first | (refine ACode.st tys_ok rfl ?_; conv => whnf))
       refine ACode.draw [] tys_ok (by kernel_rfl) (by kernel_rfl) ?_
       conv => whnf
       refine ⟨by omega, offA a.offs[k], by simp [h], ?_⟩
       conv => whnf
       refine ⟨by omega, offA b.offs[k], by simp [h'], ?_⟩
       conv => whnf
       refine ⟨_, ⟨sameOff_spec a.offs[k] b.offs[k] (m8 _ (List.getElem_mem h)) (hb.codes _ (List.getElem_mem h')), rfl⟩, ?_⟩
       conv => whnf
       refine ⟨fun hg => ?_, fun hg => ?_⟩ <;> (conv => whnf)
       ·repeat (first | (refine ACode.st tys_ok rfl ?_; conv => whnf))
        refine ⟨k + 1, ?_⟩
        conv => whnf
        repeat (refine And.intro ?_ ?_; (focus (first | rfl | (simp; done) | (rw [Wr64 _ (by omega) (by omega)]; omega; done))); conv => whnf)
        exact ⟨⟨by omega, hgood hg⟩, by omega⟩
       ·repeat (first | (refine ACode.st tys_ok rfl ?_; conv => whnf))
        rw [hbad (by rw [hg]; simp)]
        first | exact .inl rfl | exact .inr rfl
      ·have h : k = a.offs.length := by simp at h; omega
       subst h
       have z2 : allZ sameOffB a.offs b.offs = true := allZ_iff.2 ⟨by omega, fun j h h' => hp j h h' h⟩
       repeat (first | (refine ACode.st tys_ok rfl ?_; conv => whnf))
       refine ACode.loopD (fun k : Nat => mk 153 [(2, .ptr 0 0), (3, .ptr 1 0), (8, .int .i64 k)]) (fun _ => [.cells [.sl 3 (a.cals.map calA), .sl 1 (strs a.names), .sl 1 (a.opers.map operA), .sl 7 (a.offs.map offA), .sl 6 (a.lins.map linA), .sl 3 (a.clss.map clsA)], .cells [.sl 3 (b.cals.map calA), .sl 1 (strs b.names), .sl 1 (b.opers.map operA), .sl 7 (b.offs.map offA), .sl 6 (b.lins.map linA), .sl 3 (b.clss.map clsA)]]) (fun k => k ≤ a.lins.length ∧ ∀ (j : Nat) (h : j < a.lins.length) (h' : j < b.lins.length), j < k → sameLinB a.lins[j] b.lins[j] = true) (fun k => a.lins.length - k) (fun k hk => ⟨rfl, rfl, rfl, trivial⟩) ⟨0, ?_⟩ (fun _ => rfl) fun k hk => ?_
       ·conv => whnf
        repeat (refine And.intro ?_ ?_; (focus (first | rfl | (simp; done))); conv => whnf)
        first | exact ⟨Nat.zero_le _, fun j h h' q => absurd q (by omega)⟩ | exact fun j h h' q => absurd q (by omega)
       ·obtain ⟨hk, hp⟩ := hk
        repeat (first | (refine ACode.st tys_ok rfl ?_; conv => whnf))
        refine ⟨fun h => ?_, fun h => ?_⟩
        ·have h : k < a.lins.length := by simp at h; omega
         have h' : k < b.lins.length := by omega
         have hbad : ¬ sameLinB a.lins[k] b.lins[k] = true → sameNwB a b = false := fun hn => hF fun e => hn ((allZ_iff.1 e.e5).2 k h h')
         have hgood : sameLinB a.lins[k] b.lins[k] = true → ∀ (j : Nat) (h : j < a.lins.length) (h' : j < b.lins.length), j < k + 1 → sameLinB a.lins[j] b.lins[j] = true := fun hg j h h' q => by
          by_cases e : j = k
          ·subst e; exact hg
          ·exact hp j h h' (by omega)
         repeat (first | (refine ACode.st tys_ok rfl ?_; conv => whnf))
         refine ACode.draw [] tys_ok (by kernel_rfl) (by kernel_rfl) ?_
         conv => whnf
         refine ⟨by omega, linA a.lins[k], by simp [h], ?_⟩
         conv => whnf
         refine ⟨by omega, linA b.lins[k], by simp [h'], ?_⟩
         conv => whnf
         refine ⟨fun hg => ?_, fun hg => ?_⟩ <;> (conv => whnf)
         ·repeat (first | (refine ACode.st tys_ok rfl ?_; conv => whnf))
          rw [hbad (fun q => by unfold sameLinB at q; simp [Int.natCast_inj] at q hg; simp_all)]
          first | exact .inl rfl | exact .inr rfl
         ·repeat (first | (refine ACode.st tys_ok rfl ?_; conv => whnf))
          refine ⟨k + 1, ?_⟩
          conv => whnf
          repeat (refine And.intro ?_ ?_; (focus (first | rfl | (simp; done) | (rw [Wr64 _ (by omega) (by omega)]; omega; done))); conv => whnf)
          exact ⟨⟨by omega, hgood (by unfold sameLinB; simp [Int.natCast_inj] at hg ⊢; simp_all)⟩, by omega⟩
        ·have h : k = a.lins.length := by simp at h; omega
         subst h
         have z3 : allZ sameLinB a.lins b.lins = true := allZ_iff.2 ⟨by omega, fun j h h' => hp j h h' h⟩
         repeat (first | (refine ACode.st tys_ok rfl ?_; conv => whnf))
         refine ACode.loopD (fun k : Nat => mk 153 [(2, .ptr 0 0), (3, .ptr 1 0), (9, .int .i64 k)]) (fun _ => [.cells [.sl 3 (a.cals.map calA), .sl 1 (strs a.names), .sl 1 (a.opers.map operA), .sl 7 (a.offs.map offA), .sl 6 (a.lins.map linA), .sl 3 (a.clss.map clsA)], .cells [.sl 3 (b.cals.map calA), .sl 1 (strs b.names), .sl 1 (b.opers.map operA), .sl 7 (b.offs.map offA), .sl 6 (b.lins.map linA), .sl 3 (b.clss.map clsA)]]) (fun k => k ≤ a.clss.length ∧ ∀ (j : Nat) (h : j < a.clss.length) (h' : j < b.clss.length), j < k → sameClsB a.clss[j] b.clss[j] = true) (fun k => a.clss.length - k) (fun k hk => ⟨rfl, rfl, rfl, trivial⟩) ⟨0, ?_⟩ (fun _ => rfl) fun k hk => ?_
         ·conv => whnf
          repeat (refine And.intro ?_ ?_; (focus (first | rfl | (simp; done))); conv => whnf)
          first | exact ⟨Nat.zero_le _, fun j h h' q => absurd q (by omega)⟩ | exact fun j h h' q => absurd q (by omega)
         ·obtain ⟨hk, hp⟩ := hk
          repeat (first | (refine ACode.st tys_ok rfl ?_; conv => whnf))
          refine ⟨fun h => ?_, fun h => ?_⟩
          ·have h : k < a.clss.length := by simp at h; omega
           have h' : k < b.clss.length := by omega
           have hbad : ¬ sameClsB a.clss[k] b.clss[k] = true → sameNwB a b = false := fun hn => hF fun e => hn ((allZ_iff.1 e.e6).2 k h h')
           have hgood : sameClsB a.clss[k] b.clss[k] = true → ∀ (j : Nat) (h : j < a.clss.length) (h' : j < b.clss.length), j < k + 1 → sameClsB a.clss[j] b.clss[j] = true := fun hg j h h' q => by
            by_cases e : j = k
            ·subst e; exact hg
            ·exact hp j h h' (by omega)
           repeat (first | (refine ACode.st tys_ok rfl ?_; conv => whnf))
           refine ACode.draw [] tys_ok (by kernel_rfl) (by kernel_rfl) ?_
           conv => whnf
           refine ⟨by omega, clsA a.clss[k], by simp [h], ?_⟩
           conv => whnf
           refine ⟨by omega, clsA b.clss[k], by simp [h'], ?_⟩
           conv => whnf
           refine ⟨fun hg => ?_, fun hg => ?_⟩ <;> (conv => whnf)
           ·repeat (first | (refine ACode.st tys_ok rfl ?_; conv => whnf))
            rw [hbad (fun q => by unfold sameClsB at q; simp [Int.natCast_inj] at q hg; simp_all)]
            first | exact .inl rfl | exact .inr rfl
           ·repeat (first | (refine ACode.st tys_ok rfl ?_; conv => whnf))
            refine ⟨k + 1, ?_⟩
            conv => whnf
            repeat (refine And.intro ?_ ?_; (focus (first | rfl | (simp; done) | (rw [Wr64 _ (by omega) (by omega)]; omega; done))); conv => whnf)
            exact ⟨⟨by omega, hgood (by unfold sameClsB; simp [Int.natCast_inj] at hg ⊢; simp_all)⟩, by omega⟩
          ·have h : k = a.clss.length := by simp at h; omega
           subst h
           have z4 : allZ sameClsB a.clss b.clss = true := allZ_iff.2 ⟨by omega, fun j h h' => hp j h h' h⟩
           repeat (first | (refine ACode.st tys_ok rfl ?_; conv => whnf))
           rw [show sameNwB a b = true by unfold sameNwB; simp [z0, z1, z2, z3, z4, enm]]
           first | exact .inl rfl | exact .inr rfl
end Go.Proofs.YtbedaolpfedacaaGreatDoor
namespace Go.Proofs.YtbedaolpfedacaaGreatDoor
open Go.Av Go.Av.Net Pl
theorem _root_.Go.Av.no_br {P Q X Y : Prop} (h : ¬ Q) (h2 : P → X) : (P → X) ∧ (Q → Y) := ⟨h2, fun q => absurd q h⟩
theorem _root_.Go.Av.yes_br {P Q X Y : Prop} (h : ¬ P) (h2 : Q → Y) : (P → X) ∧ (Q → Y) := ⟨fun q => absurd q h, h2⟩
theorem closed_strs (l : List Bs) : ∀ e ∈ strs l, closed e = true := by
 intro e he; obtain ⟨s, _, rfl⟩ := List.mem_map.1 he; rfl
theorem keys_spec : Ctr Tryz.prog 100 [] (fun r => r = .sl 1 (strs keyWords)) := by
 refine Ctr.of_body Tryz.func100 rfl tys_ok (by kernel_rfl) ?_
 conv => whnf
 repeat (first | (refine ACode.st tys_ok rfl ?_; conv => whnf))
 exact ⟨⟨rfl, closed_strs keyWords⟩, rfl⟩
def inB (l : List Bs) (s : Bs) : Bool := l.any (fun x => decide (x = s))
theorem inB_step {l : List Bs} {s : Bs} {k : Nat} (h : k < l.length) : inB (l.drop k) s = (decide (l[k] = s) || inB (l.drop (k + 1)) s) := any_step _ l k h
theorem inB_key (s : Bs) : keyWords.any (fun x => decide (s = x)) = inB keyWords s := by
 unfold inB; congr 1; funext x; simp only [eq_comm]
set_option maxRecDepth 20000 in
theorem key_spec (s : Bs) : Ctr Tryz.prog 69 [.str s] (fun r => r = .bool (inB keyWords s)) := by
 refine Ctr.lits ?_
 refine Ctr.of_body Tryz.func69 rfl tys_ok (by kernel_rfl) ?_
 conv => whnf
 repeat (first | (refine ACode.st tys_ok rfl ?_; conv => whnf))
 refine ACall.of_spec (keys_spec) rfl fun r hr => ?_
 subst hr
 conv => whnf
 repeat (first | (refine ACode.st tys_ok rfl ?_; conv => whnf))
 refine ACode.loopD (fun k : Nat => mk 18 [(0, .str s), (3, .sl 1 (strs keyWords)), (4, .int .i64 k)]) (fun _ => []) (fun k => k ≤ 17 ∧ inB keyWords s = inB (keyWords.drop k) s) (fun k => 17 - k) (fun k hk => ⟨rfl, trivial⟩) ⟨0, ?_⟩ (fun _ => rfl) fun k hk => ?_
 ·conv => whnf
  repeat (refine And.intro ?_ ?_; (focus (first | rfl | (simp; done))); conv => whnf)
  rfl
 ·obtain ⟨hk, he⟩ := hk
  repeat (first | (refine ACode.st tys_ok rfl ?_; conv => whnf))
  refine ⟨fun hlt => ?_, fun hge => ?_⟩
  ·have hlt : k < 17 := by simp [strs, keyWords] at hlt; omega
   have hlt' : k < keyWords.length := hlt
   rw [inB_step hlt'] at he
   repeat (first | (refine ACode.st tys_ok rfl ?_; conv => whnf))
   refine ⟨by omega, .str keyWords[k], strs_get _ _ hlt', ?_⟩
   conv => whnf
   repeat (first | (refine ACode.st tys_ok rfl ?_; conv => whnf))
   refine ⟨fun ht => ?_, fun hf => ?_⟩
   ·conv => whnf
    repeat (first | (refine ACode.st tys_ok rfl ?_; conv => whnf))
    have ht : keyWords[k] = s := by simpa using ht
    rw [decide_eq_true ht, Bool.true_or] at he
    rw [he]
    first | exact .inl rfl | exact .inr rfl
   ·conv => whnf
    repeat (first | (refine ACode.st tys_ok rfl ?_; conv => whnf))
    have hf : ¬ keyWords[k] = s := by simpa using hf
    rw [decide_eq_false hf, Bool.false_or] at he
    refine ⟨k + 1, ?_⟩
    conv => whnf
    repeat (refine And.intro ?_ ?_; (focus (first | rfl | (simp; done) | (rw [Wr64 _ (by omega) (by omega)]; omega; done))); conv => whnf)
    exact ⟨⟨by omega, he⟩, by omega⟩
  ·have hge : 17 ≤ k := by simp [strs, keyWords] at hge; omega
   have : k = 17 := by omega
   subst this
   repeat (first | (refine ACode.st tys_ok rfl ?_; conv => whnf))
   have h5 : inB keyWords s = false := by rw [he]; rfl
   rw [h5]
   first | exact .inl rfl | exact .inr rfl
theorem rDigit_spec (b : UInt8) : Ctr Tryz.prog 70 [.int .u8 b.toNat] (fun r => r = .bool (digB b)) := by
 refine Ctr.lits ?_
 refine Ctr.of_body Tryz.func70 rfl tys_ok (by kernel_rfl) ?_
 conv => whnf
 repeat (first | (refine ACode.st tys_ok rfl ?_; conv => whnf))
 repeat' (first | (refine And.intro (fun _ => ?_) (fun _ => ?_) <;> conv => whnf) | (refine ACode.st tys_ok rfl ?_; conv => whnf))
 all_goals first | (refine .inr (congrArg AV.bool ?_); rw [Bool.eq_iff_iff]; (try simp_all [digB]); (try omega); done) | (refine .inl (congrArg AV.lit ?_); rw [Bool.eq_iff_iff]; (try simp_all [digB]); (try omega); done)
theorem name_false {s : Bs} (h : ¬ (1 ≤ s.length ∧ s.length ≤ 16 ∧ smallB (s.headD 0) = true ∧ inB keyWords s = false)) : isNameB s = false := by
 rw [Bool.eq_false_iff]
 intro q
 rw [isNameB_eq] at q
 simp only [Bool.and_eq_true, decide_eq_true_eq, Bool.not_eq_true'] at q
 obtain ⟨⟨⟨⟨q1, q2⟩, q3⟩, q4⟩, q5⟩ := q
 rw [inB_key] at q5
 exact h ⟨q1, q2, q3, q5⟩
set_option maxRecDepth 20000 in
theorem rName_spec (s : Bs) (hs : s.length ≤ 9223372036854775807) : Ctr Tryz.prog 37 [.str s] (fun r => r = .bool (isNameB s)) := by
 refine Ctr.lits ?_
 have fin : ¬ (1 ≤ s.length ∧ s.length ≤ 16 ∧ smallB (s.headD 0) = true ∧ inB keyWords s = false) → (AV.bool false = .lit (isNameB s) ∨ AV.bool false = .bool (isNameB s)) ∧ (AV.lit false = .lit (isNameB s) ∨ AV.lit false = .bool (isNameB s)) := fun h => by rw [name_false h]; exact ⟨.inr rfl, .inl rfl⟩
 have hg : s.getD (0 : Int).toNat 0 = s.headD 0 := by cases s <;> rfl
 have hname := isNameB_eq s
 generalize s.headD 0 = c at *
 refine Ctr.of_body Tryz.func37 rfl tys_ok (by kernel_rfl) ?_
 conv => whnf
 repeat (first | (refine ACode.st tys_ok rfl ?_; conv => whnf))
 refine ⟨fun h1 => ?_, fun h1 => ?_⟩
 ·have h1 : 1 ≤ s.length := by simp at h1; omega
  conv => whnf
  repeat (first | (refine ACode.st tys_ok rfl ?_; conv => whnf))
  refine ⟨fun h2 => ?_, fun h2 => ?_⟩
  ·have h2 : s.length ≤ 16 := by simp at h2; omega
   conv => whnf
   repeat (first | (refine ACode.st tys_ok rfl ?_; conv => whnf))
   refine ⟨⟨by omega, by omega⟩, ?_⟩
   conv => whnf
   rw [hg]
   refine ⟨fun h3 => ?_, fun h3 => ?_⟩
   ·have h3 : 97 ≤ c.toNat := by simp at h3; omega
    conv => whnf
    repeat (first | (refine ACode.st tys_ok rfl ?_; conv => whnf))
    refine ⟨⟨by omega, by omega⟩, ?_⟩
    conv => whnf
    rw [hg]
    refine ⟨fun h4 => ?_, fun h4 => ?_⟩
    ·have h4 : c.toNat ≤ 122 := by simp at h4; omega
     have h5 : smallB c = true := by simp [smallB, h3, h4]
     conv => whnf
     repeat (first | (refine ACode.st tys_ok rfl ?_; conv => whnf))
     refine ACall.of_spec (key_spec s) rfl fun r hr => ?_
     subst hr
     conv => whnf
     repeat (first | (refine ACode.st tys_ok rfl ?_; conv => whnf))
     refine ⟨fun h6 => ?_, fun h6 => ?_⟩
     ·have h6 : inB keyWords s = true := by simpa using h6
      conv => whnf
      repeat (first | (refine ACode.st tys_ok rfl ?_; conv => whnf))
      have := fin (fun q => by rw [h6] at q; exact absurd q.2.2.2 (by simp))
      first | exact this.1 | exact this.2
     ·have h6 : inB keyWords s = false := by simpa using h6
      have hname : isNameB s = s.all nmB := by
       rw [hname, inB_key, h6, h5, decide_eq_true h1, decide_eq_true h2]; simp
      conv => whnf
      repeat (first | (refine ACode.st tys_ok rfl ?_; conv => whnf))
      refine ACode.loopD (fun k : Nat => mk 55 [(0, .str s), (3, .int .i64 k)]) (fun _ => []) (fun k => k ≤ s.length ∧ (s.all nmB) = (s.drop k).all nmB) (fun k => s.length - k) (fun k hk => ⟨rfl, trivial⟩) ⟨0, ?_⟩ (fun _ => rfl) fun k hk => ?_
      ·conv => whnf
       repeat (refine And.intro ?_ ?_; (focus (first | rfl | (simp; done))); conv => whnf)
       simp
      ·obtain ⟨hk, he⟩ := hk
       repeat (first | (refine ACode.st tys_ok rfl ?_; conv => whnf))
       refine ⟨fun hlt => ?_, fun hge => ?_⟩
       ·have hlt : k < s.length := by simpa using hlt
        rw [all_step _ s k hlt] at he
        repeat (first | (refine ACode.st tys_ok rfl ?_; conv => whnf))
        repeat' (first | (refine And.intro (fun _ => ?_) (fun _ => ?_) <;> conv => whnf) | (refine And.intro ⟨by omega, by omega⟩ ?_; (conv => whnf); first | rw [getD_byte s k hlt]) | (refine ACall.of_spec (rDigit_spec s[k]) rfl fun r hr => ?_; subst hr; conv => whnf) | (refine ACode.st tys_ok rfl ?_; conv => whnf))
        all_goals first
         | (have hn : nmB s[k] = false := by simp_all [nmB, smallB] <;> omega
            rw [hn] at he
            rw [hname, he]; first | exact .inl rfl | exact .inr rfl)
         | (refine ⟨k + 1, ?_⟩
            conv => whnf
            repeat (refine And.intro ?_ ?_; (focus (first | rfl | (simp; done) | (rw [Wr64 _ (by omega) (by omega)]; omega; done))); conv => whnf)
            have hn : nmB s[k] = true := by simp_all [nmB, smallB] <;> omega
            rw [hn] at he
            exact ⟨⟨by omega, he⟩, by omega⟩)
       ·have hge : s.length ≤ k := by simp at hge; omega
        have : k = s.length := by omega
        subst this
        have h7 : s.all nmB = true := by rw [he]; simp
        repeat (first | (refine ACode.st tys_ok rfl ?_; conv => whnf))
        rw [hname, h7]
        exact .inr rfl
    ·have h4 : ¬ c.toNat ≤ 122 := by simp at h4; omega
     conv => whnf
     repeat (first | (refine ACode.st tys_ok rfl ?_; conv => whnf))
     have := fin (fun q => by have := q.2.2.1; simp [smallB] at this; omega)
     first | exact this.1 | exact this.2
   ·have h3 : ¬ 97 ≤ c.toNat := by simp at h3; omega
    conv => whnf
    repeat (first | (refine ACode.st tys_ok rfl ?_; conv => whnf))
    have := fin (fun q => by have := q.2.2.1; simp [smallB] at this; omega)
    first | exact this.1 | exact this.2
  ·have h2 : ¬ s.length ≤ 16 := by simp at h2; omega
   conv => whnf
   repeat (first | (refine ACode.st tys_ok rfl ?_; conv => whnf))
   have := fin (fun q => h2 q.2.1)
   first | exact this.1 | exact this.2
 ·have h1 : ¬ 1 ≤ s.length := by simp at h1; omega
  conv => whnf
  repeat (first | (refine ACode.st tys_ok rfl ?_; conv => whnf))
  have := fin (fun q => h1 q.1)
  first | exact this.1 | exact this.2
set_option maxRecDepth 20000 in
theorem rCode_spec (s : Bs) (hs : s.length ≤ 9223372036854775807) : Ctr Tryz.prog 42 [.str s] (fun r => r = .bool (isCodeB s)) := by
 refine Ctr.lits ?_
 refine Ctr.of_body Tryz.func42 rfl tys_ok (by kernel_rfl) ?_
 conv => whnf
 repeat (first | (refine ACode.st tys_ok rfl ?_; conv => whnf))
 refine ⟨fun h1 => ?_, fun h1 => ?_⟩
 ·have h1 : 1 ≤ s.length := by simp at h1; omega
  conv => whnf
  repeat (first | (refine ACode.st tys_ok rfl ?_; conv => whnf))
  refine ⟨fun h2 => ?_, fun h2 => ?_⟩
  ·have h2 : ¬ s.length ≤ 8 := by simp at h2; omega
   have : isCodeB s = false := by simp [codeB_eq, h2]
   conv => whnf
   repeat (first | (refine ACode.st tys_ok rfl ?_; conv => whnf))
   rw [this]
   first | exact .inl rfl | exact .inr rfl
  ·have h2 : s.length ≤ 8 := by simp at h2; omega
   have hcode : isCodeB s = s.all codeB := by rw [codeB_eq, decide_eq_true h1, decide_eq_true h2]; simp
   conv => whnf
   repeat (first | (refine ACode.st tys_ok rfl ?_; conv => whnf))
   refine ACode.loopD (fun k : Nat => mk 35 [(0, .str s), (3, .int .i64 k)]) (fun _ => []) (fun k => k ≤ s.length ∧ (s.all codeB) = (s.drop k).all codeB) (fun k => s.length - k) (fun k hk => ⟨rfl, trivial⟩) ⟨0, ?_⟩ (fun _ => rfl) fun k hk => ?_
   ·conv => whnf
    repeat (refine And.intro ?_ ?_; (focus (first | rfl | (simp; done))); conv => whnf)
    simp
   ·obtain ⟨hk, he⟩ := hk
    repeat (first | (refine ACode.st tys_ok rfl ?_; conv => whnf))
    refine ⟨fun hlt => ?_, fun hge => ?_⟩
    ·have hlt : k < s.length := by simpa using hlt
     rw [all_step _ s k hlt] at he
     repeat (first | (refine ACode.st tys_ok rfl ?_; conv => whnf))
     repeat' (first | (refine And.intro (fun _ => ?_) (fun _ => ?_) <;> conv => whnf) | (refine And.intro ⟨by omega, by omega⟩ ?_; (conv => whnf); first | rw [getD_byte s k hlt]) | (refine ACall.of_spec (rDigit_spec s[k]) rfl fun r hr => ?_; subst hr; conv => whnf) | (refine ACode.st tys_ok rfl ?_; conv => whnf))
     all_goals first
      | (have hn : codeB s[k] = false := by simp_all [codeB] <;> omega
         rw [hn] at he
         rw [hcode, he]; first | exact .inl rfl | exact .inr rfl)
      | (refine ⟨k + 1, ?_⟩
         conv => whnf
         repeat (refine And.intro ?_ ?_; (focus (first | rfl | (simp; done) | (rw [Wr64 _ (by omega) (by omega)]; omega; done))); conv => whnf)
         have hn : codeB s[k] = true := by simp_all [codeB] <;> omega
         rw [hn] at he
         exact ⟨⟨by omega, he⟩, by omega⟩)
    ·have hge : s.length ≤ k := by simp at hge; omega
     have : k = s.length := by omega
     subst this
     have h7 : s.all codeB = true := by rw [he]; simp
     repeat (first | (refine ACode.st tys_ok rfl ?_; conv => whnf))
     rw [hcode, h7]
     exact .inr rfl
 ·have h1 : ¬ 1 ≤ s.length := by simp at h1; omega
  have : isCodeB s = false := by simp [codeB_eq, h1]
  conv => whnf
  repeat (first | (refine ACode.st tys_ok rfl ?_; conv => whnf))
  rw [this]
  first | exact .inl rfl | exact .inr rfl
end Go.Proofs.YtbedaolpfedacaaGreatDoor
