/- A part of the proof. -/
import Derived.Test.YtbedaolpfedacaaGreatDoorNb
import Derived.Test.YtbedaolpfedacaaGreatDoorPa
set_option linter.unusedVariables false
set_option linter.unusedSimpArgs false
namespace Go.Proofs.YtbedaolpfedacaaGreatDoor
open Go.Av Go.Av.Net
theorem _root_.Go.Av.Ctr.lits {P : Go.Program} {f : Nat} {args : List AV} {b : Bool} (h : Ctr P f args (fun r => r = .lit b ∨ r = .bool b)) : Ctr P f args (fun r => r = .bool b) :=
 ⟨h.good, fun C w vs h1 h2 => (h.out C w vs h1 h2).mono fun e w' hp => by
  obtain ⟨r, v, h3, h4, h5, h6⟩ := hp
  refine ⟨.bool b, v, h3, rfl, h5, ?_⟩
  rcases h4 with rfl | rfl <;> (unfold Rep at *; exact h6)⟩
theorem drop_eq {α : Type} {a b : List α} (hl : a.length = b.length) (k : Nat) (h : k < a.length) (hp : a.take k = b.take k) : (a = b ↔ a[k] = b[k] ∧ a.drop (k + 1) = b.drop (k + 1)) ∧ (a[k] = b[k] → a.take (k + 1) = b.take (k + 1)) := by
 have h' : k < b.length := by omega
 have e1 : a = a.take k ++ a[k] :: a.drop (k + 1) := by rw [← List.drop_eq_getElem_cons h, List.take_append_drop]
 have e2 : b = b.take k ++ b[k] :: b.drop (k + 1) := by rw [← List.drop_eq_getElem_cons h', List.take_append_drop]
 refine ⟨⟨fun e => by subst e; exact ⟨rfl, rfl⟩, fun ⟨q1, q2⟩ => by rw [e1, e2, hp, q1, q2]⟩, fun q => by rw [List.take_succ_eq_append_getElem h, List.take_succ_eq_append_getElem h', hp, q]⟩
theorem take_all {α : Type} {a b : List α} (hl : a.length = b.length) (hp : a.take a.length = b.take a.length) : a = b := by
 rw [List.take_length, hl, List.take_length] at hp; exact hp
set_option maxRecDepth 20000 in
theorem strings_spec (a b : List Bs) (ha : a.length ≤ 100000) (hb : b.length ≤ 100000) : Ctr Tryz.prog 60 [.sl 1 (strs a), .sl 1 (strs b)] (fun r => r = .bool (decide (a = b))) := by
 refine Ctr.lits ?_
 refine Ctr.of_body Tryz.func60 rfl tys_ok (by kernel_rfl) ?_
 conv => whnf
 repeat (first | (refine ACode.st tys_ok rfl ?_; conv => whnf))
 refine ⟨fun h => ?_, fun h => ?_⟩
 ·have h : ¬ a.length = b.length := by simp [strs] at h; omega
  repeat (first | (refine ACode.st tys_ok rfl ?_; conv => whnf))
  rw [decide_eq_false (show ¬ a = b from fun e => h (by rw [e]))]
  first | exact .inl rfl | exact .inr rfl
 ·have hl : a.length = b.length := by simp [strs] at h; omega
  repeat (first | (refine ACode.st tys_ok rfl ?_; conv => whnf))
  refine ACode.loopD (fun k : Nat => mk 26 [(0, .sl 1 (strs a)), (1, .sl 1 (strs b)), (5, .int .i64 k)]) (fun _ => []) (fun k => k ≤ a.length ∧ a.take k = b.take k) (fun k => a.length - k) (fun k hk => ⟨rfl, trivial⟩) ⟨0, ?_⟩ (fun _ => rfl) fun k hk => ?_
  ·conv => whnf
   repeat (refine And.intro ?_ ?_; (focus (first | rfl | (simp; done))); conv => whnf)
   simp
  ·obtain ⟨hk, hp⟩ := hk
   repeat (first | (refine ACode.st tys_ok rfl ?_; conv => whnf))
   refine ⟨fun h => ?_, fun h => ?_⟩
   ·have h : k < a.length := by simp [strs] at h; omega
    have h' : k < b.length := by omega
    obtain ⟨q1, q2⟩ := drop_eq hl k h hp
    repeat (first | (refine ACode.st tys_ok rfl ?_; conv => whnf))
    refine ACode.draw [] tys_ok (by kernel_rfl) (by kernel_rfl) ?_
    conv => whnf
    refine ⟨by omega, .str a[k], strs_get _ _ h, ?_⟩
    conv => whnf
    refine ⟨by omega, .str b[k], strs_get _ _ h', ?_⟩
    conv => whnf
    refine ⟨fun hc => ?_, fun hc => ?_⟩
    ·have hc : ¬ a[k] = b[k] := by simpa using hc
     conv => whnf
     repeat (first | (refine ACode.st tys_ok rfl ?_; conv => whnf))
     rw [decide_eq_false (show ¬ a = b from fun e => hc (q1.1 e).1)]
     first | exact .inl rfl | exact .inr rfl
    ·have hc : a[k] = b[k] := by simpa using hc
     conv => whnf
     repeat (first | (refine ACode.st tys_ok rfl ?_; conv => whnf))
     refine ⟨k + 1, ?_⟩
     conv => whnf
     repeat (refine And.intro ?_ ?_; (focus (first | rfl | (simp; done) | (rw [Wr64 _ (by omega) (by omega)]; omega; done))); conv => whnf)
     exact ⟨⟨by omega, q2 hc⟩, by omega⟩
   ·have h : k = a.length := by simp [strs] at h; omega
    subst h
    repeat (first | (refine ACode.st tys_ok rfl ?_; conv => whnf))
    rw [decide_eq_true (take_all hl hp)]
    first | exact .inl rfl | exact .inr rfl
def sameCalB (a b : Cal) : Bool := decide (a.zone = b.zone) && decide (a.week = b.week) && decide (a.hols = b.hols)
set_option maxRecDepth 20000 in
theorem sameCal_spec (a b : Cal) (h1 : a.week.length ≤ 100000) (h2 : b.week.length ≤ 100000) (h3 : a.hols.length ≤ 100000) (h4 : b.hols.length ≤ 100000) : Ctr Tryz.prog 61 [calA a, calA b] (fun r => r = .bool (sameCalB a b)) := by
 refine Ctr.lits ?_
 refine Ctr.of_body Tryz.func61 rfl tys_ok (by kernel_rfl) ?_
 conv => whnf
 repeat (first | (refine ACode.st tys_ok rfl ?_; conv => whnf))
 have hF : ¬ (a.zone = b.zone ∧ a.week = b.week ∧ a.hols = b.hols) → sameCalB a b = false := fun h => by
  rw [Bool.eq_false_iff]; intro hh; unfold sameCalB at hh; simp only [Bool.and_eq_true, decide_eq_true_eq] at hh; exact h ⟨hh.1.1, hh.1.2, hh.2⟩
 repeat' (first | (refine And.intro (fun _ => ?_) (fun _ => ?_) <;> conv => whnf) | (refine ACode.st tys_ok rfl ?_; conv => whnf))
 rotate_left
 rotate_left
 all_goals try (rw [hF (fun ⟨e1, e2, e3⟩ => by simp_all)]; first | exact .inl rfl | exact .inr rfl)
 rename_i x1 x2 x3
 have e1 : a.zone = b.zone := by simpa using x1
 have e2 : a.week.length = b.week.length := by simp at x2; omega
 have e3 : a.hols.length = b.hols.length := by simp at x3; omega
 refine ACode.loopD (fun k : Nat => mk 66 [(2, .ptr 0 0), (3, .ptr 1 0), (5, .int .i64 k)]) (fun _ => [.cells [.int .i64 a.zone, .sl 1 (a.week.map .bool), .sl 1 (a.hols.map (.int .i64))], .cells [.int .i64 b.zone, .sl 1 (b.week.map .bool), .sl 1 (b.hols.map (.int .i64))]]) (fun k => k ≤ a.week.length ∧ a.week.take k = b.week.take k) (fun k => a.week.length - k) (fun k hk => ⟨rfl, rfl, rfl, trivial⟩) ⟨0, ?_⟩ (fun _ => rfl) fun k hk => ?_
 ·conv => whnf
  repeat (refine And.intro ?_ ?_; (focus (first | rfl | (simp; done))); conv => whnf)
  simp
 ·obtain ⟨hk, hp⟩ := hk
  repeat (first | (refine ACode.st tys_ok rfl ?_; conv => whnf))
  refine ⟨fun h => ?_, fun h => ?_⟩
  ·have h : k < a.week.length := by simp at h; omega
   have h' : k < b.week.length := by omega
   obtain ⟨q1, q2⟩ := drop_eq e2 k h hp
   repeat (first | (refine ACode.st tys_ok rfl ?_; conv => whnf))
   refine ACode.draw [] tys_ok (by kernel_rfl) (by kernel_rfl) ?_
   conv => whnf
   refine ⟨by omega, .bool a.week[k], by simp [h], ?_⟩
   conv => whnf
   refine ⟨fun g1 => ?_, fun g1 => ?_⟩ <;> (conv => whnf)
   all_goals
    refine ⟨by omega, .bool b.week[k], by simp [h'], ?_⟩
    (conv => whnf)
    refine ⟨fun g2 => ?_, fun g2 => ?_⟩ <;> (conv => whnf)
   all_goals
    refine ⟨fun g3 => ?_, fun g3 => ?_⟩ <;> (conv => whnf)
   all_goals first
    | (exfalso; simp at g3; done)
    | (repeat (first | (refine ACode.st tys_ok rfl ?_; conv => whnf))
       rw [hF (fun e => by have := (q1.1 e.2.1).1; rw [g1, g2] at this; cases this)]
       first | exact .inl rfl | exact .inr rfl)
    | (repeat (first | (refine ACode.st tys_ok rfl ?_; conv => whnf))
       refine ⟨k + 1, ?_⟩
       conv => whnf
       repeat (refine And.intro ?_ ?_; (focus (first | rfl | (simp; done) | (rw [Wr64 _ (by omega) (by omega)]; omega; done))); conv => whnf)
       exact ⟨⟨by omega, q2 (by rw [g1, g2])⟩, by omega⟩)
  ·have h : k = a.week.length := by simp at h; omega
   subst h
   have e4 := take_all e2 hp
   repeat (first | (refine ACode.st tys_ok rfl ?_; conv => whnf))
   refine ACode.loopD (fun k : Nat => mk 66 [(2, .ptr 0 0), (3, .ptr 1 0), (6, .int .i64 k)]) (fun _ => [.cells [.int .i64 a.zone, .sl 1 (a.week.map .bool), .sl 1 (a.hols.map (.int .i64))], .cells [.int .i64 b.zone, .sl 1 (b.week.map .bool), .sl 1 (b.hols.map (.int .i64))]]) (fun k => k ≤ a.hols.length ∧ a.hols.take k = b.hols.take k) (fun k => a.hols.length - k) (fun k hk => ⟨rfl, rfl, rfl, trivial⟩) ⟨0, ?_⟩ (fun _ => rfl) fun k hk => ?_
   ·conv => whnf
    repeat (refine And.intro ?_ ?_; (focus (first | rfl | (simp; done))); conv => whnf)
    simp
   ·obtain ⟨hk, hp⟩ := hk
    repeat (first | (refine ACode.st tys_ok rfl ?_; conv => whnf))
    refine ⟨fun h => ?_, fun h => ?_⟩
    ·have h : k < a.hols.length := by simp at h; omega
     have h' : k < b.hols.length := by omega
     obtain ⟨q1, q2⟩ := drop_eq e3 k h hp
     repeat (first | (refine ACode.st tys_ok rfl ?_; conv => whnf))
     refine ACode.draw [] tys_ok (by kernel_rfl) (by kernel_rfl) ?_
     conv => whnf
     refine ⟨by omega, .int .i64 a.hols[k], by simp [h], ?_⟩
     conv => whnf
     refine ⟨by omega, .int .i64 b.hols[k], by simp [h'], ?_⟩
     conv => whnf
     refine ⟨fun hc => ?_, fun hc => ?_⟩
     ·have hc : ¬ a.hols[k] = b.hols[k] := by simpa using hc
      conv => whnf
      repeat (first | (refine ACode.st tys_ok rfl ?_; conv => whnf))
      rw [hF (fun e => hc (q1.1 e.2.2).1)]
      first | exact .inl rfl | exact .inr rfl
     ·have hc : a.hols[k] = b.hols[k] := by simpa using hc
      conv => whnf
      repeat (first | (refine ACode.st tys_ok rfl ?_; conv => whnf))
      refine ⟨k + 1, ?_⟩
      conv => whnf
      repeat (refine And.intro ?_ ?_; (focus (first | rfl | (simp; done) | (rw [Wr64 _ (by omega) (by omega)]; omega; done))); conv => whnf)
      exact ⟨⟨by omega, q2 hc⟩, by omega⟩
    ·have h : k = a.hols.length := by simp at h; omega
     subst h
     have e5 := take_all e3 hp
     repeat (first | (refine ACode.st tys_ok rfl ?_; conv => whnf))
     rw [show sameCalB a b = true by unfold sameCalB; simp [e1, e4, e5]]
     first | exact .inl rfl | exact .inr rfl
end Go.Proofs.YtbedaolpfedacaaGreatDoor
namespace Go.Proofs.YtbedaolpfedacaaGreatDoor
open Go.Av Go.Av.Net
def sameOffB (a b : Off) : Bool := decide (a.name = b.name) && decide (a.oper = b.oper) && decide (a.cal = b.cal) && decide (a.pockets = b.pockets) && decide (a.passes = b.passes) && decide (a.minutes = b.minutes) && decide (a.codes = b.codes)
set_option maxRecDepth 20000 in
theorem sameOff_spec (a b : Off) (h1 : a.codes.length ≤ 100000) (h2 : b.codes.length ≤ 100000) : Ctr Tryz.prog 62 [offA a, offA b] (fun r => r = .bool (sameOffB a b)) := by
 refine Ctr.lits ?_
 refine Ctr.of_body Tryz.func62 rfl tys_ok (by kernel_rfl) ?_
 conv => whnf
 repeat (first | (refine ACode.st tys_ok rfl ?_; conv => whnf))
 repeat' (first | (refine And.intro (fun _ => ?_) (fun _ => ?_) <;> conv => whnf) | (refine ACall.of_spec (strings_spec a.codes b.codes h1 h2) rfl fun r hr => ?_; subst hr; conv => whnf) | (refine ACode.st tys_ok rfl ?_; conv => whnf))
 all_goals (right; congr 1; unfold sameOffB; simp_all [Int.natCast_inj])
def allZ {α : Type} (f : α → α → Bool) : List α → List α → Bool
 | [], [] => true
 | x :: xs, y :: ys => f x y && allZ f xs ys
 | _, _ => false
theorem allZ_iff {α : Type} {f : α → α → Bool} : ∀ {a b : List α}, allZ f a b = true ↔ a.length = b.length ∧ ∀ (k : Nat) (h : k < a.length) (h' : k < b.length), f a[k] b[k] = true
 | [], [] => by simp [allZ]
 | [], _ :: _ => by simp [allZ]
 | _ :: _, [] => by simp [allZ]
 | x :: xs, y :: ys => by
  unfold allZ
  rw [Bool.and_eq_true, allZ_iff]
  constructor
  ·rintro ⟨h1, h2, h3⟩
   refine ⟨by simp [h2], fun k h h' => ?_⟩
   cases k with
   | zero => exact h1
   | succ k => exact h3 k (by simpa using h) (by simpa using h')
  ·rintro ⟨h1, h2⟩
   exact ⟨h2 0 (by simp) (by simp), by simpa using h1, fun k h h' => h2 (k + 1) (by simpa using h) (by simpa using h')⟩
def sameLinB (a b : Lin) : Bool := decide (a.name = b.name) && decide (a.from_ = b.from_) && decide (a.to_ = b.to_) && decide (a.at_ = b.at_) && decide (a.travel = b.travel) && decide (a.load = b.load)
def sameClsB (a b : Cls) : Bool := decide (a.name = b.name) && decide (a.cut = b.cut) && decide (a.deliver = b.deliver)
def sameNwB (a b : Nw) : Bool := allZ sameCalB a.cals b.cals && decide (a.names = b.names) && allZ (fun x y => decide (x = y)) a.opers b.opers && allZ sameOffB a.offs b.offs && allZ sameLinB a.lins b.lins && allZ sameClsB a.clss b.clss
structure Sml (n : Nw) : Prop where
 cals : n.cals.length ≤ 100000
 names : n.names.length ≤ 100000
 opers : n.opers.length ≤ 100000
 offs : n.offs.length ≤ 100000
 lins : n.lins.length ≤ 100000
 clss : n.clss.length ≤ 100000
 week : ∀ c ∈ n.cals, c.week.length ≤ 100000 ∧ c.hols.length ≤ 100000
 codes : ∀ o ∈ n.offs, o.codes.length ≤ 100000
structure SameNw (a b : Nw) : Prop where
 e1 : a.names = b.names
 e2 : allZ sameCalB a.cals b.cals = true
 e3 : allZ (fun x y => decide (x = y)) a.opers b.opers = true
 e4 : allZ sameOffB a.offs b.offs = true
 e5 : allZ sameLinB a.lins b.lins = true
 e6 : allZ sameClsB a.clss b.clss = true
theorem sameNw_iff {a b : Nw} : sameNwB a b = true ↔ SameNw a b := by
 unfold sameNwB
 simp only [Bool.and_eq_true, decide_eq_true_eq]
 exact ⟨fun ⟨⟨⟨⟨⟨h1, h2⟩, h3⟩, h4⟩, h5⟩, h6⟩ => ⟨h2, h1, h3, h4, h5, h6⟩, fun h => ⟨⟨⟨⟨⟨h.e2, h.e1⟩, h.e3⟩, h.e4⟩, h.e5⟩, h.e6⟩⟩
set_option maxRecDepth 20000 in
set_option maxHeartbeats 4000000 in
theorem same_spec (a b : Nw) (ha : Sml a) (hb : Sml b) : Ctr Tryz.prog 17 [netA a, netA b] (fun r => r = .bool (sameNwB a b)) := by
 refine Ctr.lits ?_
 refine Ctr.of_body Tryz.func17 rfl tys_ok (by kernel_rfl) ?_
 conv => whnf
 repeat (first | (refine ACode.st tys_ok rfl ?_; conv => whnf))
 have hF : ¬ SameNw a b → sameNwB a b = false := fun h => by
  rw [Bool.eq_false_iff]; intro hh; exact h (sameNw_iff.1 hh)
 have hL : ¬ (a.cals.length = b.cals.length ∧ a.names = b.names ∧ a.opers.length = b.opers.length ∧ a.offs.length = b.offs.length ∧ a.lins.length = b.lins.length ∧ a.clss.length = b.clss.length) → sameNwB a b = false := fun h => hF fun e => h ⟨(allZ_iff.1 e.e2).1, e.e1, (allZ_iff.1 e.e3).1, (allZ_iff.1 e.e4).1, (allZ_iff.1 e.e5).1, (allZ_iff.1 e.e6).1⟩
 repeat' (first | (refine And.intro (fun _ => ?_) (fun _ => ?_) <;> conv => whnf) | (refine ACall.of_spec (strings_spec a.names b.names ha.names hb.names) rfl fun r hr => ?_; subst hr; conv => whnf) | (refine ACode.st tys_ok rfl ?_; conv => whnf))
 rotate_left
 rotate_left
 all_goals try (rw [hL (fun ⟨q1, q2, q3, q4, q5, q6⟩ => by simp_all)]; first | exact .inl rfl | exact .inr rfl)
 rename_i x1 x2 x3 x4 x5 x6
 obtain ⟨m1, m2, m3, m4, m5, m6, m7, m8⟩ := ha
 have l1 : a.cals.length = b.cals.length := by simp at x1; omega
 have enm : a.names = b.names := by simpa using x2
 have l3 : a.opers.length = b.opers.length := by simp at x3; omega
 have l4 : a.offs.length = b.offs.length := by simp at x4; omega
 have l5 : a.lins.length = b.lins.length := by simp at x5; omega
 have l6 : a.clss.length = b.clss.length := by simp at x6; omega
 refine ACode.loopD (fun k : Nat => mk 153 [(2, .ptr 0 0), (3, .ptr 1 0), (5, .int .i64 k)]) (fun _ => [.cells [.sl 3 (a.cals.map calA), .sl 1 (strs a.names), .sl 1 (a.opers.map operA), .sl 7 (a.offs.map offA), .sl 6 (a.lins.map linA), .sl 3 (a.clss.map clsA)], .cells [.sl 3 (b.cals.map calA), .sl 1 (strs b.names), .sl 1 (b.opers.map operA), .sl 7 (b.offs.map offA), .sl 6 (b.lins.map linA), .sl 3 (b.clss.map clsA)]]) (fun k => k ≤ a.cals.length ∧ ∀ (j : Nat) (h : j < a.cals.length) (h' : j < b.cals.length), j < k → sameCalB a.cals[j] b.cals[j] = true) (fun k => a.cals.length - k) (fun k hk => ⟨rfl, rfl, rfl, trivial⟩) ⟨0, ?_⟩ (fun _ => rfl) fun k hk => ?_
 ·conv => whnf
  repeat (refine And.intro ?_ ?_; (focus (first | rfl | (simp; done))); conv => whnf)
  first | exact ⟨Nat.zero_le _, fun j h h' q => absurd q (by omega)⟩ | exact fun j h h' q => absurd q (by omega)
 ·obtain ⟨hk, hp⟩ := hk
  repeat (first | (refine ACode.st tys_ok rfl ?_; conv => whnf))
  refine ⟨fun h => ?_, fun h => ?_⟩
  ·have h : k < a.cals.length := by simp at h; omega
   have h' : k < b.cals.length := by omega
   have hbad : ¬ sameCalB a.cals[k] b.cals[k] = true → sameNwB a b = false := fun hn => hF fun e => hn ((allZ_iff.1 e.e2).2 k h h')
   have hgood : sameCalB a.cals[k] b.cals[k] = true → ∀ (j : Nat) (h : j < a.cals.length) (h' : j < b.cals.length), j < k + 1 → sameCalB a.cals[j] b.cals[j] = true := fun hg j h h' q => by
    by_cases e : j = k
    ·subst e; exact hg
    ·exact hp j h h' (by omega)
   repeat (first | (refine ACode.st tys_ok rfl ?_; conv => whnf))
   refine ACode.draw [] tys_ok (by kernel_rfl) (by kernel_rfl) ?_
   conv => whnf
   refine ⟨by omega, calA a.cals[k], by simp [h], ?_⟩
   conv => whnf
   refine ⟨by omega, calA b.cals[k], by simp [h'], ?_⟩
   conv => whnf
   refine ⟨_, ⟨sameCal_spec a.cals[k] b.cals[k] (m7 _ (List.getElem_mem h)).1 (hb.week _ (List.getElem_mem h')).1 (m7 _ (List.getElem_mem h)).2 (hb.week _ (List.getElem_mem h')).2, rfl⟩, ?_⟩
   conv => whnf
   refine ⟨fun hg => ?_, fun hg => ?_⟩ <;> (conv => whnf)
   ·repeat (first | (refine ACode.st tys_ok rfl ?_; conv => whnf))
    refine ⟨k + 1, ?_⟩
    conv => whnf
    repeat (refine And.intro ?_ ?_; (focus (first | rfl | (simp; done) | (rw [Wr64 _ (by omega) (by omega)]; omega; done))); conv => whnf)
    exact ⟨⟨by omega, hgood hg⟩, by omega⟩
   ·repeat (first | (refine ACode.st tys_ok rfl ?_; conv => whnf))
    rw [hbad (by rw [hg]; simp)]
    first | exact .inl rfl | exact .inr rfl
  ·have h : k = a.cals.length := by simp at h; omega
   subst h
   have z0 : allZ sameCalB a.cals b.cals = true := allZ_iff.2 ⟨by omega, fun j h h' => hp j h h' h⟩
   repeat (first | (refine ACode.st tys_ok rfl ?_; conv => whnf))
   refine ACode.loopD (fun k : Nat => mk 153 [(2, .ptr 0 0), (3, .ptr 1 0), (6, .int .i64 k)]) (fun _ => [.cells [.sl 3 (a.cals.map calA), .sl 1 (strs a.names), .sl 1 (a.opers.map operA), .sl 7 (a.offs.map offA), .sl 6 (a.lins.map linA), .sl 3 (a.clss.map clsA)], .cells [.sl 3 (b.cals.map calA), .sl 1 (strs b.names), .sl 1 (b.opers.map operA), .sl 7 (b.offs.map offA), .sl 6 (b.lins.map linA), .sl 3 (b.clss.map clsA)]]) (fun k => k ≤ a.opers.length ∧ ∀ (j : Nat) (h : j < a.opers.length) (h' : j < b.opers.length), j < k → (fun x y => decide (x = y)) a.opers[j] b.opers[j] = true) (fun k => a.opers.length - k) (fun k hk => ⟨rfl, rfl, rfl, trivial⟩) ⟨0, ?_⟩ (fun _ => rfl) fun k hk => ?_
   ·conv => whnf
    repeat (refine And.intro ?_ ?_; (focus (first | rfl | (simp; done))); conv => whnf)
    first | exact ⟨Nat.zero_le _, fun j h h' q => absurd q (by omega)⟩ | exact fun j h h' q => absurd q (by omega)
   ·obtain ⟨hk, hp⟩ := hk
    repeat (first | (refine ACode.st tys_ok rfl ?_; conv => whnf))
    refine ⟨fun h => ?_, fun h => ?_⟩
    ·have h : k < a.opers.length := by simp at h; omega
     have h' : k < b.opers.length := by omega
     have hbad : ¬ (fun x y => decide (x = y)) a.opers[k] b.opers[k] = true → sameNwB a b = false := fun hn => hF fun e => hn ((allZ_iff.1 e.e3).2 k h h')
     have hgood : (fun x y => decide (x = y)) a.opers[k] b.opers[k] = true → ∀ (j : Nat) (h : j < a.opers.length) (h' : j < b.opers.length), j < k + 1 → (fun x y => decide (x = y)) a.opers[j] b.opers[j] = true := fun hg j h h' q => by
      by_cases e : j = k
      ·subst e; exact hg
      ·exact hp j h h' (by omega)
     repeat (first | (refine ACode.st tys_ok rfl ?_; conv => whnf))
     refine ACode.draw [] tys_ok (by kernel_rfl) (by kernel_rfl) ?_
     conv => whnf
     refine ⟨by omega, operA a.opers[k], by simp [h], ?_⟩
     conv => whnf
     refine ⟨by omega, operA b.opers[k], by simp [h'], ?_⟩
     conv => whnf
     refine ⟨fun hg => ?_, fun hg => ?_⟩ <;> (conv => whnf)
     ·repeat (first | (refine ACode.st tys_ok rfl ?_; conv => whnf))
      rw [hbad (fun q => by simp [Int.natCast_inj] at q hg; simp_all)]
      first | exact .inl rfl | exact .inr rfl
     ·repeat (first | (refine ACode.st tys_ok rfl ?_; conv => whnf))
      refine ⟨k + 1, ?_⟩
      conv => whnf
      repeat (refine And.intro ?_ ?_; (focus (first | rfl | (simp; done) | (rw [Wr64 _ (by omega) (by omega)]; omega; done))); conv => whnf)
      exact ⟨⟨by omega, hgood (by simp [Int.natCast_inj] at hg ⊢; simp_all)⟩, by omega⟩
    ·have h : k = a.opers.length := by simp at h; omega
     subst h
     have z1 : allZ (fun x y => decide (x = y)) a.opers b.opers = true := allZ_iff.2 ⟨by omega, fun j h h' => hp j h h' h⟩
     repeat (first | (refine ACode.st tys_ok rfl ?_; conv => whnf))
     refine ACode.loopD (fun k : Nat => mk 153 [(2, .ptr 0 0), (3, .ptr 1 0), (7, .int .i64 k)]) (fun _ => [.cells [.sl 3 (a.cals.map calA), .sl 1 (strs a.names), .sl 1 (a.opers.map operA), .sl 7 (a.offs.map offA), .sl 6 (a.lins.map linA), .sl 3 (a.clss.map clsA)], .cells [.sl 3 (b.cals.map calA), .sl 1 (strs b.names), .sl 1 (b.opers.map operA), .sl 7 (b.offs.map offA), .sl 6 (b.lins.map linA), .sl 3 (b.clss.map clsA)]]) (fun k => k ≤ a.offs.length ∧ ∀ (j : Nat) (h : j < a.offs.length) (h' : j < b.offs.length), j < k → sameOffB a.offs[j] b.offs[j] = true) (fun k => a.offs.length - k) (fun k hk => ⟨rfl, rfl, rfl, trivial⟩) ⟨0, ?_⟩ (fun _ => rfl) fun k hk => ?_
     ·conv => whnf
      repeat (refine And.intro ?_ ?_; (focus (first | rfl | (simp; done))); conv => whnf)
      first | exact ⟨Nat.zero_le _, fun j h h' q => absurd q (by omega)⟩ | exact fun j h h' q => absurd q (by omega)
     ·obtain ⟨hk, hp⟩ := hk
      repeat (first | (refine ACode.st tys_ok rfl ?_; conv => whnf))
      refine ⟨fun h => ?_, fun h => ?_⟩
      ·have h : k < a.offs.length := by simp at h; omega
       have h' : k < b.offs.length := by omega
       have hbad : ¬ sameOffB a.offs[k] b.offs[k] = true → sameNwB a b = false := fun hn => hF fun e => hn ((allZ_iff.1 e.e4).2 k h h')
       have hgood : sameOffB a.offs[k] b.offs[k] = true → ∀ (j : Nat) (h : j < a.offs.length) (h' : j < b.offs.length), j < k + 1 → sameOffB a.offs[j] b.offs[j] = true := fun hg j h h' q => by
        by_cases e : j = k
        ·subst e; exact hg
        ·exact hp j h h' (by omega)
       repeat (first | (refine ACode.st tys_ok rfl ?_; conv => whnf))
       refine ACode.draw [] tys_ok (by kernel_rfl) (by kernel_rfl) ?_
       conv => whnf
       refine ⟨by omega, offA a.offs[k], by simp [h], ?_⟩
       conv => whnf
       refine ⟨by omega, offA b.offs[k], by simp [h'], ?_⟩
       conv => whnf
       refine ⟨_, ⟨sameOff_spec a.offs[k] b.offs[k] (m8 _ (List.getElem_mem h)) (hb.codes _ (List.getElem_mem h')), rfl⟩, ?_⟩
       conv => whnf
       refine ⟨fun hg => ?_, fun hg => ?_⟩ <;> (conv => whnf)
       ·repeat (first | (refine ACode.st tys_ok rfl ?_; conv => whnf))
        refine ⟨k + 1, ?_⟩
        conv => whnf
        repeat (refine And.intro ?_ ?_; (focus (first | rfl | (simp; done) | (rw [Wr64 _ (by omega) (by omega)]; omega; done))); conv => whnf)
        exact ⟨⟨by omega, hgood hg⟩, by omega⟩
       ·repeat (first | (refine ACode.st tys_ok rfl ?_; conv => whnf))
        rw [hbad (by rw [hg]; simp)]
        first | exact .inl rfl | exact .inr rfl
      ·have h : k = a.offs.length := by simp at h; omega
       subst h
       have z2 : allZ sameOffB a.offs b.offs = true := allZ_iff.2 ⟨by omega, fun j h h' => hp j h h' h⟩
       repeat (first | (refine ACode.st tys_ok rfl ?_; conv => whnf))
       refine ACode.loopD (fun k : Nat => mk 153 [(2, .ptr 0 0), (3, .ptr 1 0), (8, .int .i64 k)]) (fun _ => [.cells [.sl 3 (a.cals.map calA), .sl 1 (strs a.names), .sl 1 (a.opers.map operA), .sl 7 (a.offs.map offA), .sl 6 (a.lins.map linA), .sl 3 (a.clss.map clsA)], .cells [.sl 3 (b.cals.map calA), .sl 1 (strs b.names), .sl 1 (b.opers.map operA), .sl 7 (b.offs.map offA), .sl 6 (b.lins.map linA), .sl 3 (b.clss.map clsA)]]) (fun k => k ≤ a.lins.length ∧ ∀ (j : Nat) (h : j < a.lins.length) (h' : j < b.lins.length), j < k → sameLinB a.lins[j] b.lins[j] = true) (fun k => a.lins.length - k) (fun k hk => ⟨rfl, rfl, rfl, trivial⟩) ⟨0, ?_⟩ (fun _ => rfl) fun k hk => ?_
       ·conv => whnf
        repeat (refine And.intro ?_ ?_; (focus (first | rfl | (simp; done))); conv => whnf)
        first | exact ⟨Nat.zero_le _, fun j h h' q => absurd q (by omega)⟩ | exact fun j h h' q => absurd q (by omega)
       ·obtain ⟨hk, hp⟩ := hk
        repeat (first | (refine ACode.st tys_ok rfl ?_; conv => whnf))
        refine ⟨fun h => ?_, fun h => ?_⟩
        ·have h : k < a.lins.length := by simp at h; omega
         have h' : k < b.lins.length := by omega
         have hbad : ¬ sameLinB a.lins[k] b.lins[k] = true → sameNwB a b = false := fun hn => hF fun e => hn ((allZ_iff.1 e.e5).2 k h h')
         have hgood : sameLinB a.lins[k] b.lins[k] = true → ∀ (j : Nat) (h : j < a.lins.length) (h' : j < b.lins.length), j < k + 1 → sameLinB a.lins[j] b.lins[j] = true := fun hg j h h' q => by
          by_cases e : j = k
          ·subst e; exact hg
          ·exact hp j h h' (by omega)
         repeat (first | (refine ACode.st tys_ok rfl ?_; conv => whnf))
         refine ACode.draw [] tys_ok (by kernel_rfl) (by kernel_rfl) ?_
         conv => whnf
         refine ⟨by omega, linA a.lins[k], by simp [h], ?_⟩
         conv => whnf
         refine ⟨by omega, linA b.lins[k], by simp [h'], ?_⟩
         conv => whnf
         refine ⟨fun hg => ?_, fun hg => ?_⟩ <;> (conv => whnf)
         ·repeat (first | (refine ACode.st tys_ok rfl ?_; conv => whnf))
          rw [hbad (fun q => by unfold sameLinB at q; simp [Int.natCast_inj] at q hg; simp_all)]
          first | exact .inl rfl | exact .inr rfl
         ·repeat (first | (refine ACode.st tys_ok rfl ?_; conv => whnf))
          refine ⟨k + 1, ?_⟩
          conv => whnf
          repeat (refine And.intro ?_ ?_; (focus (first | rfl | (simp; done) | (rw [Wr64 _ (by omega) (by omega)]; omega; done))); conv => whnf)
          exact ⟨⟨by omega, hgood (by unfold sameLinB; simp [Int.natCast_inj] at hg ⊢; simp_all)⟩, by omega⟩
        ·have h : k = a.lins.length := by simp at h; omega
         subst h
         have z3 : allZ sameLinB a.lins b.lins = true := allZ_iff.2 ⟨by omega, fun j h h' => hp j h h' h⟩
         repeat (first | (refine ACode.st tys_ok rfl ?_; conv => whnf))
         refine ACode.loopD (fun k : Nat => mk 153 [(2, .ptr 0 0), (3, .ptr 1 0), (9, .int .i64 k)]) (fun _ => [.cells [.sl 3 (a.cals.map calA), .sl 1 (strs a.names), .sl 1 (a.opers.map operA), .sl 7 (a.offs.map offA), .sl 6 (a.lins.map linA), .sl 3 (a.clss.map clsA)], .cells [.sl 3 (b.cals.map calA), .sl 1 (strs b.names), .sl 1 (b.opers.map operA), .sl 7 (b.offs.map offA), .sl 6 (b.lins.map linA), .sl 3 (b.clss.map clsA)]]) (fun k => k ≤ a.clss.length ∧ ∀ (j : Nat) (h : j < a.clss.length) (h' : j < b.clss.length), j < k → sameClsB a.clss[j] b.clss[j] = true) (fun k => a.clss.length - k) (fun k hk => ⟨rfl, rfl, rfl, trivial⟩) ⟨0, ?_⟩ (fun _ => rfl) fun k hk => ?_
         ·conv => whnf
          repeat (refine And.intro ?_ ?_; (focus (first | rfl | (simp; done))); conv => whnf)
          first | exact ⟨Nat.zero_le _, fun j h h' q => absurd q (by omega)⟩ | exact fun j h h' q => absurd q (by omega)
         ·obtain ⟨hk, hp⟩ := hk
          repeat (first | (refine ACode.st tys_ok rfl ?_; conv => whnf))
          refine ⟨fun h => ?_, fun h => ?_⟩
          ·have h : k < a.clss.length := by simp at h; omega
           have h' : k < b.clss.length := by omega
           have hbad : ¬ sameClsB a.clss[k] b.clss[k] = true → sameNwB a b = false := fun hn => hF fun e => hn ((allZ_iff.1 e.e6).2 k h h')
           have hgood : sameClsB a.clss[k] b.clss[k] = true → ∀ (j : Nat) (h : j < a.clss.length) (h' : j < b.clss.length), j < k + 1 → sameClsB a.clss[j] b.clss[j] = true := fun hg j h h' q => by
            by_cases e : j = k
            ·subst e; exact hg
            ·exact hp j h h' (by omega)
           repeat (first | (refine ACode.st tys_ok rfl ?_; conv => whnf))
           refine ACode.draw [] tys_ok (by kernel_rfl) (by kernel_rfl) ?_
           conv => whnf
           refine ⟨by omega, clsA a.clss[k], by simp [h], ?_⟩
           conv => whnf
           refine ⟨by omega, clsA b.clss[k], by simp [h'], ?_⟩
           conv => whnf
           refine ⟨fun hg => ?_, fun hg => ?_⟩ <;> (conv => whnf)
           ·repeat (first | (refine ACode.st tys_ok rfl ?_; conv => whnf))
            rw [hbad (fun q => by unfold sameClsB at q; simp [Int.natCast_inj] at q hg; simp_all)]
            first | exact .inl rfl | exact .inr rfl
           ·repeat (first | (refine ACode.st tys_ok rfl ?_; conv => whnf))
            refine ⟨k + 1, ?_⟩
            conv => whnf
            repeat (refine And.intro ?_ ?_; (focus (first | rfl | (simp; done) | (rw [Wr64 _ (by omega) (by omega)]; omega; done))); conv => whnf)
            exact ⟨⟨by omega, hgood (by unfold sameClsB; simp [Int.natCast_inj] at hg ⊢; simp_all)⟩, by omega⟩
          ·have h : k = a.clss.length := by simp at h; omega
           subst h
           have z4 : allZ sameClsB a.clss b.clss = true := allZ_iff.2 ⟨by omega, fun j h h' => hp j h h' h⟩
           repeat (first | (refine ACode.st tys_ok rfl ?_; conv => whnf))
           rw [show sameNwB a b = true by unfold sameNwB; simp [z0, z1, z2, z3, z4, enm]]
           first | exact .inl rfl | exact .inr rfl
end Go.Proofs.YtbedaolpfedacaaGreatDoor
namespace Go.Proofs.YtbedaolpfedacaaGreatDoor
open Go.Av Go.Av.Net Pl
theorem closed_strs (l : List Bs) : ∀ e ∈ strs l, closed e = true := by
 intro e he; obtain ⟨s, _, rfl⟩ := List.mem_map.1 he; rfl
def inB (l : List Bs) (s : Bs) : Bool := l.any (fun x => decide (x = s))
theorem inB_step {l : List Bs} {s : Bs} {k : Nat} (h : k < l.length) : inB (l.drop k) s = (decide (l[k] = s) || inB (l.drop (k + 1)) s) := any_step _ l k h
def symsR : List Bs := [[123], [125], [40], [41], [91], [93], [44], [59], [58], [61], [45, 62], [46], [45]]
theorem symbols_spec : Ctr Tryz.prog 138 [] (fun r => r = .sl 1 (strs symsR)) := by
 refine Ctr.of_body Tryz.func138 rfl tys_ok (by kernel_rfl) ?_
 conv => whnf
 repeat (first | (refine ACode.st tys_ok rfl ?_; conv => whnf))
 exact ⟨⟨rfl, closed_strs symsR⟩, rfl⟩
set_option maxRecDepth 20000 in
theorem rsymbol_spec (s : Bs) : Ctr Tryz.prog 121 [.str s] (fun r => r = .bool (inB symsR s)) := by
 refine Ctr.lits ?_
 refine Ctr.of_body Tryz.func121 rfl tys_ok (by kernel_rfl) ?_
 conv => whnf
 repeat (first | (refine ACode.st tys_ok rfl ?_; conv => whnf))
 refine ACall.of_spec (symbols_spec) rfl fun r hr => ?_
 subst hr
 conv => whnf
 repeat (first | (refine ACode.st tys_ok rfl ?_; conv => whnf))
 refine ACode.loopD (fun k : Nat => mk 18 [(0, .str s), (3, .sl 1 (strs symsR)), (4, .int .i64 k)]) (fun _ => []) (fun k => k ≤ 13 ∧ inB symsR s = inB (symsR.drop k) s) (fun k => 13 - k) (fun k hk => ⟨rfl, trivial⟩) ⟨0, ?_⟩ (fun _ => rfl) fun k hk => ?_
 ·conv => whnf
  repeat (refine And.intro ?_ ?_; (focus (first | rfl | (simp; done))); conv => whnf)
  rfl
 ·obtain ⟨hk, he⟩ := hk
  repeat (first | (refine ACode.st tys_ok rfl ?_; conv => whnf))
  refine ⟨fun hlt => ?_, fun hge => ?_⟩
  ·have hlt : k < 13 := by simp [strs, symsR] at hlt; omega
   have hlt' : k < symsR.length := hlt
   rw [inB_step hlt'] at he
   repeat (first | (refine ACode.st tys_ok rfl ?_; conv => whnf))
   refine ⟨by omega, .str symsR[k], strs_get _ _ hlt', ?_⟩
   conv => whnf
   repeat (first | (refine ACode.st tys_ok rfl ?_; conv => whnf))
   refine ⟨fun ht => ?_, fun hf => ?_⟩
   ·conv => whnf
    repeat (first | (refine ACode.st tys_ok rfl ?_; conv => whnf))
    have ht : symsR[k] = s := by simpa using ht
    rw [decide_eq_true ht, Bool.true_or] at he
    rw [he]
    first | exact .inl rfl | exact .inr rfl
   ·conv => whnf
    repeat (first | (refine ACode.st tys_ok rfl ?_; conv => whnf))
    have hf : ¬ symsR[k] = s := by simpa using hf
    rw [decide_eq_false hf, Bool.false_or] at he
    refine ⟨k + 1, ?_⟩
    conv => whnf
    repeat (refine And.intro ?_ ?_; (focus (first | rfl | (simp; done) | (rw [Wr64 _ (by omega) (by omega)]; omega; done))); conv => whnf)
    exact ⟨⟨by omega, he⟩, by omega⟩
  ·have hge : 13 ≤ k := by simp [strs, symsR] at hge; omega
   have : k = 13 := by omega
   subst this
   repeat (first | (refine ACode.st tys_ok rfl ?_; conv => whnf))
   have h5 : inB symsR s = false := by rw [he]; rfl
   rw [h5]
   first | exact .inl rfl | exact .inr rfl
theorem rDigit_spec (b : UInt8) : Ctr Tryz.prog 70 [.int .u8 b.toNat] (fun r => r = .bool (digB b)) := by
 refine Ctr.lits ?_
 refine Ctr.of_body Tryz.func70 rfl tys_ok (by kernel_rfl) ?_
 conv => whnf
 repeat (first | (refine ACode.st tys_ok rfl ?_; conv => whnf))
 repeat' (first | (refine And.intro (fun _ => ?_) (fun _ => ?_) <;> conv => whnf) | (refine ACode.st tys_ok rfl ?_; conv => whnf))
 all_goals first | (refine .inr (congrArg AV.bool ?_); rw [Bool.eq_iff_iff]; (try simp_all [digB]); (try omega); done) | (refine .inl (congrArg AV.lit ?_); rw [Bool.eq_iff_iff]; (try simp_all [digB]); (try omega); done)
set_option maxRecDepth 10000 in
theorem rWord_spec (b : UInt8) : Ctr Tryz.prog 105 [.int .u8 b.toNat] (fun r => r = .bool (wordB b)) := by
 refine Ctr.lits ?_
 refine Ctr.of_body Tryz.func105 rfl tys_ok (by kernel_rfl) ?_
 conv => whnf
 repeat (first | (refine ACode.st tys_ok rfl ?_; conv => whnf))
 repeat' (first | (refine And.intro (fun _ => ?_) (fun _ => ?_) <;> conv => whnf) | (refine ACall.of_spec (rDigit_spec b) rfl fun r hr => ?_; subst hr; conv => whnf) | (refine ACode.st tys_ok rfl ?_; conv => whnf))
 all_goals (cases hd : digB b <;> first | (refine .inr (congrArg AV.bool ?_); rw [Bool.eq_iff_iff]; (try simp_all [wordB]); (try omega); done) | (refine .inl (congrArg AV.lit ?_); rw [Bool.eq_iff_iff]; (try simp_all [wordB]); (try omega); done) | (exfalso; simp_all; done))
end Go.Proofs.YtbedaolpfedacaaGreatDoor
namespace Go.Proofs.YtbedaolpfedacaaGreatDoor
open Go.Av Go.Av.Net Pl
theorem parse_sml {s : Bs} {n : Nw} (h : parseP s = .ok n) : Sml n ∧ szN n ≤ 3000 := by
 have hp := parse_post s
 rw [h] at hp
 unfold parseP at h
 cases hl : lexP s with
 | err e p => rw [hl] at h; cases h
 | ok l =>
  rw [hl] at h
  simp only at h
  have h3 := (lexP_iff.1 hl).2.1
  have hk : (kts l).length = l.length := by simp [kts]
  cases hq : netP (kts l) with
  | fail e i => rw [hq] at h; cases h
  | ok m i =>
   rw [hq] at h
   cases h
   obtain ⟨s1, s2⟩ := net_small hq
   have h0 := hp.1.names.1
   unfold szN at s1 ⊢
   exact ⟨⟨by omega, by omega, by omega, by omega, by omega, by omega, fun c hc => ⟨by rw [(hp.1.cals c hc).week]; omega, by have := s2.hols c hc; omega⟩, fun o ho => by have := s2.codes o ho; omega⟩, by omega⟩
end Go.Proofs.YtbedaolpfedacaaGreatDoor
namespace Go.Proofs.YtbedaolpfedacaaGreatDoor
open Go.Av Go.Av.Net Pl
theorem symsR_eq (s : Bs) : inB symsR s = symB s := rfl
theorem inner_step (s : Bs) (k : Nat) (h : k < s.length - 1) : ((s.take (s.length - 1)).drop k).all inner = (inner (s.getD k 0) && ((s.take (s.length - 1)).drop (k + 1)).all inner) := by
 have hk : k < (s.take (s.length - 1)).length := by simp; omega
 rw [all_step _ _ k hk]
 congr 2
 simp [List.getD, show k < s.length by omega]
set_option maxRecDepth 20000 in
theorem quoted_spec (s : Bs) (hs : s.length ≤ 8000) : Ctr Tryz.prog 122 [.str s] (fun r => r = .bool (quotB s)) := by
 refine Ctr.lits ?_
 have hg : s.getD (0 : Int).toNat 0 = s.headD 0 := by cases s <;> rfl
 have hq : quotB s = (decide (2 ≤ s.length) && decide (s.length ≤ 202) && decide ((s.headD 0).toNat = 34) && decide ((s.getD (s.length - 1) 0).toNat = 34) && ((s.take (s.length - 1)).drop 1).all inner) := rfl
 have fin : ¬ (2 ≤ s.length ∧ s.length ≤ 202 ∧ (s.headD 0).toNat = 34 ∧ (s.getD (s.length - 1) 0).toNat = 34) → (AV.bool false = .lit (quotB s) ∨ AV.bool false = .bool (quotB s)) ∧ (AV.lit false = .lit (quotB s) ∨ AV.lit false = .bool (quotB s)) := fun h => by
  have : quotB s = false := by
   rw [Bool.eq_false_iff]; intro q; rw [hq] at q
   simp only [Bool.and_eq_true, decide_eq_true_eq] at q
   exact h ⟨q.1.1.1.1, q.1.1.1.2, q.1.1.2, q.1.2⟩
  rw [this]; exact ⟨.inr rfl, .inl rfl⟩
 refine Ctr.of_body Tryz.func122 rfl tys_ok (by kernel_rfl) ?_
 conv => whnf
 repeat (first | (refine ACode.st tys_ok rfl ?_; conv => whnf))
 refine ⟨fun h1 => ?_, fun h1 => ?_⟩
 ·have h1 : 2 ≤ s.length := by simp at h1; omega
  conv => whnf
  repeat (first | (refine ACode.st tys_ok rfl ?_; conv => whnf))
  refine ⟨fun h2 => ?_, fun h2 => ?_⟩
  ·have h2 : s.length ≤ 202 := by simp at h2; omega
   have ew : Wr IntKind.i64 ((s.length : Int) - 1) = ((s.length - 1 : Nat) : Int) := by rw [Wr64 _ (by omega) (by omega)]; omega
   conv => whnf
   repeat (first | (refine ACode.st tys_ok rfl ?_; conv => whnf))
   refine ⟨⟨by omega, by omega⟩, ?_⟩
   conv => whnf
   rw [hg]
   generalize s.headD 0 = c at *
   refine ⟨fun h3 => ?_, fun h3 => ?_⟩
   ·have h3 : c.toNat = 34 := by simp at h3; omega
    conv => whnf
    repeat (first | (refine ACode.st tys_ok rfl ?_; conv => whnf))
    rw [ew]
    refine ⟨⟨by omega, by omega⟩, ?_⟩
    conv => whnf
    rw [Int.toNat_natCast]
    generalize hd : s.getD (s.length - 1) 0 = d at *
    repeat (first | (refine ACode.st tys_ok rfl ?_; conv => whnf))
    refine ⟨fun h4 => ?_, fun h4 => ?_⟩
    ·have h4 : ¬ d.toNat = 34 := by simp at h4; omega
     conv => whnf
     repeat (first | (refine ACode.st tys_ok rfl ?_; conv => whnf))
     have := fin (fun q => h4 q.2.2.2)
     first | exact this.1 | exact this.2
    ·have h4 : d.toNat = 34 := by simp at h4; omega
     have hq : quotB s = ((s.take (s.length - 1)).drop 1).all inner := by rw [hq, decide_eq_true h1, decide_eq_true h2, decide_eq_true h3, decide_eq_true h4]; rfl
     conv => whnf
     repeat (first | (refine ACode.st tys_ok rfl ?_; conv => whnf))
     refine ACode.loopD (fun k : Nat => mk 48 [(0, .str s), (3, .int .i64 k)]) (fun _ => []) (fun k => 1 ≤ k ∧ k ≤ s.length - 1 ∧ quotB s = ((s.take (s.length - 1)).drop k).all inner) (fun k => s.length - k) (fun k hk => ⟨rfl, trivial⟩) ⟨1, ?_⟩ (fun _ => rfl) fun k hk => ?_
     ·conv => whnf
      repeat (refine And.intro ?_ ?_; (focus (first | rfl | (simp; done))); conv => whnf)
      exact ⟨by omega, hq⟩
     ·obtain ⟨hk1, hk, he⟩ := hk
      repeat (first | (refine ACode.st tys_ok rfl ?_; conv => whnf))
      rw [ew]
      refine ⟨fun hlt => ?_, fun hge => ?_⟩
      ·have hlt : k < s.length - 1 := by simp at hlt; omega
       rw [inner_step s k hlt] at he
       repeat (first | (refine ACode.st tys_ok rfl ?_; conv => whnf))
       repeat' (first | (refine And.intro (fun _ => ?_) (fun _ => ?_) <;> conv => whnf) | (refine And.intro ⟨by omega, by omega⟩ ?_; (conv => whnf); first | rw [Int.toNat_natCast]) | (refine ACode.st tys_ok rfl ?_; conv => whnf))
       all_goals first
        | (have hn : inner (s.getD k 0) = false := by simp_all [inner] <;> omega
           rw [hn] at he
           rw [he]; first | exact .inl rfl | exact .inr rfl)
        | (refine ⟨k + 1, ?_⟩
           conv => whnf
           repeat (refine And.intro ?_ ?_; (focus (first | rfl | (simp; done) | (rw [Wr64 _ (by omega) (by omega)]; omega; done))); conv => whnf)
           have hn : inner (s.getD k 0) = true := by simp_all [inner] <;> omega
           rw [hn] at he
           exact ⟨⟨by omega, by omega, he⟩, by omega⟩)
      ·have hge : k = s.length - 1 := by simp at hge; omega
       subst hge
       repeat (first | (refine ACode.st tys_ok rfl ?_; conv => whnf))
       rw [he, List.drop_eq_nil_of_le (by simp)]
       exact .inr rfl
   ·have h3 : ¬ c.toNat = 34 := by simp at h3; omega
    conv => whnf
    repeat (first | (refine ACode.st tys_ok rfl ?_; conv => whnf))
    have := fin (fun q => h3 q.2.2.1)
    first | exact this.1 | exact this.2
  ·have h2 : ¬ s.length ≤ 202 := by simp at h2; omega
   conv => whnf
   repeat (first | (refine ACode.st tys_ok rfl ?_; conv => whnf))
   have := fin (fun q => h2 q.2.1)
   first | exact this.1 | exact this.2
 ·have h1 : ¬ 2 ≤ s.length := by simp at h1; omega
  conv => whnf
  repeat (first | (refine ACode.st tys_ok rfl ?_; conv => whnf))
  have := fin (fun q => h1 q.1)
  first | exact this.1 | exact this.2
theorem all_take {α : Type} (p : α → Bool) (s : List α) (k : Nat) (h : k < s.length) : (s.take (k + 1)).all p = ((s.take k).all p && p s[k]) := by
 rw [List.take_succ_eq_append_getElem h, List.all_append]; simp only [List.all_cons, List.all_nil, Bool.and_true]
set_option maxRecDepth 20000 in
theorem rrun_spec (s : Bs) (hs : s.length ≤ 8000) : Ctr Tryz.prog 123 [.str s] (fun r => r = .int .i64 (runK s)) := by
 have hg : s.getD (0 : Int).toNat 0 = s.headD 0 := by cases s <;> rfl
 refine Ctr.of_body Tryz.func123 rfl tys_ok (by kernel_rfl) ?_
 conv => whnf
 repeat (first | (refine ACode.st tys_ok rfl ?_; conv => whnf))
 refine ACode.loopD (fun k : Nat => mk 44 [(0, .str s), (3, .bool ((s.take k).all digB)), (4, .int .i64 k)]) (fun _ => []) (fun k => k ≤ s.length ∧ (s.take k).all wordB = true) (fun k => s.length - k) (fun k hk => ⟨rfl, trivial⟩) ⟨0, ?_⟩ (fun _ => rfl) fun k hk => ?_
 ·conv => whnf
  repeat (refine And.intro ?_ ?_; (focus (first | rfl | (simp; done))); conv => whnf)
  simp
 ·obtain ⟨hk, he⟩ := hk
  repeat (first | (refine ACode.st tys_ok rfl ?_; conv => whnf))
  refine ⟨fun hlt => ?_, fun hge => ?_⟩
  ·have hlt : k < s.length := by simp at hlt; omega
   have hd := all_take digB s k hlt
   have hw := all_take wordB s k hlt
   repeat (first | (refine ACode.st tys_ok rfl ?_; conv => whnf))
   refine ⟨⟨by omega, by omega⟩, ?_⟩
   conv => whnf
   rw [getD_byte s k hlt]
   refine ACall.of_spec (rWord_spec s[k]) rfl fun r hr => ?_
   subst hr
   conv => whnf
   repeat (first | (refine ACode.st tys_ok rfl ?_; conv => whnf))
   refine ⟨fun h => ?_, fun h => ?_⟩
   ·have h : wordB s[k] = false := by simpa using h
    conv => whnf
    repeat (first | (refine ACode.st tys_ok rfl ?_; conv => whnf))
    have : s.all wordB = false := by
     rw [Bool.eq_false_iff]; intro q
     have := List.all_eq_true.1 q s[k] (List.getElem_mem hlt)
     rw [h] at this; cases this
    unfold runK
    rw [this]
    rfl
   ·have h : wordB s[k] = true := by simpa using h
    conv => whnf
    repeat (first | (refine ACode.st tys_ok rfl ?_; conv => whnf))
    refine ⟨fun h2 => ?_, fun h2 => ?_⟩
    ·have h2 : (s.take k).all digB = true := by simpa using h2
     rw [h2, Bool.true_and] at hd
     conv => whnf
     repeat (first | (refine ACode.st tys_ok rfl ?_; conv => whnf))
     refine ⟨⟨by omega, by omega⟩, ?_⟩
     conv => whnf
     rw [getD_byte s k hlt]
     refine ACall.of_spec (rDigit_spec s[k]) rfl fun r hr => ?_
     subst hr
     conv => whnf
     repeat (first | (refine ACode.st tys_ok rfl ?_; conv => whnf))
     refine ⟨k + 1, ?_⟩
     conv => whnf
     repeat (refine And.intro ?_ ?_; (focus (first | rfl | (simp; done) | (first | (rw [Wr64 _ (by omega) (by omega)]; omega) | exact hd.symm; done))); conv => whnf)
     exact ⟨⟨by omega, by rw [hw, he, h]; rfl⟩, by omega⟩
    ·have h2 : (s.take k).all digB = false := by simpa using h2
     rw [h2, Bool.false_and] at hd
     conv => whnf
     repeat (first | (refine ACode.st tys_ok rfl ?_; conv => whnf))
     refine ⟨k + 1, ?_⟩
     conv => whnf
     repeat (refine And.intro ?_ ?_; (focus (first | rfl | (simp; done) | (first | (rw [Wr64 _ (by omega) (by omega)]; omega) | exact hd.symm; done))); conv => whnf)
     exact ⟨⟨by omega, by rw [hw, he, h]; rfl⟩, by omega⟩
  ·have hge : k = s.length := by simp at hge; omega
   subst hge
   rw [List.take_length] at *
   have hr : runK s = bif decide (s.length = 0) || decide ((s.headD 0).toNat = 95) then 0 else bif s.all digB && decide (s.length ≤ 8) then 2 else bif !s.all digB && decide (s.length ≤ 20) then 1 else 0 := by unfold runK; rw [he]; rfl
   rw [hr]
   clear hr
   generalize s.all digB = D at *
   generalize s.headD 0 = c at *
   repeat (first | (refine ACode.st tys_ok rfl ?_; conv => whnf))
   refine ⟨fun h1 => ?_, fun h1 => ?_⟩
   ·have h1 : ¬ s.length = 0 := by simpa using h1
    rw [decide_eq_false h1, Bool.false_or]
    conv => whnf
    repeat (first | (refine ACode.st tys_ok rfl ?_; conv => whnf))
    refine ⟨⟨by omega, by omega⟩, ?_⟩
    conv => whnf
    rw [hg]
    repeat' (first | (refine And.intro (fun _ => ?_) (fun _ => ?_) <;> conv => whnf) | (refine ACode.st tys_ok rfl ?_; conv => whnf))
    all_goals (refine congrArg (AV.int IntKind.i64) ?_)
    all_goals (cases D <;> by_cases q1 : c.toNat = 95 <;> by_cases q2 : s.length ≤ 8 <;> by_cases q3 : s.length ≤ 20 <;> simp only [q1, q2, q3, decide_true, decide_false, Bool.true_and, Bool.false_and, Bool.not_true, Bool.not_false, cond_true, cond_false] <;> first | done | (exfalso; simp_all; done) | (exfalso; simp_all; omega))
   ·have h1 : s.length = 0 := by simpa using h1
    rw [decide_eq_true h1, Bool.true_or, cond_true]
    conv => whnf
    repeat (first | (refine ACode.st tys_ok rfl ?_; conv => whnf))
set_option maxRecDepth 20000 in
theorem rkind_spec (s : Bs) (hs : s.length ≤ 8000) : Ctr Tryz.prog 104 [.str s] (fun r => r = .tuple [.int .i64 (kindR s).1, .str (kindR s).2]) := by
 refine Ctr.of_body Tryz.func104 rfl tys_ok (by kernel_rfl) ?_
 conv => whnf
 repeat (first | (refine ACode.st tys_ok rfl ?_; conv => whnf))
 refine ACall.of_spec (rsymbol_spec s) rfl fun r hr => ?_
 subst hr
 conv => whnf
 repeat (first | (refine ACode.st tys_ok rfl ?_; conv => whnf))
 rw [symsR_eq]
 have hk : kindR s = bif symB s then (3, s) else bif quotB s then (4, (s.take (s.length - 1)).drop 1) else bif decide (runK s = 0) then (0, []) else (runK s, s) := rfl
 refine ⟨fun h1 => ?_, fun h1 => ?_⟩
 ·rw [hk, h1]
  conv => whnf
  repeat (first | (refine ACode.st tys_ok rfl ?_; conv => whnf))
  rfl
 ·rw [h1] at hk
  simp only [cond_false] at hk
  conv => whnf
  repeat (first | (refine ACode.st tys_ok rfl ?_; conv => whnf))
  refine ACall.of_spec (quoted_spec s hs) rfl fun r hr => ?_
  subst hr
  conv => whnf
  repeat (first | (refine ACode.st tys_ok rfl ?_; conv => whnf))
  refine ⟨fun h2 => ?_, fun h2 => ?_⟩
  ·rw [hk, h2]
   conv => whnf
   repeat (first | (refine ACode.st tys_ok rfl ?_; conv => whnf))
   refine ACode.draw [] tys_ok (by kernel_rfl) (by kernel_rfl) ?_
   (conv => whnf)
   have hl : 2 ≤ s.length := by
    have h2 := h2
    unfold quotB at h2
    simp only [Bool.and_eq_true, decide_eq_true_eq] at h2
    exact h2.1.1.1.1
   have ew : Wr IntKind.i64 ((s.length : Int) - 1) = ((s.length - 1 : Nat) : Int) := by rw [Wr64 _ (by omega) (by omega)]; omega
   rw [ew]
   refine ⟨⟨by omega, by omega, by omega⟩, ?_⟩
   conv => whnf
   rw [Int.toNat_natCast]
   repeat (first | (refine ACode.st tys_ok rfl ?_; conv => whnf))
   rfl
  ·rw [h2] at hk
   simp only [cond_false] at hk
   conv => whnf
   repeat (first | (refine ACode.st tys_ok rfl ?_; conv => whnf))
   refine ACall.of_spec (rrun_spec s hs) rfl fun r hr => ?_
   subst hr
   conv => whnf
   repeat (first | (refine ACode.st tys_ok rfl ?_; conv => whnf))
   refine ⟨fun h3 => ?_, fun h3 => ?_⟩
   ·rw [hk, h3]
    conv => whnf
    repeat (first | (refine ACode.st tys_ok rfl ?_; conv => whnf))
    rfl
   ·rw [hk, h3]
    conv => whnf
    repeat (first | (refine ACode.st tys_ok rfl ?_; conv => whnf))
    rfl
theorem gap_tstep (s : Bs) (k : Nat) (hk : k < s.length) : gap true (s.drop k) = bif decide (s[k].toNat = 10) then gap false (s.drop (k + 1)) + 1 else gap true (s.drop (k + 1)) + 1 := by
 rw [List.drop_eq_getElem_cons hk]; rfl
set_option maxRecDepth 20000 in
theorem rgap_spec (s : Bs) (hs : s.length ≤ 8000) (p : Nat) (hp : p ≤ s.length) : Ctr Tryz.prog 76 [.str s, .int .i64 p] (fun r => r = .int .i64 (gap false (s.drop p))) := by
 have e0 : gap false (s.drop s.length) = 0 := by simp [gap]
 have e1 : gap true (s.drop s.length) = 0 := by simp [gap]
 have fin : ∀ k : Nat, p ≤ k → k ≤ s.length → p + gap false (s.drop p) = k → AV.int IntKind.i64 (Wr IntKind.i64 ((k : Int) - p)) = AV.int IntKind.i64 (gap false (s.drop p)) := fun k h1 h2 h3 => by
  rw [Wr64 _ (by omega) (by omega)]
  refine congrArg (AV.int IntKind.i64) ?_
  omega
 refine Ctr.of_body Tryz.func76 rfl tys_ok (by kernel_rfl) ?_
 conv => whnf
 repeat (first | (refine ACode.st tys_ok rfl ?_; conv => whnf))
 refine ACode.loopD (fun k : Nat => mk 54 [(0, .str s), (1, .int .i64 p), (5, .int .i64 k)]) (fun _ => []) (fun k => p ≤ k ∧ k ≤ s.length ∧ p + gap false (s.drop p) = k + gap false (s.drop k)) (fun k => s.length - k) (fun k hk => ⟨rfl, trivial⟩) ⟨p, ?_⟩ (fun _ => rfl) fun k hk => ?_
 ·conv => whnf
  repeat (refine And.intro ?_ ?_; (focus (first | rfl | (simp; done))); conv => whnf)
  exact ⟨hp, rfl⟩
 ·obtain ⟨hk0, hk, he⟩ := hk
  repeat (first | (refine ACode.st tys_ok rfl ?_; conv => whnf))
  refine ⟨fun hlt => ?_, fun hge => ?_⟩
  ·have hlt : k < s.length := by simp at hlt; omega
   have hst := gap_step s k hlt
   repeat (first | (refine ACode.st tys_ok rfl ?_; conv => whnf))
   repeat' (first | (refine And.intro (fun _ => ?_) (fun _ => ?_) <;> conv => whnf) | (refine And.intro ⟨by omega, by omega⟩ ?_; (conv => whnf); first | rw [getD_byte s k hlt]) | (refine ACode.st tys_ok rfl ?_; conv => whnf))
   all_goals first
    | (exfalso; simp_all; done)
    | (refine ⟨k + 1, ?_⟩
       conv => whnf
       repeat (refine And.intro ?_ ?_; (focus (first | rfl | (simp; done) | ((rw [Wr64 _ (by omega) (by omega)]; omega); done))); conv => whnf)
       have hn : blankB s[k] = true := by simp_all [blankB] <;> omega
       rw [hn, cond_true] at hst
       exact ⟨⟨by omega, by omega, by omega⟩, by omega⟩)
    | (have hn : blankB s[k] = false := by simp_all [blankB] <;> omega
       have h37 : ¬ s[k].toNat = 37 := by rename_i x; simp at x; omega
       rw [hn, decide_eq_false h37] at hst
       simp only [cond_false] at hst
       exact fin _ hk0 hk (by omega))
    | (have hn : blankB s[k] = false := by simp_all [blankB] <;> omega
       have h37 : s[k].toNat = 37 := by rename_i x; simp at x; omega
       rw [hn, decide_eq_true h37] at hst
       simp only [cond_false, cond_true] at hst
       have hts := gap_tstep s k hlt
       rw [decide_eq_false (by omega), cond_false] at hts
       refine ACode.loopD (fun j : Nat => mk 54 [(0, .str s), (1, .int .i64 p), (5, .int .i64 j)]) (fun _ => []) (fun j => k ≤ j ∧ j ≤ s.length ∧ p + gap false (s.drop p) = j + gap true (s.drop j)) (fun j => s.length - j) (fun k hk => ⟨rfl, trivial⟩) ⟨k, ?_⟩ (fun _ => rfl) fun j hj => ?_
       · (conv => whnf)
         repeat (refine And.intro ?_ ?_; (focus (first | rfl | (simp; done))); conv => whnf)
         exact ⟨hk, by omega⟩
       · obtain ⟨hj0, hj, hje⟩ := hj
         repeat (first | (refine ACode.st tys_ok rfl ?_; conv => whnf))
         refine ⟨fun hl2 => ?_, fun hl2 => ?_⟩
         · have hl2 : j < s.length := by simp at hl2; omega
           have hst2 := gap_step s j hl2
           have hts2 := gap_tstep s j hl2
           repeat (first | (refine ACode.st tys_ok rfl ?_; conv => whnf))
           repeat' (first | (refine And.intro (fun _ => ?_) (fun _ => ?_) <;> conv => whnf) | (refine And.intro ⟨by omega, by omega⟩ ?_; (conv => whnf); rw [getD_byte s j hl2]) | (refine ACode.st tys_ok rfl ?_; conv => whnf))
           · rename_i x
             have h10 : ¬ s[j].toNat = 10 := by simp at x; omega
             rw [decide_eq_false h10, cond_false] at hts2
             refine ⟨j + 1, ?_⟩
             (conv => whnf)
             repeat (refine And.intro ?_ ?_; (focus (first | rfl | (simp; done) | (rw [Wr64 _ (by omega) (by omega)]; omega; done))); conv => whnf)
             exact ⟨⟨by omega, by omega, by omega⟩, by omega⟩
           · rename_i x
             have h10 : s[j].toNat = 10 := by simp at x; omega
             rw [decide_eq_true h10, cond_true] at hts2
             have hb : blankB s[j] = true := by simp [blankB, h10]
             rw [hb, cond_true] at hst2
             have hne : k ≠ j := fun e => by subst e; omega
             refine ⟨j, ?_⟩
             (conv => whnf)
             repeat (refine And.intro ?_ ?_; (focus (first | rfl | (simp; done) | (rw [Wr64 _ (by omega) (by omega)]; omega; done))); conv => whnf)
             exact ⟨⟨by omega, by omega, by omega⟩, by omega⟩
         · have hl2 : j = s.length := by simp at hl2; omega
           subst hl2
           repeat (first | (refine ACode.st tys_ok rfl ?_; conv => whnf))
           refine ⟨s.length, ?_⟩
           (conv => whnf)
           repeat (refine And.intro ?_ ?_; (focus (first | rfl | (simp; done) | (rw [Wr64 _ (by omega) (by omega)]; omega; done))); conv => whnf)
           exact ⟨⟨by omega, by omega, by omega⟩, by omega⟩)
  ·have hge : k = s.length := by simp at hge; omega
   subst hge
   repeat (first | (refine ACode.st tys_ok rfl ?_; conv => whnf))
   exact fin _ hk0 hk (by omega)
set_option maxRecDepth 20000 in
theorem rnext_spec (s : Bs) (hs : s.length ≤ 8000) : Ctr Tryz.prog 77 [.str s] (fun r => r = match tokP s with | some (n, k, t) => .tuple [.agg [.int .i64 k, .str t, .int .i64 0], .int .i64 n] | none => .tuple [.agg [.int .i64 0, .str [], .int .i64 0], .int .i64 0]) := by
 refine Ctr.of_body Tryz.func77 rfl tys_ok (by kernel_rfl) ?_
 conv => whnf
 repeat (first | (refine ACode.st tys_ok rfl ?_; conv => whnf))
 refine ACode.loopD (fun n : Nat => mk 48 [(0, .str s), (2, .ptr 0 0), (4, .int .i64 n)]) (fun _ => [.cells [.int .i64 0, .str [], .int .i64 0]]) (fun n => n ≤ s.length ∧ n ≤ 202 ∧ ∀ m, n < m → m ≤ s.length → m ≤ 202 → okR s m = false) (fun n => n) (fun n hn => ⟨rfl, rfl, trivial⟩) ⟨min s.length 202, ?_⟩ (fun _ => rfl) fun n hn => ?_
 ·conv => whnf
  repeat (refine And.intro ?_ ?_; (focus (first | rfl | (simp; done) | (omega; done))); conv => whnf)
  exact fun m h1 h2 h3 => by omega
 ·obtain ⟨h1, h2, h3⟩ := hn
  repeat (first | (refine ACode.st tys_ok rfl ?_; conv => whnf))
  refine ⟨fun hpos => ?_, fun hz => ?_⟩
  ·have hpos : 0 < n := by simpa using hpos
   repeat (first | (refine ACode.st tys_ok rfl ?_; conv => whnf))
   refine ⟨⟨by omega, by omega, by omega⟩, ?_⟩
   conv => whnf
   have e1 : List.drop (Int.toNat 0) (List.take ((n : Int)).toNat s) = s.take n := by simp
   rw [e1]
   refine ACall.of_spec (rkind_spec (s.take n) (by simp; omega)) rfl fun r hr => ?_
   subst hr
   conv => whnf
   repeat (first | (refine ACode.st tys_ok rfl ?_; conv => whnf))
   have hok : okR s n = (!decide ((kindR (s.take n)).1 = 0) && !((decide ((kindR (s.take n)).1 = 1) || decide ((kindR (s.take n)).1 = 2)) && decide (n < s.length) && wordB (s.getD n 0))) := rfl
   have hgood := fun h => next_eq hpos h1 h h3
   generalize kindR (s.take n) = kt at *
   obtain ⟨k, t⟩ := kt
   simp only at hok hgood
   repeat (first | (refine ACode.st tys_ok rfl ?_; conv => whnf))
   have hcont : okR s n = false → ∀ m, n - 1 < m → m ≤ s.length → m ≤ 202 → okR s m = false := fun q m q1 q2 q3 => by
    by_cases c : m = n
    ·rw [c]; exact q
    ·exact h3 m (by omega) q2 q3
   by_cases hlt : n < s.length
   all_goals
    simp only
    repeat' (first | (refine And.intro (fun _ => ?_) (fun _ => ?_) <;> conv => whnf) | (refine And.intro ⟨by omega, by omega⟩ ?_; (conv => whnf); first | rw [Int.toNat_natCast]) | (refine ACall.of_spec (rWord_spec (s.getD n 0)) rfl fun r hr => ?_; subst hr; conv => whnf) | (refine ACode.st tys_ok rfl ?_; conv => whnf))
   all_goals first
    | (refine ⟨n - 1, ?_⟩
       conv => whnf
       repeat (refine And.intro ?_ ?_; (focus (first | rfl | (simp; done) | ((rw [Wr64 _ (by omega) (by omega)]; omega); done))); conv => whnf)
       have hv : okR s n = false := by rw [hok]; simp_all
       exact ⟨⟨by omega, by omega, hcont hv⟩, by omega⟩)
    | (have hv : okR s n = true := by rw [hok]; (first | (simp_all; done) | (simp_all; omega))
       rw [hgood hv]; done)
    | (exfalso; rename_i x; simp at x; omega)
  ·have hz : n = 0 := by simp at hz; omega
   subst hz
   have := next_none (s := s) (fun m h4 h5 h6 => h3 m h4 h5 h6)
   rw [this]
   repeat (first | (refine ACode.st tys_ok rfl ?_; conv => whnf))
set_option maxRecDepth 20000 in
theorem rLex_spec (s : Bs) (hs : s.length ≤ 9223372036854775807) : Ctr Tryz.prog 51 [.str s] (fun r => r = resLx (lexP s)) := by
 refine Ctr.of_body Tryz.func51 rfl tys_ok (by kernel_rfl) ?_
 conv => whnf
 repeat (first | (refine ACode.st tys_ok rfl ?_; conv => whnf))
 refine ⟨fun h => ?_, fun h => ?_⟩
 ·have h : 8000 < s.length := by simp at h; omega
  conv => whnf
  repeat (first | (refine ACode.st tys_ok rfl ?_; conv => whnf))
  refine ⟨3, ?_⟩
  (conv => whnf)
  unfold lexP
  rw [decide_eq_true h]
  rfl
 ·have h : ¬ 8000 < s.length := by simp at h; omega
  conv => whnf
  repeat (first | (refine ACode.st tys_ok rfl ?_; conv => whnf))
  refine ACall.of_spec (rgap_spec s (by omega) 0 (by omega)) rfl fun r hr => ?_
  subst hr
  conv => whnf
  repeat (first | (refine ACode.st tys_ok rfl ?_; conv => whnf))
  refine ACode.nilArr 5 109 3 rfl ?_
  refine ACode.loopD (fun i : Nat × List Tok => mk 47 [(0, .str s), (5, .own 0 3 0 i.2.length), (6, .int .i64 ((i.1 + gap false (s.drop i.1) : Nat) : Int))]) (fun i => [.arr 109 3 (toksA i.2)])
   (fun i => i.1 ≤ s.length ∧ i.2.length ≤ 3000 ∧ ∃ f, s.length < i.1 + f ∧ lexP s = Lx.app i.2 (lexGo s f i.1 i.2.length)) (fun i => s.length - i.1) (fun i hi => ⟨rfl, ?_⟩) ⟨(0, []), ?_⟩ (fun _ => rfl) fun i hi => ?_
  ·(conv => whnf)
   exact ⟨closed_toks _, trivial⟩
  ·conv => whnf
   repeat (refine And.intro ?_ ?_; (focus (first | rfl | (simp; done))); conv => whnf)
   refine ⟨s.length + 1, by simp only; omega, ?_⟩
   unfold lexP
   rw [decide_eq_false h, cond_false]
   simp only [List.length_nil]
   cases lexGo s (s.length + 1) 0 0 <;> simp [Lx.app]
  ·obtain ⟨p, l⟩ := i
   obtain ⟨hp, hl, f, hf, he⟩ := hi
   simp only at hp hl hf he ⊢
   obtain ⟨f, rfl⟩ : ∃ f', f = f' + 1 := ⟨f - 1, by omega⟩
   unfold lexGo at he
   have hg := gap_le false (s.drop p)
   simp only [List.length_drop] at hg
   have hpq : p ≤ p + gap false (s.drop p) := Nat.le_add_right _ _
   have hqs : p + gap false (s.drop p) ≤ s.length := by omega
   generalize p + gap false (s.drop p) = q at *
   repeat (first | (refine ACode.st tys_ok rfl ?_; conv => whnf))
   refine ⟨fun h1 => ?_, fun h1 => ?_⟩
   ·have h1 : q < s.length := by simpa using h1
    rw [decide_eq_false (by omega), cond_false] at he
    repeat (first | (refine ACode.st tys_ok rfl ?_; conv => whnf))
    refine ⟨fun h2 => ?_, fun h2 => ?_⟩
    ·have h2 : l.length = 3000 := by simp at h2; omega
     rw [decide_eq_true h2, cond_true] at he
     conv => whnf
     repeat (first | (refine ACode.st tys_ok rfl ?_; conv => whnf))
     refine ⟨3, ?_⟩
     (conv => whnf)
     rw [he]
     rfl
    ·have h2 : ¬ l.length = 3000 := by simp at h2; omega
     rw [decide_eq_false h2, cond_false] at he
     conv => whnf
     repeat (first | (refine ACode.st tys_ok rfl ?_; conv => whnf))
     refine ⟨⟨by omega, by omega, by omega⟩, ?_⟩
     conv => whnf
     have ed : List.drop ((q : Int)).toNat (List.take ((s.length : Int)).toNat s) = s.drop q := by simp
     rw [ed]
     refine ACall.of_spec (rnext_spec (s.drop q) (by simp; omega)) rfl fun r hr => ?_
     subst hr
     conv => whnf
     repeat (first | (refine ACode.st tys_ok rfl ?_; conv => whnf))
     cases ht : tokP (s.drop q) with
     | none =>
      rw [ht] at he
      (conv => whnf)
      repeat (first | (refine ACode.st tys_ok rfl ?_; conv => whnf))
      repeat (first | ((first | refine ⟨fun _ => ?_, fun h => absurd h (by decide +kernel)⟩ | refine ⟨fun h => absurd h (by decide +kernel), fun _ => ?_⟩ | refine ⟨by decide, _, rfl, ?_⟩); conv => whnf) | (refine ACode.st tys_ok rfl ?_; conv => whnf))
      refine ⟨3, ?_⟩
      (conv => whnf)
      rw [he]
      rfl
     | some x =>
      obtain ⟨n, k, t⟩ := x
      rw [ht] at he
      simp only [app_cons] at he
      obtain ⟨k1, k2, k3, k4⟩ := tokP_ok ht
      simp only [List.length_drop] at k2
      (conv => whnf)
      repeat (first | (refine ACode.st tys_ok rfl ?_; conv => whnf))
      refine ⟨fun h3 => absurd h3 (by simp; omega), fun _ => ?_⟩
      conv => whnf
      repeat (first | (refine ACode.st tys_ok rfl ?_; conv => whnf))
      refine ⟨rfl, ?_⟩
      conv => whnf
      refine ⟨⟨(toksA_length l).symm, by simp; omega⟩, ?_⟩
      conv => whnf
      have ew : Wr .i64 ((q : Int) + (n : Int)) = ((q + n : Nat) : Int) := by rw [Wr64 _ (by omega) (by omega)]; omega
      repeat (first | (refine ACode.st tys_ok rfl ?_; conv => whnf))
      rw [ew]
      refine ACall.of_spec (rgap_spec s (by omega) (q + n) (by omega)) rfl fun r hr => ?_
      subst hr
      conv => whnf
      repeat (first | (refine ACode.st tys_ok rfl ?_; conv => whnf))
      have hg2 := gap_le false (s.drop (q + n))
      simp only [List.length_drop] at hg2
      refine ⟨(q + n, l ++ [⟨k, t, q⟩]), ?_⟩
      conv => whnf
      repeat (refine And.intro ?_ ?_; (focus (first | rfl | (simp; done) | (first | (simp [toksA]; done) | (rw [Wr64 _ (by omega) (by omega)]; simp; done) | (rw [Wr64 _ (by omega) (by omega)]; omega); done))); conv => whnf)
      refine ⟨by simp [toksA, tokA], ?_⟩
      (conv => whnf)
      exact ⟨⟨by simp only; omega, by simp; omega, f, by simp only; omega, by simpa using he⟩, by simp only; omega⟩
   ·have h1 : q = s.length := by simp at h1; omega
    rw [decide_eq_true h1, cond_true] at he
    repeat (first | (refine ACode.st tys_ok rfl ?_; conv => whnf))
    refine ⟨⟨(toksA_length l).symm, closed_toks _⟩, ?_⟩
    (conv => whnf)
    rw [he]
    simp [Lx.app, resLx]
end Go.Proofs.YtbedaolpfedacaaGreatDoor
