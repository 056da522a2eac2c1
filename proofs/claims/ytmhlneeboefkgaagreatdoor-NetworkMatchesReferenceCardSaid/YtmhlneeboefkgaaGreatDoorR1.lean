import Derived.Test.YtmhlneeboefkgaaGreatDoorN21
set_option linter.unusedVariables false
set_option linter.unusedSimpArgs false
namespace Go.Proofs.YtmhlneeboefkgaaGreatDoor
open Go.Av Go.Av.Net
theorem _root_.Go.Av.Ctr.lits {P : Go.Program} {f : Nat} {args : List AV} {b : Bool} (h : Ctr P f args (fun r => r = .lit b ∨ r = .bool b)) : Ctr P f args (fun r => r = .bool b) :=
 ⟨h.good, fun C w vs h1 h2 => (h.out C w vs h1 h2).mono fun e w' hp => by
  obtain ⟨r, v, h3, h4, h5, h6⟩ := hp
  refine ⟨.bool b, v, h3, rfl, h5, ?_⟩
  rcases h4 with rfl | rfl <;> (unfold Rep at *; exact h6)⟩
theorem drop_eq {α : Type} {a b : List α} (hl : a.length = b.length) (k : Nat) (h : k < a.length) (hp : a.take k = b.take k) : (a = b ↔ a[k] = b[k] ∧ a.drop (k + 1) = b.drop (k + 1)) ∧ (a[k] = b[k] → a.take (k + 1) = b.take (k + 1)) := by
 have h' : k < b.length := by omega
 have e1 : a = a.take k ++ a[k] :: a.drop (k + 1) := by rw [← List.drop_eq_getElem_cons h, List.take_append_drop]
 have e2 : b = b.take k ++ b[k] :: b.drop (k + 1) := by rw [← List.drop_eq_getElem_cons h', List.take_append_drop]
 refine ⟨⟨fun e => by subst e; exact ⟨rfl, rfl⟩, fun ⟨q1, q2⟩ => by rw [e1, e2, hp, q1, q2]⟩, fun q => by rw [List.take_succ_eq_append_getElem h, List.take_succ_eq_append_getElem h', hp, q]⟩
theorem take_all {α : Type} {a b : List α} (hl : a.length = b.length) (hp : a.take a.length = b.take a.length) : a = b := by
 rw [List.take_length, hl, List.take_length] at hp; exact hp
set_option maxRecDepth 20000 in
theorem strings_spec (a b : List Bs) (ha : a.length ≤ 100000) (hb : b.length ≤ 100000) : Ctr Tryz.prog 27 [.sl 1 (strs a), .sl 1 (strs b)] (fun r => r = .bool (decide (a = b))) := by
 refine Ctr.lits ?_
 refine Ctr.of_body Tryz.func27 rfl tys_ok (by kernel_rfl) ?_
 conv => whnf
 repeat (first | refine ACode.seq ?_ | (refine ACode.s_reg tys_ok ?_; conv => whnf) | refine ACode.s_block ?_ | refine ACode.s_scope ?_ | (refine ACode.s_cond ?_; conv => whnf) | (refine ACode.s_exit ?_; conv => whnf) | (refine ACode.s_ret ?_; conv => whnf) | (refine ACode.s_skip ?_; conv => whnf) | (refine ACode.s_label ?_; conv => whnf))
 refine ⟨fun h => ?_, fun h => ?_⟩
 ·have h : ¬ a.length = b.length := by simp [strs] at h; omega
  repeat (first | refine ACode.seq ?_ | (refine ACode.s_reg tys_ok ?_; conv => whnf) | refine ACode.s_block ?_ | refine ACode.s_scope ?_ | (refine ACode.s_cond ?_; conv => whnf) | (refine ACode.s_exit ?_; conv => whnf) | (refine ACode.s_ret ?_; conv => whnf) | (refine ACode.s_skip ?_; conv => whnf) | (refine ACode.s_label ?_; conv => whnf))
  rw [decide_eq_false (show ¬ a = b from fun e => h (by rw [e]))]
  first | exact .inl rfl | exact .inr rfl
 ·have hl : a.length = b.length := by simp [strs] at h; omega
  repeat (first | refine ACode.seq ?_ | (refine ACode.s_reg tys_ok ?_; conv => whnf) | refine ACode.s_block ?_ | refine ACode.s_scope ?_ | (refine ACode.s_cond ?_; conv => whnf) | (refine ACode.s_exit ?_; conv => whnf) | (refine ACode.s_ret ?_; conv => whnf) | (refine ACode.s_skip ?_; conv => whnf) | (refine ACode.s_label ?_; conv => whnf))
  refine ACode.loopD (fun k : Nat => mk 26 [(0, .sl 1 (strs a)), (1, .sl 1 (strs b)), (5, .int .i64 k)]) (fun _ => []) (fun k => k ≤ a.length ∧ a.take k = b.take k) (fun k => a.length - k) (fun k hk => ⟨rfl, trivial⟩) ⟨0, ?_⟩ (fun _ => rfl) fun k hk => ?_
  ·conv => whnf
   repeat (refine And.intro ?_ ?_; (focus (first | rfl | (simp; done))); conv => whnf)
   simp
  ·obtain ⟨hk, hp⟩ := hk
   repeat (first | refine ACode.seq ?_ | (refine ACode.s_reg tys_ok ?_; conv => whnf) | refine ACode.s_block ?_ | refine ACode.s_scope ?_ | (refine ACode.s_cond ?_; conv => whnf) | (refine ACode.s_exit ?_; conv => whnf) | (refine ACode.s_ret ?_; conv => whnf) | (refine ACode.s_skip ?_; conv => whnf) | (refine ACode.s_label ?_; conv => whnf))
   refine ⟨fun h => ?_, fun h => ?_⟩
   ·have h : k < a.length := by simp [strs] at h; omega
    have h' : k < b.length := by omega
    obtain ⟨q1, q2⟩ := drop_eq hl k h hp
    repeat (first | refine ACode.seq ?_ | (refine ACode.s_reg tys_ok ?_; conv => whnf) | refine ACode.s_block ?_ | refine ACode.s_scope ?_ | (refine ACode.s_cond ?_; conv => whnf) | (refine ACode.s_exit ?_; conv => whnf) | (refine ACode.s_ret ?_; conv => whnf) | (refine ACode.s_skip ?_; conv => whnf) | (refine ACode.s_label ?_; conv => whnf))
    refine ACode.draw [] tys_ok (by kernel_rfl) (by kernel_rfl) ?_
    conv => whnf
    refine ⟨by omega, .str a[k], strs_get _ _ h, ?_⟩
    conv => whnf
    refine ⟨by omega, .str b[k], strs_get _ _ h', ?_⟩
    conv => whnf
    refine ⟨fun hc => ?_, fun hc => ?_⟩
    ·have hc : ¬ a[k] = b[k] := by simpa using hc
     conv => whnf
     repeat (first | refine ACode.seq ?_ | (refine ACode.s_reg tys_ok ?_; conv => whnf) | refine ACode.s_block ?_ | refine ACode.s_scope ?_ | (refine ACode.s_cond ?_; conv => whnf) | (refine ACode.s_exit ?_; conv => whnf) | (refine ACode.s_ret ?_; conv => whnf) | (refine ACode.s_skip ?_; conv => whnf) | (refine ACode.s_label ?_; conv => whnf))
     rw [decide_eq_false (show ¬ a = b from fun e => hc (q1.1 e).1)]
     first | exact .inl rfl | exact .inr rfl
    ·have hc : a[k] = b[k] := by simpa using hc
     conv => whnf
     repeat (first | refine ACode.seq ?_ | (refine ACode.s_reg tys_ok ?_; conv => whnf) | refine ACode.s_block ?_ | refine ACode.s_scope ?_ | (refine ACode.s_cond ?_; conv => whnf) | (refine ACode.s_exit ?_; conv => whnf) | (refine ACode.s_ret ?_; conv => whnf) | (refine ACode.s_skip ?_; conv => whnf) | (refine ACode.s_label ?_; conv => whnf))
     refine ⟨k + 1, ?_⟩
     conv => whnf
     repeat (refine And.intro ?_ ?_; (focus (first | rfl | (simp; done) | (rw [Wr64 _ (by omega) (by omega)]; omega; done))); conv => whnf)
     exact ⟨⟨by omega, q2 hc⟩, by omega⟩
   ·have h : k = a.length := by simp [strs] at h; omega
    subst h
    repeat (first | refine ACode.seq ?_ | (refine ACode.s_reg tys_ok ?_; conv => whnf) | refine ACode.s_block ?_ | refine ACode.s_scope ?_ | (refine ACode.s_cond ?_; conv => whnf) | (refine ACode.s_exit ?_; conv => whnf) | (refine ACode.s_ret ?_; conv => whnf) | (refine ACode.s_skip ?_; conv => whnf) | (refine ACode.s_label ?_; conv => whnf))
    rw [decide_eq_true (take_all hl hp)]
    first | exact .inl rfl | exact .inr rfl
def sameCalB (a b : Cal) : Bool := decide (a.zone = b.zone) && decide (a.week = b.week) && decide (a.hols = b.hols)
set_option maxRecDepth 20000 in
theorem sameCal_spec (a b : Cal) (h1 : a.week.length ≤ 100000) (h2 : b.week.length ≤ 100000) (h3 : a.hols.length ≤ 100000) (h4 : b.hols.length ≤ 100000) : Ctr Tryz.prog 28 [calA a, calA b] (fun r => r = .bool (sameCalB a b)) := by
 refine Ctr.lits ?_
 refine Ctr.of_body Tryz.func28 rfl tys_ok (by kernel_rfl) ?_
 conv => whnf
 repeat (first | refine ACode.seq ?_ | (refine ACode.s_reg tys_ok ?_; conv => whnf) | refine ACode.s_block ?_ | refine ACode.s_scope ?_ | (refine ACode.s_cond ?_; conv => whnf) | (refine ACode.s_exit ?_; conv => whnf) | (refine ACode.s_ret ?_; conv => whnf) | (refine ACode.s_skip ?_; conv => whnf) | (refine ACode.s_label ?_; conv => whnf))
 have hF : ¬ (a.zone = b.zone ∧ a.week = b.week ∧ a.hols = b.hols) → sameCalB a b = false := fun h => by
  rw [Bool.eq_false_iff]; intro hh; unfold sameCalB at hh; simp only [Bool.and_eq_true, decide_eq_true_eq] at hh; exact h ⟨hh.1.1, hh.1.2, hh.2⟩
 repeat' (first | (refine And.intro (fun _ => ?_) (fun _ => ?_) <;> conv => whnf) | refine ACode.seq ?_ | (refine ACode.s_reg tys_ok ?_; conv => whnf) | refine ACode.s_block ?_ | refine ACode.s_scope ?_ | (refine ACode.s_cond ?_; conv => whnf) | (refine ACode.s_exit ?_; conv => whnf) | (refine ACode.s_ret ?_; conv => whnf) | (refine ACode.s_skip ?_; conv => whnf) | (refine ACode.s_label ?_; conv => whnf))
 rotate_left
 rotate_left
 all_goals try (rw [hF (fun ⟨e1, e2, e3⟩ => by simp_all)]; first | exact .inl rfl | exact .inr rfl)
 rename_i x1 x2 x3
 have e1 : a.zone = b.zone := by simpa using x1
 have e2 : a.week.length = b.week.length := by simp at x2; omega
 have e3 : a.hols.length = b.hols.length := by simp at x3; omega
 refine ACode.loopD (fun k : Nat => mk 66 [(2, .ptr 0 0), (3, .ptr 1 0), (5, .int .i64 k)]) (fun _ => [.cells [.int .i64 a.zone, .sl 1 (a.week.map .bool), .sl 1 (a.hols.map (.int .i64))], .cells [.int .i64 b.zone, .sl 1 (b.week.map .bool), .sl 1 (b.hols.map (.int .i64))]]) (fun k => k ≤ a.week.length ∧ a.week.take k = b.week.take k) (fun k => a.week.length - k) (fun k hk => ⟨rfl, rfl, rfl, trivial⟩) ⟨0, ?_⟩ (fun _ => rfl) fun k hk => ?_
 ·conv => whnf
  repeat (refine And.intro ?_ ?_; (focus (first | rfl | (simp; done))); conv => whnf)
  simp
 ·obtain ⟨hk, hp⟩ := hk
  repeat (first | refine ACode.seq ?_ | (refine ACode.s_reg tys_ok ?_; conv => whnf) | refine ACode.s_block ?_ | refine ACode.s_scope ?_ | (refine ACode.s_cond ?_; conv => whnf) | (refine ACode.s_exit ?_; conv => whnf) | (refine ACode.s_ret ?_; conv => whnf) | (refine ACode.s_skip ?_; conv => whnf) | (refine ACode.s_label ?_; conv => whnf))
  refine ⟨fun h => ?_, fun h => ?_⟩
  ·have h : k < a.week.length := by simp at h; omega
   have h' : k < b.week.length := by omega
   obtain ⟨q1, q2⟩ := drop_eq e2 k h hp
   repeat (first | refine ACode.seq ?_ | (refine ACode.s_reg tys_ok ?_; conv => whnf) | refine ACode.s_block ?_ | refine ACode.s_scope ?_ | (refine ACode.s_cond ?_; conv => whnf) | (refine ACode.s_exit ?_; conv => whnf) | (refine ACode.s_ret ?_; conv => whnf) | (refine ACode.s_skip ?_; conv => whnf) | (refine ACode.s_label ?_; conv => whnf))
   refine ACode.draw [] tys_ok (by kernel_rfl) (by kernel_rfl) ?_
   conv => whnf
   refine ⟨by omega, .bool a.week[k], by simp [h], ?_⟩
   conv => whnf
   refine ⟨fun g1 => ?_, fun g1 => ?_⟩ <;> (conv => whnf)
   all_goals
    refine ⟨by omega, .bool b.week[k], by simp [h'], ?_⟩
    (conv => whnf)
    refine ⟨fun g2 => ?_, fun g2 => ?_⟩ <;> (conv => whnf)
   all_goals
    refine ⟨fun g3 => ?_, fun g3 => ?_⟩ <;> (conv => whnf)
   all_goals first
    | (exfalso; simp at g3; done)
    | (repeat (first | refine ACode.seq ?_ | (refine ACode.s_reg tys_ok ?_; conv => whnf) | refine ACode.s_block ?_ | refine ACode.s_scope ?_ | (refine ACode.s_cond ?_; conv => whnf) | (refine ACode.s_exit ?_; conv => whnf) | (refine ACode.s_ret ?_; conv => whnf) | (refine ACode.s_skip ?_; conv => whnf) | (refine ACode.s_label ?_; conv => whnf))
       rw [hF (fun e => by have := (q1.1 e.2.1).1; rw [g1, g2] at this; cases this)]
       first | exact .inl rfl | exact .inr rfl)
    | (repeat (first | refine ACode.seq ?_ | (refine ACode.s_reg tys_ok ?_; conv => whnf) | refine ACode.s_block ?_ | refine ACode.s_scope ?_ | (refine ACode.s_cond ?_; conv => whnf) | (refine ACode.s_exit ?_; conv => whnf) | (refine ACode.s_ret ?_; conv => whnf) | (refine ACode.s_skip ?_; conv => whnf) | (refine ACode.s_label ?_; conv => whnf))
       refine ⟨k + 1, ?_⟩
       conv => whnf
       repeat (refine And.intro ?_ ?_; (focus (first | rfl | (simp; done) | (rw [Wr64 _ (by omega) (by omega)]; omega; done))); conv => whnf)
       exact ⟨⟨by omega, q2 (by rw [g1, g2])⟩, by omega⟩)
  ·have h : k = a.week.length := by simp at h; omega
   subst h
   have e4 := take_all e2 hp
   repeat (first | refine ACode.seq ?_ | (refine ACode.s_reg tys_ok ?_; conv => whnf) | refine ACode.s_block ?_ | refine ACode.s_scope ?_ | (refine ACode.s_cond ?_; conv => whnf) | (refine ACode.s_exit ?_; conv => whnf) | (refine ACode.s_ret ?_; conv => whnf) | (refine ACode.s_skip ?_; conv => whnf) | (refine ACode.s_label ?_; conv => whnf))
   refine ACode.loopD (fun k : Nat => mk 66 [(2, .ptr 0 0), (3, .ptr 1 0), (6, .int .i64 k)]) (fun _ => [.cells [.int .i64 a.zone, .sl 1 (a.week.map .bool), .sl 1 (a.hols.map (.int .i64))], .cells [.int .i64 b.zone, .sl 1 (b.week.map .bool), .sl 1 (b.hols.map (.int .i64))]]) (fun k => k ≤ a.hols.length ∧ a.hols.take k = b.hols.take k) (fun k => a.hols.length - k) (fun k hk => ⟨rfl, rfl, rfl, trivial⟩) ⟨0, ?_⟩ (fun _ => rfl) fun k hk => ?_
   ·conv => whnf
    repeat (refine And.intro ?_ ?_; (focus (first | rfl | (simp; done))); conv => whnf)
    simp
   ·obtain ⟨hk, hp⟩ := hk
    repeat (first | refine ACode.seq ?_ | (refine ACode.s_reg tys_ok ?_; conv => whnf) | refine ACode.s_block ?_ | refine ACode.s_scope ?_ | (refine ACode.s_cond ?_; conv => whnf) | (refine ACode.s_exit ?_; conv => whnf) | (refine ACode.s_ret ?_; conv => whnf) | (refine ACode.s_skip ?_; conv => whnf) | (refine ACode.s_label ?_; conv => whnf))
    refine ⟨fun h => ?_, fun h => ?_⟩
    ·have h : k < a.hols.length := by simp at h; omega
     have h' : k < b.hols.length := by omega
     obtain ⟨q1, q2⟩ := drop_eq e3 k h hp
     repeat (first | refine ACode.seq ?_ | (refine ACode.s_reg tys_ok ?_; conv => whnf) | refine ACode.s_block ?_ | refine ACode.s_scope ?_ | (refine ACode.s_cond ?_; conv => whnf) | (refine ACode.s_exit ?_; conv => whnf) | (refine ACode.s_ret ?_; conv => whnf) | (refine ACode.s_skip ?_; conv => whnf) | (refine ACode.s_label ?_; conv => whnf))
     refine ACode.draw [] tys_ok (by kernel_rfl) (by kernel_rfl) ?_
     conv => whnf
     refine ⟨by omega, .int .i64 a.hols[k], by simp [h], ?_⟩
     conv => whnf
     refine ⟨by omega, .int .i64 b.hols[k], by simp [h'], ?_⟩
     conv => whnf
     refine ⟨fun hc => ?_, fun hc => ?_⟩
     ·have hc : ¬ a.hols[k] = b.hols[k] := by simpa using hc
      conv => whnf
      repeat (first | refine ACode.seq ?_ | (refine ACode.s_reg tys_ok ?_; conv => whnf) | refine ACode.s_block ?_ | refine ACode.s_scope ?_ | (refine ACode.s_cond ?_; conv => whnf) | (refine ACode.s_exit ?_; conv => whnf) | (refine ACode.s_ret ?_; conv => whnf) | (refine ACode.s_skip ?_; conv => whnf) | (refine ACode.s_label ?_; conv => whnf))
      rw [hF (fun e => hc (q1.1 e.2.2).1)]
      first | exact .inl rfl | exact .inr rfl
     ·have hc : a.hols[k] = b.hols[k] := by simpa using hc
      conv => whnf
      repeat (first | refine ACode.seq ?_ | (refine ACode.s_reg tys_ok ?_; conv => whnf) | refine ACode.s_block ?_ | refine ACode.s_scope ?_ | (refine ACode.s_cond ?_; conv => whnf) | (refine ACode.s_exit ?_; conv => whnf) | (refine ACode.s_ret ?_; conv => whnf) | (refine ACode.s_skip ?_; conv => whnf) | (refine ACode.s_label ?_; conv => whnf))
      refine ⟨k + 1, ?_⟩
      conv => whnf
      repeat (refine And.intro ?_ ?_; (focus (first | rfl | (simp; done) | (rw [Wr64 _ (by omega) (by omega)]; omega; done))); conv => whnf)
      exact ⟨⟨by omega, q2 hc⟩, by omega⟩
    ·have h : k = a.hols.length := by simp at h; omega
     subst h
     have e5 := take_all e3 hp
     repeat (first | refine ACode.seq ?_ | (refine ACode.s_reg tys_ok ?_; conv => whnf) | refine ACode.s_block ?_ | refine ACode.s_scope ?_ | (refine ACode.s_cond ?_; conv => whnf) | (refine ACode.s_exit ?_; conv => whnf) | (refine ACode.s_ret ?_; conv => whnf) | (refine ACode.s_skip ?_; conv => whnf) | (refine ACode.s_label ?_; conv => whnf))
     rw [show sameCalB a b = true by unfold sameCalB; simp [e1, e4, e5]]
     first | exact .inl rfl | exact .inr rfl
end Go.Proofs.YtmhlneeboefkgaaGreatDoor
