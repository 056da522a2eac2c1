import Derived.Test.YtmhlneeboefkgaaGreatDoorN17
import Derived.Test.YtmhlneeboefkgaaGreatDoorKf
set_option linter.unusedVariables false
set_option linter.unusedSimpArgs false
namespace Go.Proofs.YtmhlneeboefkgaaGreatDoor
open Go.Av Go.Av.Net
theorem week_j {ts : List KT} {x : List Bool} {i j : Nat} (h : weekP ts i = .ok x j) : j = i + 1 := by
 unfold weekP at h
 split at h
 ·cases h
 ·rename_i t _
  cases hs : (decide (t.1 = 2) && isWeekB t.2) with
  | true => rw [hs] at h; cases h; rfl
  | false => rw [hs] at h; cases h
theorem int_j {ts : List KT} {x : Int} {i j : Nat} (h : intP ts i = .ok x j) : i + 1 ≤ j := by
 unfold intP at h
 cases hs : seesP ts 3 s_minus i with
 | true =>
  rw [hs, cond_true] at h
  cases h1 : numberP ts (i + 1) with
  | fail e k => rw [h1] at h; cases h
  | ok a i1 => rw [h1] at h; cases h; have := number_j h1; omega
 | false => rw [hs, cond_false] at h; have := number_j h; omega
set_option maxRecDepth 20000 in
set_option maxHeartbeats 4000000 in
theorem calendars_m (ts : List Tok) (len i : Nat) (n : Nw) (v : V6) (ht : TsOK ts) (hi : i ≤ ts.length) (hn : n.cals = []) (hn2 : n.names = []) :
  HCtr Tryz.prog 12 [.ptr 4 0] (PQ ts len i nilA nilA (.raw v.c) (.raw v.d) (.raw v.e) (.raw v.f))
   (fun r H => ∃ n' j, calsP (kts ts) ts.length n i = .ok n' j ∧ j ≤ ts.length ∧ r = .tuple [] ∧ H = PQ ts len j (.sl 3 (n'.cals.map calA)) (.sl 1 (strs n'.names)) (.raw v.c) (.raw v.d) (.raw v.e) (.raw v.f))
   (fun x H => ∃ e k j l l2, calsP (kts ts) ts.length n i = .fail e k ∧ k ≤ ts.length ∧ x = failA ts len e k ∧ H = PQ ts len j l l2 (.raw v.c) (.raw v.d) (.raw v.e) (.raw v.f)) := by
 have hl := ht.len
 generalize hp : calsP (kts ts) ts.length n i = p
 replace hp := hp.symm
 refine HCtr.of_body Tryz.func12 rfl tys_ok (by kernel_rfl) rfl ?_
 conv => whnf
 repeat (first | refine ACode.seq ?_ | (refine ACode.s_reg tys_ok ?_; conv => whnf) | refine ACode.s_block ?_ | refine ACode.s_scope ?_ | (refine ACode.s_cond ?_; conv => whnf) | (refine ACode.s_exit ?_; conv => whnf) | (refine ACode.s_ret ?_; conv => whnf) | (refine ACode.s_skip ?_; conv => whnf) | (refine ACode.s_label ?_; conv => whnf))
 refine ACode.nilCell 4 3 43 3 rfl rfl ?_
 refine ACode.nilCell 4 4 9 1 rfl rfl ?_
 refine ACode.loopD (fun x : Nat × Nat × Nw => mk 65 [(0, .ptr 4 0)]) (fun x => PQ ts len x.2.1 (.own 5 3 0 x.2.2.cals.length) (.own 6 1 0 x.2.2.names.length) (.raw v.c) (.raw v.d) (.raw v.e) (.raw v.f) ++ [.arr 43 3 (x.2.2.cals.map calA), .arr 9 1 (strs x.2.2.names)])
  (fun x => p = calsP (kts ts) x.1 x.2.2 x.2.1 ∧ x.2.1 ≤ ts.length ∧ ts.length ≤ x.2.1 + x.1 ∧ x.2.2.cals.length ≤ x.2.1 ∧ x.2.2.names.length ≤ x.2.1) (fun x => x.1)
  (fun x hx => ⟨rfl, ?_⟩) ⟨(ts.length, i, n), ?_⟩ (fun _ => rfl) fun x hx => ?_
 ·(conv => whnf)
  refine ⟨rfl, ?_⟩
  (conv => whnf)
  refine ⟨closed_map _ (fun _ => rfl) _, ?_⟩
  (conv => whnf)
  exact ⟨closed_map _ (fun _ => rfl) _, trivial⟩
 ·conv => whnf
  repeat (refine And.intro ?_ ?_; (focus (first | rfl | (simp; done) | (simp [hn, hn2, PQ, oneK, strs]; done))); conv => whnf)
  exact ⟨hp, hi, by simp, by simp [hn], by simp [hn2]⟩
 ·obtain ⟨f, i, n⟩ := x
  obtain ⟨hp, hi, hf, hn, hn2⟩ := hx
  simp only at hp hi hf hn hn2
  repeat (first | refine ACode.seq ?_ | (refine ACode.s_reg tys_ok ?_; conv => whnf) | refine ACode.s_block ?_ | refine ACode.s_scope ?_ | (refine ACode.s_cond ?_; conv => whnf) | (refine ACode.s_exit ?_; conv => whnf) | (refine ACode.s_ret ?_; conv => whnf) | (refine ACode.s_skip ?_; conv => whnf) | (refine ACode.s_label ?_; conv => whnf))
  refine ACall.of_m0 (has_m ts len i w_calendar hl hi) (fun _ => rfl) rfl ?_
  conv => whnf
  repeat (first | refine ACode.seq ?_ | (refine ACode.s_reg tys_ok ?_; conv => whnf) | refine ACode.s_block ?_ | refine ACode.s_scope ?_ | (refine ACode.s_cond ?_; conv => whnf) | (refine ACode.s_exit ?_; conv => whnf) | (refine ACode.s_ret ?_; conv => whnf) | (refine ACode.s_skip ?_; conv => whnf) | (refine ACode.s_label ?_; conv => whnf))
  refine ⟨fun hs => ?_, fun hs => ?_⟩
  ·have hlt := sees_le hs
   obtain ⟨f, rfl⟩ : ∃ g, f = g + 1 := ⟨f - 1, by omega⟩
   unfold calsP calP at hp
   rw [hs, cond_true] at hp
   simp only [PR.bind_assoc, PR.ok_bind] at hp
   repeat (first | refine ACode.seq ?_ | (refine ACode.s_reg tys_ok ?_; conv => whnf) | refine ACode.s_block ?_ | refine ACode.s_scope ?_ | (refine ACode.s_cond ?_; conv => whnf) | (refine ACode.s_exit ?_; conv => whnf) | (refine ACode.s_ret ?_; conv => whnf) | (refine ACode.s_skip ?_; conv => whnf) | (refine ACode.s_label ?_; conv => whnf))
   refine ACall.of_m (word_m ts len i w_calendar hl hi) hp (fun _ => rfl) rfl (fun j e k h hk => ?_) (fun _ i1 hq hp hi => ?_)
   ·conv => whnf
    refine ⟨⟨by simp, closed_map _ (fun _ => rfl) _⟩, ?_⟩; (conv => whnf); refine ⟨⟨by simp [strs], closed_map _ (fun _ => rfl) _⟩, ?_⟩; (conv => whnf); exact ⟨_, _, _, _, _, h, hk, rfl, rfl⟩
   conv => whnf
   repeat (first | refine ACode.seq ?_ | (refine ACode.s_reg tys_ok ?_; conv => whnf) | refine ACode.s_block ?_ | refine ACode.s_scope ?_ | (refine ACode.s_cond ?_; conv => whnf) | (refine ACode.s_exit ?_; conv => whnf) | (refine ACode.s_ret ?_; conv => whnf) | (refine ACode.s_skip ?_; conv => whnf) | (refine ACode.s_label ?_; conv => whnf))
   have e1 := expect_j hq
   refine ACall.of_m (name_m ts len i1 ht hi) hp (fun _ => rfl) rfl (fun j e k h hk => ?_) (fun name i2 hq hp hi => ?_)
   ·conv => whnf
    refine ⟨⟨by simp, closed_map _ (fun _ => rfl) _⟩, ?_⟩; (conv => whnf); refine ⟨⟨by simp [strs], closed_map _ (fun _ => rfl) _⟩, ?_⟩; (conv => whnf); exact ⟨_, _, _, _, _, h, hk, rfl, rfl⟩
   conv => whnf
   repeat (first | refine ACode.seq ?_ | (refine ACode.s_reg tys_ok ?_; conv => whnf) | refine ACode.s_block ?_ | refine ACode.s_scope ?_ | (refine ACode.s_cond ?_; conv => whnf) | (refine ACode.s_exit ?_; conv => whnf) | (refine ACode.s_ret ?_; conv => whnf) | (refine ACode.s_skip ?_; conv => whnf) | (refine ACode.s_label ?_; conv => whnf))
   have e2 := name_j hq
   refine ACall.of_m (symbol_m ts len i2 s_lb hl hi) hp (fun _ => rfl) rfl (fun j e k h hk => ?_) (fun _ i3 hq hp hi => ?_)
   ·conv => whnf
    refine ⟨⟨by simp, closed_map _ (fun _ => rfl) _⟩, ?_⟩; (conv => whnf); refine ⟨⟨by simp [strs], closed_map _ (fun _ => rfl) _⟩, ?_⟩; (conv => whnf); exact ⟨_, _, _, _, _, h, hk, rfl, rfl⟩
   conv => whnf
   repeat (first | refine ACode.seq ?_ | (refine ACode.s_reg tys_ok ?_; conv => whnf) | refine ACode.s_block ?_ | refine ACode.s_scope ?_ | (refine ACode.s_cond ?_; conv => whnf) | (refine ACode.s_exit ?_; conv => whnf) | (refine ACode.s_ret ?_; conv => whnf) | (refine ACode.s_skip ?_; conv => whnf) | (refine ACode.s_label ?_; conv => whnf))
   have e3 := expect_j hq
   refine ACall.of_m (word_m ts len i3 w_zone hl hi) hp (fun _ => rfl) rfl (fun j e k h hk => ?_) (fun _ i4 hq hp hi => ?_)
   ·conv => whnf
    refine ⟨⟨by simp, closed_map _ (fun _ => rfl) _⟩, ?_⟩; (conv => whnf); refine ⟨⟨by simp [strs], closed_map _ (fun _ => rfl) _⟩, ?_⟩; (conv => whnf); exact ⟨_, _, _, _, _, h, hk, rfl, rfl⟩
   conv => whnf
   repeat (first | refine ACode.seq ?_ | (refine ACode.s_reg tys_ok ?_; conv => whnf) | refine ACode.s_block ?_ | refine ACode.s_scope ?_ | (refine ACode.s_cond ?_; conv => whnf) | (refine ACode.s_exit ?_; conv => whnf) | (refine ACode.s_ret ?_; conv => whnf) | (refine ACode.s_skip ?_; conv => whnf) | (refine ACode.s_label ?_; conv => whnf))
   have e4 := expect_j hq
   refine ACall.of_m (int_m ts len i4 ht hi) hp (fun _ => rfl) rfl (fun j e k h hk => ?_) (fun zone i5 hq hp hi => ?_)
   ·conv => whnf
    refine ⟨⟨by simp, closed_map _ (fun _ => rfl) _⟩, ?_⟩; (conv => whnf); refine ⟨⟨by simp [strs], closed_map _ (fun _ => rfl) _⟩, ?_⟩; (conv => whnf); exact ⟨_, _, _, _, _, h, hk, rfl, rfl⟩
   conv => whnf
   repeat (first | refine ACode.seq ?_ | (refine ACode.s_reg tys_ok ?_; conv => whnf) | refine ACode.s_block ?_ | refine ACode.s_scope ?_ | (refine ACode.s_cond ?_; conv => whnf) | (refine ACode.s_exit ?_; conv => whnf) | (refine ACode.s_ret ?_; conv => whnf) | (refine ACode.s_skip ?_; conv => whnf) | (refine ACode.s_label ?_; conv => whnf))
   have e5 := int_j hq
   refine ACall.of_m (symbol_m ts len i5 s_semi hl hi) hp (fun _ => rfl) rfl (fun j e k h hk => ?_) (fun _ i6 hq hp hi => ?_)
   ·conv => whnf
    refine ⟨⟨by simp, closed_map _ (fun _ => rfl) _⟩, ?_⟩; (conv => whnf); refine ⟨⟨by simp [strs], closed_map _ (fun _ => rfl) _⟩, ?_⟩; (conv => whnf); exact ⟨_, _, _, _, _, h, hk, rfl, rfl⟩
   conv => whnf
   repeat (first | refine ACode.seq ?_ | (refine ACode.s_reg tys_ok ?_; conv => whnf) | refine ACode.s_block ?_ | refine ACode.s_scope ?_ | (refine ACode.s_cond ?_; conv => whnf) | (refine ACode.s_exit ?_; conv => whnf) | (refine ACode.s_ret ?_; conv => whnf) | (refine ACode.s_skip ?_; conv => whnf) | (refine ACode.s_label ?_; conv => whnf))
   have e6 := expect_j hq
   refine ACall.of_m (word_m ts len i6 w_week hl hi) hp (fun _ => rfl) rfl (fun j e k h hk => ?_) (fun _ i7 hq hp hi => ?_)
   ·conv => whnf
    refine ⟨⟨by simp, closed_map _ (fun _ => rfl) _⟩, ?_⟩; (conv => whnf); refine ⟨⟨by simp [strs], closed_map _ (fun _ => rfl) _⟩, ?_⟩; (conv => whnf); exact ⟨_, _, _, _, _, h, hk, rfl, rfl⟩
   conv => whnf
   repeat (first | refine ACode.seq ?_ | (refine ACode.s_reg tys_ok ?_; conv => whnf) | refine ACode.s_block ?_ | refine ACode.s_scope ?_ | (refine ACode.s_cond ?_; conv => whnf) | (refine ACode.s_exit ?_; conv => whnf) | (refine ACode.s_ret ?_; conv => whnf) | (refine ACode.s_skip ?_; conv => whnf) | (refine ACode.s_label ?_; conv => whnf))
   have e7 := expect_j hq
   refine ACall.of_m (week_m ts len i7 ht hi) hp (fun _ => rfl) rfl (fun j e k h hk => ?_) (fun week i8 hq hp hi => ?_)
   ·conv => whnf
    refine ⟨⟨by simp, closed_map _ (fun _ => rfl) _⟩, ?_⟩; (conv => whnf); refine ⟨⟨by simp [strs], closed_map _ (fun _ => rfl) _⟩, ?_⟩; (conv => whnf); exact ⟨_, _, _, _, _, h, hk, rfl, rfl⟩
   conv => whnf
   repeat (first | refine ACode.seq ?_ | (refine ACode.s_reg tys_ok ?_; conv => whnf) | refine ACode.s_block ?_ | refine ACode.s_scope ?_ | (refine ACode.s_cond ?_; conv => whnf) | (refine ACode.s_exit ?_; conv => whnf) | (refine ACode.s_ret ?_; conv => whnf) | (refine ACode.s_skip ?_; conv => whnf) | (refine ACode.s_label ?_; conv => whnf))
   have e8 := week_j hq
   refine ACall.of_m (symbol_m ts len i8 s_semi hl hi) hp (fun _ => rfl) rfl (fun j e k h hk => ?_) (fun _ i9 hq hp hi => ?_)
   ·conv => whnf
    refine ⟨⟨by simp, closed_map _ (fun _ => rfl) _⟩, ?_⟩; (conv => whnf); refine ⟨⟨by simp [strs], closed_map _ (fun _ => rfl) _⟩, ?_⟩; (conv => whnf); exact ⟨_, _, _, _, _, h, hk, rfl, rfl⟩
   conv => whnf
   repeat (first | refine ACode.seq ?_ | (refine ACode.s_reg tys_ok ?_; conv => whnf) | refine ACode.s_block ?_ | refine ACode.s_scope ?_ | (refine ACode.s_cond ?_; conv => whnf) | (refine ACode.s_exit ?_; conv => whnf) | (refine ACode.s_ret ?_; conv => whnf) | (refine ACode.s_skip ?_; conv => whnf) | (refine ACode.s_label ?_; conv => whnf))
   have e9 := expect_j hq
   refine ACode.nilCell 7 2 3 1 rfl rfl ?_
   obtain ⟨R, hR, hp⟩ : ∃ R : List Int → Nat → PR Nw, R = (fun l i => (expectP (kts ts) 3 s_rb i).bind fun _ i => calsP (kts ts) f { n with cals := n.cals ++ [⟨zone, week, l⟩], names := n.names ++ [name] } i) ∧ p = (holsP (kts ts) (kts ts).length i9).bind R := ⟨_, rfl, hp⟩
   have hkl : (kts ts).length = ts.length := by simp [kts]
   repeat (first | refine ACode.seq ?_ | (refine ACode.s_reg tys_ok ?_; conv => whnf) | refine ACode.s_block ?_ | refine ACode.s_scope ?_ | (refine ACode.s_cond ?_; conv => whnf) | (refine ACode.s_exit ?_; conv => whnf) | (refine ACode.s_ret ?_; conv => whnf) | (refine ACode.s_skip ?_; conv => whnf) | (refine ACode.s_label ?_; conv => whnf))
   refine ACode.loopD (fun x : Nat × Nat × List Int => mk 65 [(0, .ptr 4 0), (2, .ptr 7 0), (3, .str name)]) (fun x => PQ ts len x.2.1 (.own 5 3 0 n.cals.length) (.own 6 1 0 n.names.length) (.raw v.c) (.raw v.d) (.raw v.e) (.raw v.f) ++ [.arr 43 3 (n.cals.map calA), .arr 9 1 (strs n.names), .cells [.int .i64 zone, .sl 1 (week.map .bool), .own 8 1 0 x.2.2.length], .arr 3 1 (x.2.2.map (.int .i64))])
    (fun x => p = ((holsP (kts ts) x.1 x.2.1).bind fun l i => R (x.2.2 ++ l) i) ∧ x.2.1 ≤ ts.length ∧ ts.length ≤ x.2.1 + x.1 ∧ x.2.2.length ≤ x.2.1 ∧ i9 ≤ x.2.1) (fun x => x.1)
    (fun x hx => ⟨rfl, ?_⟩) ⟨(ts.length, i9, []), ?_⟩ (fun _ => rfl) fun x hx => ?_
   ·(conv => whnf)
    refine ⟨rfl, ?_⟩
    (conv => whnf)
    refine ⟨closed_map _ (fun _ => rfl) _, ?_⟩
    (conv => whnf)
    refine ⟨closed_map _ (fun _ => rfl) _, ?_⟩
    (conv => whnf)
    refine ⟨rfl, ?_⟩
    (conv => whnf)
    exact ⟨closed_map _ (fun _ => rfl) _, trivial⟩
   ·conv => whnf
    repeat (refine And.intro ?_ ?_; (focus (first | rfl | (simp; done) | (simp [PQ, oneK]; done))); conv => whnf)
    refine ⟨?_, hi, by simp, by simp, Nat.le_refl _⟩
    rw [hp, hkl]
    rfl
   ·obtain ⟨g, i, acc⟩ := x
    obtain ⟨hp, hi, hf2, hacc, hi9⟩ := hx
    simp only at hp hi hf2 hacc hi9
    repeat (first | refine ACode.seq ?_ | (refine ACode.s_reg tys_ok ?_; conv => whnf) | refine ACode.s_block ?_ | refine ACode.s_scope ?_ | (refine ACode.s_cond ?_; conv => whnf) | (refine ACode.s_exit ?_; conv => whnf) | (refine ACode.s_ret ?_; conv => whnf) | (refine ACode.s_skip ?_; conv => whnf) | (refine ACode.s_label ?_; conv => whnf))
    refine ACall.of_m0 (has_m ts len i w_holiday hl hi) (fun _ => rfl) rfl ?_
    conv => whnf
    repeat (first | refine ACode.seq ?_ | (refine ACode.s_reg tys_ok ?_; conv => whnf) | refine ACode.s_block ?_ | refine ACode.s_scope ?_ | (refine ACode.s_cond ?_; conv => whnf) | (refine ACode.s_exit ?_; conv => whnf) | (refine ACode.s_ret ?_; conv => whnf) | (refine ACode.s_skip ?_; conv => whnf) | (refine ACode.s_label ?_; conv => whnf))
    refine ⟨fun hs => ?_, fun hs => ?_⟩
    ·have hlt := sees_le hs
     obtain ⟨g, rfl⟩ : ∃ g', g = g' + 1 := ⟨g - 1, by omega⟩
     unfold holsP at hp
     rw [hs, cond_true] at hp
     simp only [PR.bind_assoc, PR.ok_bind] at hp
     repeat (first | refine ACode.seq ?_ | (refine ACode.s_reg tys_ok ?_; conv => whnf) | refine ACode.s_block ?_ | refine ACode.s_scope ?_ | (refine ACode.s_cond ?_; conv => whnf) | (refine ACode.s_exit ?_; conv => whnf) | (refine ACode.s_ret ?_; conv => whnf) | (refine ACode.s_skip ?_; conv => whnf) | (refine ACode.s_label ?_; conv => whnf))
     refine ACall.of_m (word_m ts len i w_holiday hl hi) hp (fun _ => rfl) rfl (fun j e k h hk => ?_) (fun _ j1 hq hp hi => ?_)
     ·conv => whnf
      refine ⟨⟨by simp, closed_map _ (fun _ => rfl) _⟩, ?_⟩; (conv => whnf); refine ⟨⟨by simp [strs], closed_map _ (fun _ => rfl) _⟩, ?_⟩; (conv => whnf); exact ⟨_, _, _, _, _, h, hk, rfl, rfl⟩
     conv => whnf
     repeat (first | refine ACode.seq ?_ | (refine ACode.s_reg tys_ok ?_; conv => whnf) | refine ACode.s_block ?_ | refine ACode.s_scope ?_ | (refine ACode.s_cond ?_; conv => whnf) | (refine ACode.s_exit ?_; conv => whnf) | (refine ACode.s_ret ?_; conv => whnf) | (refine ACode.s_skip ?_; conv => whnf) | (refine ACode.s_label ?_; conv => whnf))
     have e11 := expect_j hq
     refine ACode.drawAll (.one 0 (.one 1 (.one 2 (.one 3 (.one 4 (.one 5 (.one 6 (.one 7 .done .none) .none) .none) .none) .none) .none) (.one 2 (.one 1 (.one 3 (.one 4 (.one 5 (.one 6 (.one 7 .done .none) .none) .none) .none) .none) (.one 3 (.one 1 (.one 4 (.one 5 (.one 6 (.one 7 .done .none) .none) .none) .none) (.one 4 (.one 1 (.one 5 (.one 6 (.one 7 .done .none) .none) .none) .none) .none)) .none)) .none)) (.one 2 (.one 0 (.one 1 (.one 3 (.one 4 (.one 5 (.one 6 (.one 7 .done .none) .none) .none) .none) .none) (.one 3 (.one 1 (.one 4 (.one 5 (.one 6 (.one 7 .done .none) .none) .none) .none) (.one 4 (.one 1 (.one 5 (.one 6 (.one 7 .done .none) .none) .none) .none) .none)) .none)) (.one 3 (.one 0 (.one 1 (.one 4 (.one 5 (.one 6 (.one 7 .done .none) .none) .none) .none) (.one 4 (.one 1 (.one 5 (.one 6 (.one 7 .done .none) .none) .none) .none) .none)) (.one 4 (.one 0 (.one 1 (.one 5 (.one 6 (.one 7 .done .none) .none) .none) .none) .none) .none)) .none)) .none)) tys_ok (by kernel_rfl) (by kernel_rfl) ?_
     repeat' (first | exact True.intro | (refine EnF.step ?_; conv => whnf) | (refine And.intro ?_ ?_ <;> conv => whnf) | (refine ACall.of_m (int_m ts len j1 ht hi) hp (fun _ => rfl) rfl (fun j e k h hk => by (conv => whnf); refine ⟨⟨by simp, closed_map _ (fun _ => rfl) _⟩, ?_⟩; (conv => whnf); refine ⟨⟨by simp [strs], closed_map _ (fun _ => rfl) _⟩, ?_⟩; (conv => whnf); exact ⟨_, _, _, _, _, h, hk, rfl, rfl⟩) (fun hol j2 hq hp hi => ?_); conv => whnf) | (show (_ : Nat) = _; first | rfl | (simp; done) | (simp; omega)) | (show (_ : Nat) ≤ _; simp; omega))
     all_goals (
      have e12 := int_j hq
      repeat (first | refine ACode.seq ?_ | (refine ACode.s_reg tys_ok ?_; conv => whnf) | refine ACode.s_block ?_ | refine ACode.s_scope ?_ | (refine ACode.s_cond ?_; conv => whnf) | (refine ACode.s_exit ?_; conv => whnf) | (refine ACode.s_ret ?_; conv => whnf) | (refine ACode.s_skip ?_; conv => whnf) | (refine ACode.s_label ?_; conv => whnf))
      refine ACall.of_m (symbol_m ts len j2 s_semi hl hi) hp (fun _ => rfl) rfl (fun j e k h hk => ?_) (fun _ j3 hq hp hi => ?_)
      ·conv => whnf
       refine ⟨⟨by simp, closed_map _ (fun _ => rfl) _⟩, ?_⟩; (conv => whnf); refine ⟨⟨by simp [strs], closed_map _ (fun _ => rfl) _⟩, ?_⟩; (conv => whnf); exact ⟨_, _, _, _, _, h, hk, rfl, rfl⟩
      conv => whnf
      repeat (first | refine ACode.seq ?_ | (refine ACode.s_reg tys_ok ?_; conv => whnf) | refine ACode.s_block ?_ | refine ACode.s_scope ?_ | (refine ACode.s_cond ?_; conv => whnf) | (refine ACode.s_exit ?_; conv => whnf) | (refine ACode.s_ret ?_; conv => whnf) | (refine ACode.s_skip ?_; conv => whnf) | (refine ACode.s_label ?_; conv => whnf))
      have e13 := expect_j hq
      refine ⟨(g, j3, acc ++ [hol]), ?_⟩
      conv => whnf
      repeat (refine And.intro ?_ ?_; (focus (first | rfl | (simp; done) | (simp; done))); conv => whnf)
      exact ⟨⟨by rw [hp]; simp only [List.append_assoc, List.singleton_append], hi, by simp only; omega, by simp; omega, by simp only; omega⟩, by simp⟩)
    ·have hp : p = R acc i := by
      rw [hp]; cases g <;> simp [holsP, hs, PR.bind]
     rw [hR] at hp
     repeat (first | refine ACode.seq ?_ | (refine ACode.s_reg tys_ok ?_; conv => whnf) | refine ACode.s_block ?_ | refine ACode.s_scope ?_ | (refine ACode.s_cond ?_; conv => whnf) | (refine ACode.s_exit ?_; conv => whnf) | (refine ACode.s_ret ?_; conv => whnf) | (refine ACode.s_skip ?_; conv => whnf) | (refine ACode.s_label ?_; conv => whnf))
     refine ACall.of_m (symbol_m ts len i s_rb hl hi) hp (fun _ => rfl) rfl (fun j e k h hk => ?_) (fun _ i11 hq hp hi => ?_)
     ·conv => whnf
      refine ⟨⟨by simp, closed_map _ (fun _ => rfl) _⟩, ?_⟩; (conv => whnf); refine ⟨⟨by simp [strs], closed_map _ (fun _ => rfl) _⟩, ?_⟩; (conv => whnf); exact ⟨_, _, _, _, _, h, hk, rfl, rfl⟩
     conv => whnf
     repeat (first | refine ACode.seq ?_ | (refine ACode.s_reg tys_ok ?_; conv => whnf) | refine ACode.s_block ?_ | refine ACode.s_scope ?_ | (refine ACode.s_cond ?_; conv => whnf) | (refine ACode.s_exit ?_; conv => whnf) | (refine ACode.s_ret ?_; conv => whnf) | (refine ACode.s_skip ?_; conv => whnf) | (refine ACode.s_label ?_; conv => whnf))
     have e11 := expect_j hq
     refine ACode.freeze 8 ?_
     conv => whnf
     refine ⟨closed_map _ (fun _ => rfl) _, ?_⟩
     conv => whnf
     repeat (refine ⟨(by first | rfl | (simp; done) : (_ : Nat) = _), ?_⟩; conv => whnf)
     refine ACode.drawI [] [8, 12] tys_ok (by kernel_rfl) (by kernel_rfl) ?_
     conv => whnf
     refine ⟨rfl, ?_⟩
     conv => whnf
     refine ⟨⟨by simp, by simp; omega⟩, ?_⟩
     conv => whnf
     repeat (first | refine ACode.seq ?_ | (refine ACode.s_reg tys_ok ?_; conv => whnf) | refine ACode.s_block ?_ | refine ACode.s_scope ?_ | (refine ACode.s_cond ?_; conv => whnf) | (refine ACode.s_exit ?_; conv => whnf) | (refine ACode.s_ret ?_; conv => whnf) | (refine ACode.s_skip ?_; conv => whnf) | (refine ACode.s_label ?_; conv => whnf))
     refine ⟨rfl, ?_⟩
     conv => whnf
     refine ⟨⟨by simp [strs], by simp [strs]; omega⟩, ?_⟩
     conv => whnf
     repeat (first | refine ACode.seq ?_ | (refine ACode.s_reg tys_ok ?_; conv => whnf) | refine ACode.s_block ?_ | refine ACode.s_scope ?_ | (refine ACode.s_cond ?_; conv => whnf) | (refine ACode.s_exit ?_; conv => whnf) | (refine ACode.s_ret ?_; conv => whnf) | (refine ACode.s_skip ?_; conv => whnf) | (refine ACode.s_label ?_; conv => whnf))
     refine ⟨(f, i11, { n with cals := n.cals ++ [⟨zone, week, acc⟩], names := n.names ++ [name] }), ?_⟩
     conv => whnf
     repeat (refine And.intro ?_ ?_; (focus (first | rfl | (simp; done) | (simp [calA, strs]; done))); conv => whnf)
     exact ⟨⟨hp, hi, by simp only; omega, by simp; omega, by simp; omega⟩, by simp⟩
  ·have hp : p = .ok n i := by
    rw [hp]; cases f <;> simp [calsP, hs]
   repeat (first | refine ACode.seq ?_ | (refine ACode.s_reg tys_ok ?_; conv => whnf) | refine ACode.s_block ?_ | refine ACode.s_scope ?_ | (refine ACode.s_cond ?_; conv => whnf) | (refine ACode.s_exit ?_; conv => whnf) | (refine ACode.s_ret ?_; conv => whnf) | (refine ACode.s_skip ?_; conv => whnf) | (refine ACode.s_label ?_; conv => whnf))
   refine ⟨⟨by simp, closed_map _ (fun _ => rfl) _⟩, ?_⟩
   conv => whnf
   refine ⟨⟨by simp, closed_map _ (fun _ => rfl) _⟩, ?_⟩
   conv => whnf
   exact ⟨_, _, hp, hi, rfl, rfl⟩
end Go.Proofs.YtmhlneeboefkgaaGreatDoor
