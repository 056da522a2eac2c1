/- A part of the proof. -/
import Derived.Test.YtbedaolpfedacaaGreatDoorNa3
import Derived.Test.YtbedaolpfedacaaGreatDoorKf3
set_option linter.unusedVariables false
set_option linter.unusedSimpArgs false
namespace Go.Proofs.YtbedaolpfedacaaGreatDoor
open Go.Av Go.Av.Net
theorem week_j {ts : List KT} {x : List Bool} {i j : Nat} (h : weekP ts i = .ok x j) : j = i + 1 := by
 unfold weekP at h
 split at h
 ·cases h
 ·rename_i t _
  cases hs : (decide (t.1 = 2) && isWeekB t.2) with
  | true => rw [hs] at h; cases h; rfl
  | false => rw [hs] at h; cases h
theorem int_j {ts : List KT} {x : Int} {i j : Nat} (h : intP ts i = .ok x j) : i + 1 ≤ j := by
 unfold intP at h
 cases hs : seesP ts 3 s_minus i with
 | true =>
  rw [hs, cond_true] at h
  cases h1 : numberP ts (i + 1) with
  | fail e k => rw [h1] at h; cases h
  | ok a i1 => rw [h1] at h; cases h; have := number_j h1; omega
 | false => rw [hs, cond_false] at h; have := number_j h; omega
set_option maxRecDepth 20000 in
set_option maxHeartbeats 4000000 in
theorem calendars_m (ts : List Tok) (len i : Nat) (n : Nw) (v : V6) (ht : TsOK ts) (hi : i ≤ ts.length) (hn : n.cals = []) (hn2 : n.names = []) :
  HCtr Tryz.prog 54 [.ptr 4 0] (PQ ts len i nilA nilA (.raw v.c) (.raw v.d) (.raw v.e) (.raw v.f))
   (fun r H => ∃ n' j, calsP (kts ts) ts.length n i = .ok n' j ∧ j ≤ ts.length ∧ r = .tuple [] ∧ H = PQ ts len j (.sl 3 (n'.cals.map calA)) (.sl 1 (strs n'.names)) (.raw v.c) (.raw v.d) (.raw v.e) (.raw v.f))
   (fun x H => ∃ e k j l l2, calsP (kts ts) ts.length n i = .fail e k ∧ k ≤ ts.length ∧ x = failA ts len e k ∧ H = PQ ts len j l l2 (.raw v.c) (.raw v.d) (.raw v.e) (.raw v.f)) := by
 have hl := ht.len
 generalize hp : calsP (kts ts) ts.length n i = p
 replace hp := hp.symm
 refine HCtr.of_body Tryz.func54 rfl tys_ok (by kernel_rfl) rfl ?_
 conv => whnf
 repeat (first | (refine ACode.st tys_ok rfl ?_; conv => whnf))
 refine ACode.nilCell 4 3 41 3 rfl rfl ?_
 refine ACode.nilCell 4 4 9 1 rfl rfl ?_
 refine ACode.loopD (fun x : Nat × Nat × Nw => mk 65 [(0, .ptr 4 0)]) (fun x => PQ ts len x.2.1 (.own 5 3 0 x.2.2.cals.length) (.own 6 1 0 x.2.2.names.length) (.raw v.c) (.raw v.d) (.raw v.e) (.raw v.f) ++ [.arr 41 3 (x.2.2.cals.map calA), .arr 9 1 (strs x.2.2.names)])
  (fun x => p = calsP (kts ts) x.1 x.2.2 x.2.1 ∧ x.2.1 ≤ ts.length ∧ ts.length ≤ x.2.1 + x.1 ∧ x.2.2.cals.length ≤ x.2.1 ∧ x.2.2.names.length ≤ x.2.1) (fun x => x.1)
  (fun x hx => ⟨rfl, ?_⟩) ⟨(ts.length, i, n), ?_⟩ (fun _ => rfl) fun x hx => ?_
 ·(conv => whnf)
  refine ⟨rfl, ?_⟩
  (conv => whnf)
  refine ⟨closed_map _ (fun _ => rfl) _, ?_⟩
  (conv => whnf)
  exact ⟨closed_map _ (fun _ => rfl) _, trivial⟩
 ·conv => whnf
  repeat (refine And.intro ?_ ?_; (focus (first | rfl | (simp; done) | (simp [hn, hn2, PQ, oneK, strs]; done))); conv => whnf)
  exact ⟨hp, hi, by simp, by simp [hn], by simp [hn2]⟩
 ·obtain ⟨f, i, n⟩ := x
  obtain ⟨hp, hi, hf, hn, hn2⟩ := hx
  simp only at hp hi hf hn hn2
  repeat (first | (refine ACode.st tys_ok rfl ?_; conv => whnf))
  refine ACall.of_m0 (has_m ts len i w_calendar hl hi) (fun _ => rfl) rfl ?_
  conv => whnf
  repeat (first | (refine ACode.st tys_ok rfl ?_; conv => whnf))
  refine ⟨fun hs => ?_, fun hs => ?_⟩
  ·have hlt := sees_le hs
   obtain ⟨f, rfl⟩ : ∃ g, f = g + 1 := ⟨f - 1, by omega⟩
   unfold calsP calP at hp
   rw [hs, cond_true] at hp
   simp only [PR.bind_assoc, PR.ok_bind] at hp
   repeat (first | (refine ACode.st tys_ok rfl ?_; conv => whnf))
   refine ACall.of_m (word_m ts len i w_calendar hl hi) hp (fun _ => rfl) rfl (fun j e k h hk => ?_) (fun _ i1 hq hp hi => ?_)
   ·conv => whnf
    refine ⟨⟨by simp, closed_map _ (fun _ => rfl) _⟩, ?_⟩; (conv => whnf); refine ⟨⟨by simp [strs], closed_map _ (fun _ => rfl) _⟩, ?_⟩; (conv => whnf); exact ⟨_, _, _, _, _, h, hk, rfl, rfl⟩
   conv => whnf
   repeat (first | (refine ACode.st tys_ok rfl ?_; conv => whnf))
   have e1 := expect_j hq
   refine ACall.of_m (name_m ts len i1 ht hi) hp (fun _ => rfl) rfl (fun j e k h hk => ?_) (fun name i2 hq hp hi => ?_)
   ·conv => whnf
    refine ⟨⟨by simp, closed_map _ (fun _ => rfl) _⟩, ?_⟩; (conv => whnf); refine ⟨⟨by simp [strs], closed_map _ (fun _ => rfl) _⟩, ?_⟩; (conv => whnf); exact ⟨_, _, _, _, _, h, hk, rfl, rfl⟩
   conv => whnf
   repeat (first | (refine ACode.st tys_ok rfl ?_; conv => whnf))
   have e2 := name_j hq
   refine ACall.of_m (symbol_m ts len i2 s_lb hl hi) hp (fun _ => rfl) rfl (fun j e k h hk => ?_) (fun _ i3 hq hp hi => ?_)
   ·conv => whnf
    refine ⟨⟨by simp, closed_map _ (fun _ => rfl) _⟩, ?_⟩; (conv => whnf); refine ⟨⟨by simp [strs], closed_map _ (fun _ => rfl) _⟩, ?_⟩; (conv => whnf); exact ⟨_, _, _, _, _, h, hk, rfl, rfl⟩
   conv => whnf
   repeat (first | (refine ACode.st tys_ok rfl ?_; conv => whnf))
   have e3 := expect_j hq
   refine ACall.of_m (word_m ts len i3 w_zone hl hi) hp (fun _ => rfl) rfl (fun j e k h hk => ?_) (fun _ i4 hq hp hi => ?_)
   ·conv => whnf
    refine ⟨⟨by simp, closed_map _ (fun _ => rfl) _⟩, ?_⟩; (conv => whnf); refine ⟨⟨by simp [strs], closed_map _ (fun _ => rfl) _⟩, ?_⟩; (conv => whnf); exact ⟨_, _, _, _, _, h, hk, rfl, rfl⟩
   conv => whnf
   repeat (first | (refine ACode.st tys_ok rfl ?_; conv => whnf))
   have e4 := expect_j hq
   refine ACall.of_m (int_m ts len i4 ht hi) hp (fun _ => rfl) rfl (fun j e k h hk => ?_) (fun zone i5 hq hp hi => ?_)
   ·conv => whnf
    refine ⟨⟨by simp, closed_map _ (fun _ => rfl) _⟩, ?_⟩; (conv => whnf); refine ⟨⟨by simp [strs], closed_map _ (fun _ => rfl) _⟩, ?_⟩; (conv => whnf); exact ⟨_, _, _, _, _, h, hk, rfl, rfl⟩
   conv => whnf
   repeat (first | (refine ACode.st tys_ok rfl ?_; conv => whnf))
   have e5 := int_j hq
   refine ACall.of_m (symbol_m ts len i5 s_semi hl hi) hp (fun _ => rfl) rfl (fun j e k h hk => ?_) (fun _ i6 hq hp hi => ?_)
   ·conv => whnf
    refine ⟨⟨by simp, closed_map _ (fun _ => rfl) _⟩, ?_⟩; (conv => whnf); refine ⟨⟨by simp [strs], closed_map _ (fun _ => rfl) _⟩, ?_⟩; (conv => whnf); exact ⟨_, _, _, _, _, h, hk, rfl, rfl⟩
   conv => whnf
   repeat (first | (refine ACode.st tys_ok rfl ?_; conv => whnf))
   have e6 := expect_j hq
   refine ACall.of_m (word_m ts len i6 w_week hl hi) hp (fun _ => rfl) rfl (fun j e k h hk => ?_) (fun _ i7 hq hp hi => ?_)
   ·conv => whnf
    refine ⟨⟨by simp, closed_map _ (fun _ => rfl) _⟩, ?_⟩; (conv => whnf); refine ⟨⟨by simp [strs], closed_map _ (fun _ => rfl) _⟩, ?_⟩; (conv => whnf); exact ⟨_, _, _, _, _, h, hk, rfl, rfl⟩
   conv => whnf
   repeat (first | (refine ACode.st tys_ok rfl ?_; conv => whnf))
   have e7 := expect_j hq
   refine ACall.of_m (week_m ts len i7 ht hi) hp (fun _ => rfl) rfl (fun j e k h hk => ?_) (fun week i8 hq hp hi => ?_)
   ·conv => whnf
    refine ⟨⟨by simp, closed_map _ (fun _ => rfl) _⟩, ?_⟩; (conv => whnf); refine ⟨⟨by simp [strs], closed_map _ (fun _ => rfl) _⟩, ?_⟩; (conv => whnf); exact ⟨_, _, _, _, _, h, hk, rfl, rfl⟩
   conv => whnf
   repeat (first | (refine ACode.st tys_ok rfl ?_; conv => whnf))
   have e8 := week_j hq
   refine ACall.of_m (symbol_m ts len i8 s_semi hl hi) hp (fun _ => rfl) rfl (fun j e k h hk => ?_) (fun _ i9 hq hp hi => ?_)
   ·conv => whnf
    refine ⟨⟨by simp, closed_map _ (fun _ => rfl) _⟩, ?_⟩; (conv => whnf); refine ⟨⟨by simp [strs], closed_map _ (fun _ => rfl) _⟩, ?_⟩; (conv => whnf); exact ⟨_, _, _, _, _, h, hk, rfl, rfl⟩
   conv => whnf
   repeat (first | (refine ACode.st tys_ok rfl ?_; conv => whnf))
   have e9 := expect_j hq
   refine ACode.nilCell 7 2 3 1 rfl rfl ?_
   obtain ⟨R, hR, hp⟩ : ∃ R : List Int → Nat → PR Nw, R = (fun l i => (expectP (kts ts) 3 s_rb i).bind fun _ i => calsP (kts ts) f { n with cals := n.cals ++ [⟨zone, week, l⟩], names := n.names ++ [name] } i) ∧ p = (holsP (kts ts) (kts ts).length i9).bind R := ⟨_, rfl, hp⟩
   have hkl : (kts ts).length = ts.length := by simp [kts]
   repeat (first | (refine ACode.st tys_ok rfl ?_; conv => whnf))
   refine ACode.loopD (fun x : Nat × Nat × List Int => mk 65 [(0, .ptr 4 0), (2, .ptr 7 0), (3, .str name)]) (fun x => PQ ts len x.2.1 (.own 5 3 0 n.cals.length) (.own 6 1 0 n.names.length) (.raw v.c) (.raw v.d) (.raw v.e) (.raw v.f) ++ [.arr 41 3 (n.cals.map calA), .arr 9 1 (strs n.names), .cells [.int .i64 zone, .sl 1 (week.map .bool), .own 8 1 0 x.2.2.length], .arr 3 1 (x.2.2.map (.int .i64))])
    (fun x => p = ((holsP (kts ts) x.1 x.2.1).bind fun l i => R (x.2.2 ++ l) i) ∧ x.2.1 ≤ ts.length ∧ ts.length ≤ x.2.1 + x.1 ∧ x.2.2.length ≤ x.2.1 ∧ i9 ≤ x.2.1) (fun x => x.1)
    (fun x hx => ⟨rfl, ?_⟩) ⟨(ts.length, i9, []), ?_⟩ (fun _ => rfl) fun x hx => ?_
   ·(conv => whnf)
    refine ⟨rfl, ?_⟩
    (conv => whnf)
    refine ⟨closed_map _ (fun _ => rfl) _, ?_⟩
    (conv => whnf)
    refine ⟨closed_map _ (fun _ => rfl) _, ?_⟩
    (conv => whnf)
    refine ⟨rfl, ?_⟩
    (conv => whnf)
    exact ⟨closed_map _ (fun _ => rfl) _, trivial⟩
   ·conv => whnf
    repeat (refine And.intro ?_ ?_; (focus (first | rfl | (simp; done) | (simp [PQ, oneK]; done))); conv => whnf)
    refine ⟨?_, hi, by simp, by simp, Nat.le_refl _⟩
    rw [hp, hkl]
    rfl
   ·obtain ⟨g, i, acc⟩ := x
    obtain ⟨hp, hi, hf2, hacc, hi9⟩ := hx
    simp only at hp hi hf2 hacc hi9
    repeat (first | (refine ACode.st tys_ok rfl ?_; conv => whnf))
    refine ACall.of_m0 (has_m ts len i w_holiday hl hi) (fun _ => rfl) rfl ?_
    conv => whnf
    repeat (first | (refine ACode.st tys_ok rfl ?_; conv => whnf))
    refine ⟨fun hs => ?_, fun hs => ?_⟩
    ·have hlt := sees_le hs
     obtain ⟨g, rfl⟩ : ∃ g', g = g' + 1 := ⟨g - 1, by omega⟩
     unfold holsP at hp
     rw [hs, cond_true] at hp
     simp only [PR.bind_assoc, PR.ok_bind] at hp
     repeat (first | (refine ACode.st tys_ok rfl ?_; conv => whnf))
     refine ACall.of_m (word_m ts len i w_holiday hl hi) hp (fun _ => rfl) rfl (fun j e k h hk => ?_) (fun _ j1 hq hp hi => ?_)
     ·conv => whnf
      refine ⟨⟨by simp, closed_map _ (fun _ => rfl) _⟩, ?_⟩; (conv => whnf); refine ⟨⟨by simp [strs], closed_map _ (fun _ => rfl) _⟩, ?_⟩; (conv => whnf); exact ⟨_, _, _, _, _, h, hk, rfl, rfl⟩
     conv => whnf
     repeat (first | (refine ACode.st tys_ok rfl ?_; conv => whnf))
     have e11 := expect_j hq
     refine ACode.drawAll (.one 0 (.one 1 (.one 2 (.one 3 (.one 4 (.one 5 (.one 6 (.one 7 .done .none) .none) .none) .none) .none) .none) (.one 2 (.one 1 (.one 3 (.one 4 (.one 5 (.one 6 (.one 7 .done .none) .none) .none) .none) .none) (.one 3 (.one 1 (.one 4 (.one 5 (.one 6 (.one 7 .done .none) .none) .none) .none) (.one 4 (.one 1 (.one 5 (.one 6 (.one 7 .done .none) .none) .none) .none) .none)) .none)) .none)) (.one 2 (.one 0 (.one 1 (.one 3 (.one 4 (.one 5 (.one 6 (.one 7 .done .none) .none) .none) .none) .none) (.one 3 (.one 1 (.one 4 (.one 5 (.one 6 (.one 7 .done .none) .none) .none) .none) (.one 4 (.one 1 (.one 5 (.one 6 (.one 7 .done .none) .none) .none) .none) .none)) .none)) (.one 3 (.one 0 (.one 1 (.one 4 (.one 5 (.one 6 (.one 7 .done .none) .none) .none) .none) (.one 4 (.one 1 (.one 5 (.one 6 (.one 7 .done .none) .none) .none) .none) .none)) (.one 4 (.one 0 (.one 1 (.one 5 (.one 6 (.one 7 .done .none) .none) .none) .none) .none) .none)) .none)) .none)) tys_ok (by kernel_rfl) (by kernel_rfl) ?_
     repeat' (first | exact True.intro | (refine EnF.step ?_; conv => whnf) | (refine And.intro ?_ ?_ <;> conv => whnf) | (refine ACall.of_m (int_m ts len j1 ht hi) hp (fun _ => rfl) rfl (fun j e k h hk => by (conv => whnf); refine ⟨⟨by simp, closed_map _ (fun _ => rfl) _⟩, ?_⟩; (conv => whnf); refine ⟨⟨by simp [strs], closed_map _ (fun _ => rfl) _⟩, ?_⟩; (conv => whnf); exact ⟨_, _, _, _, _, h, hk, rfl, rfl⟩) (fun hol j2 hq hp hi => ?_); conv => whnf) | (show (_ : Nat) = _; first | rfl | (simp; done) | (simp; omega)) | (show (_ : Nat) ≤ _; simp; omega))
     all_goals (
      have e12 := int_j hq
      repeat (first | (refine ACode.st tys_ok rfl ?_; conv => whnf))
      refine ACall.of_m (symbol_m ts len j2 s_semi hl hi) hp (fun _ => rfl) rfl (fun j e k h hk => ?_) (fun _ j3 hq hp hi => ?_)
      ·conv => whnf
       refine ⟨⟨by simp, closed_map _ (fun _ => rfl) _⟩, ?_⟩; (conv => whnf); refine ⟨⟨by simp [strs], closed_map _ (fun _ => rfl) _⟩, ?_⟩; (conv => whnf); exact ⟨_, _, _, _, _, h, hk, rfl, rfl⟩
      conv => whnf
      repeat (first | (refine ACode.st tys_ok rfl ?_; conv => whnf))
      have e13 := expect_j hq
      refine ⟨(g, j3, acc ++ [hol]), ?_⟩
      conv => whnf
      repeat (refine And.intro ?_ ?_; (focus (first | rfl | (simp; done) | (simp; done))); conv => whnf)
      exact ⟨⟨by rw [hp]; simp only [List.append_assoc, List.singleton_append], hi, by simp only; omega, by simp; omega, by simp only; omega⟩, by simp⟩)
    ·have hp : p = R acc i := by
      rw [hp]; cases g <;> simp [holsP, hs, PR.bind]
     rw [hR] at hp
     repeat (first | (refine ACode.st tys_ok rfl ?_; conv => whnf))
     refine ACall.of_m (symbol_m ts len i s_rb hl hi) hp (fun _ => rfl) rfl (fun j e k h hk => ?_) (fun _ i11 hq hp hi => ?_)
     ·conv => whnf
      refine ⟨⟨by simp, closed_map _ (fun _ => rfl) _⟩, ?_⟩; (conv => whnf); refine ⟨⟨by simp [strs], closed_map _ (fun _ => rfl) _⟩, ?_⟩; (conv => whnf); exact ⟨_, _, _, _, _, h, hk, rfl, rfl⟩
     conv => whnf
     repeat (first | (refine ACode.st tys_ok rfl ?_; conv => whnf))
     have e11 := expect_j hq
     refine ACode.freeze 8 ?_
     conv => whnf
     refine ⟨closed_map _ (fun _ => rfl) _, ?_⟩
     conv => whnf
     repeat (refine ⟨(by first | rfl | (simp; done) : (_ : Nat) = _), ?_⟩; conv => whnf)
     refine ACode.drawI [] [8, 12] tys_ok (by kernel_rfl) (by kernel_rfl) ?_
     conv => whnf
     refine ⟨rfl, ?_⟩
     conv => whnf
     refine ⟨⟨by simp, by simp; omega⟩, ?_⟩
     conv => whnf
     repeat (first | (refine ACode.st tys_ok rfl ?_; conv => whnf))
     refine ⟨rfl, ?_⟩
     conv => whnf
     refine ⟨⟨by simp [strs], by simp [strs]; omega⟩, ?_⟩
     conv => whnf
     repeat (first | (refine ACode.st tys_ok rfl ?_; conv => whnf))
     refine ⟨(f, i11, { n with cals := n.cals ++ [⟨zone, week, acc⟩], names := n.names ++ [name] }), ?_⟩
     conv => whnf
     repeat (refine And.intro ?_ ?_; (focus (first | rfl | (simp; done) | (simp [calA, strs]; done))); conv => whnf)
     exact ⟨⟨hp, hi, by simp only; omega, by simp; omega, by simp; omega⟩, by simp⟩
  ·have hp : p = .ok n i := by
    rw [hp]; cases f <;> simp [calsP, hs]
   repeat (first | (refine ACode.st tys_ok rfl ?_; conv => whnf))
   refine ⟨⟨by simp, closed_map _ (fun _ => rfl) _⟩, ?_⟩
   conv => whnf
   refine ⟨⟨by simp, closed_map _ (fun _ => rfl) _⟩, ?_⟩
   conv => whnf
   exact ⟨_, _, hp, hi, rfl, rfl⟩
end Go.Proofs.YtbedaolpfedacaaGreatDoor
namespace Go.Proofs.YtbedaolpfedacaaGreatDoor
open Go.Av Go.Av.Net
theorem code_j {ts : List KT} {x : Bs} {i j : Nat} (h : codeP ts i = .ok x j) : j = i + 1 := by
 unfold codeP at h
 split at h
 ·cases h
 ·rename_i t _
  cases hs : ((decide (t.1 = 1) || decide (t.1 = 2)) && isCodeB t.2) with
  | true => rw [hs] at h; cases h; rfl
  | false => rw [hs] at h; cases h
set_option maxRecDepth 20000 in
set_option maxHeartbeats 4000000 in
theorem offices_m (ts : List Tok) (len i : Nat) (n : Nw) (v : V6) (ht : TsOK ts) (hi : i ≤ ts.length) (hn : n.offs = []) (hno : n.opers.length ≤ 3000) (hnn : n.names.length ≤ 3000) :
  HCtr Tryz.prog 56 [.ptr 4 0] (PQ ts len i (.raw v.a) (.sl 1 (strs n.names)) (.sl 1 (n.opers.map operA)) nilA (.raw v.e) (.raw v.f))
   (fun r H => ∃ n' j, offsP (kts ts) ts.length n i = .ok n' j ∧ j ≤ ts.length ∧ r = .tuple [] ∧ H = PQ ts len j (.raw v.a) (.sl 1 (strs n.names)) (.sl 1 (n.opers.map operA)) (.sl 7 (n'.offs.map offA)) (.raw v.e) (.raw v.f))
   (fun x H => ∃ e k j l, offsP (kts ts) ts.length n i = .fail e k ∧ k ≤ ts.length ∧ x = failA ts len e k ∧ H = PQ ts len j (.raw v.a) (.sl 1 (strs n.names)) (.sl 1 (n.opers.map operA)) l (.raw v.e) (.raw v.f)) := by
 have hl := ht.len
 generalize hnm : n.names = names at *
 generalize hop : n.opers = opers at *
 generalize hp : offsP (kts ts) ts.length n i = p
 replace hp := hp.symm
 refine HCtr.of_body Tryz.func56 rfl tys_ok (by kernel_rfl) rfl ?_
 conv => whnf
 repeat (first | (refine ACode.st tys_ok rfl ?_; conv => whnf))
 refine ACode.nilCell 4 6 43 7 rfl rfl ?_
 refine ACode.loopD (fun x : Nat × Nat × Nw => mk 82 [(0, .ptr 4 0)]) (fun x => PQ ts len x.2.1 (.raw v.a) (.sl 1 (strs names)) (.sl 1 (opers.map operA)) (.own 5 7 0 x.2.2.offs.length) (.raw v.e) (.raw v.f) ++ [.arr 43 7 (x.2.2.offs.map offA)])
  (fun x => p = offsP (kts ts) x.1 x.2.2 x.2.1 ∧ x.2.1 ≤ ts.length ∧ ts.length ≤ x.2.1 + x.1 ∧ x.2.2.offs.length ≤ x.2.1 ∧ x.2.2.names = names ∧ x.2.2.opers = opers) (fun x => x.1)
  (fun x hx => ⟨rfl, ?_⟩) ⟨(ts.length, i, n), ?_⟩ (fun _ => rfl) fun x hx => ?_
 ·(conv => whnf)
  refine ⟨rfl, ?_⟩
  (conv => whnf)
  exact ⟨closed_map _ (fun _ => rfl) _, trivial⟩
 ·conv => whnf
  repeat (refine And.intro ?_ ?_; (focus (first | rfl | (simp; done) | (simp [hn, PQ, oneK]; done))); conv => whnf)
  exact ⟨hp, hi, by simp, by simp [hn], hnm, hop⟩
 ·obtain ⟨f, i, n⟩ := x
  obtain ⟨hp, hi, hf, hn, hnm, hop⟩ := hx
  simp only at hp hi hf hn hnm hop
  repeat (first | (refine ACode.st tys_ok rfl ?_; conv => whnf))
  refine ACall.of_m0 (has_m ts len i w_office hl hi) (fun _ => rfl) rfl ?_
  conv => whnf
  repeat (first | (refine ACode.st tys_ok rfl ?_; conv => whnf))
  refine ⟨fun hs => ?_, fun hs => ?_⟩
  ·have hlt := sees_le hs
   obtain ⟨f, rfl⟩ : ∃ g, f = g + 1 := ⟨f - 1, by omega⟩
   unfold offsP offP at hp
   rw [hs, cond_true] at hp
   simp only [PR.bind_assoc, PR.ok_bind, hnm, hop] at hp
   repeat (first | (refine ACode.st tys_ok rfl ?_; conv => whnf))
   refine ACall.of_m (word_m ts len i w_office hl hi) hp (fun _ => rfl) rfl (fun j e k h hk => ?_) (fun _ i1 hq hp hi => ?_)
   ·conv => whnf
    refine ⟨⟨by simp, closed_map _ (fun _ => rfl) _⟩, ?_⟩; (conv => whnf); exact ⟨_, _, _, _, h, hk, rfl, rfl⟩
   conv => whnf
   repeat (first | (refine ACode.st tys_ok rfl ?_; conv => whnf))
   have e1 := expect_j hq
   refine ACall.of_m (name_m ts len i1 ht hi) hp (fun _ => rfl) rfl (fun j e k h hk => ?_) (fun name i2 hq hp hi => ?_)
   ·conv => whnf
    refine ⟨⟨by simp, closed_map _ (fun _ => rfl) _⟩, ?_⟩; (conv => whnf); exact ⟨_, _, _, _, h, hk, rfl, rfl⟩
   conv => whnf
   repeat (first | (refine ACode.st tys_ok rfl ?_; conv => whnf))
   have e2 := name_j hq
   refine ACall.of_m (symbol_m ts len i2 s_lb hl hi) hp (fun _ => rfl) rfl (fun j e k h hk => ?_) (fun _ i3 hq hp hi => ?_)
   ·conv => whnf
    refine ⟨⟨by simp, closed_map _ (fun _ => rfl) _⟩, ?_⟩; (conv => whnf); exact ⟨_, _, _, _, h, hk, rfl, rfl⟩
   conv => whnf
   repeat (first | (refine ACode.st tys_ok rfl ?_; conv => whnf))
   have e3 := expect_j hq
   refine ACall.of_m (word_m ts len i3 w_operator hl hi) hp (fun _ => rfl) rfl (fun j e k h hk => ?_) (fun _ i4 hq hp hi => ?_)
   ·conv => whnf
    refine ⟨⟨by simp, closed_map _ (fun _ => rfl) _⟩, ?_⟩; (conv => whnf); exact ⟨_, _, _, _, h, hk, rfl, rfl⟩
   conv => whnf
   repeat (first | (refine ACode.st tys_ok rfl ?_; conv => whnf))
   have e4 := expect_j hq
   refine ACall.of_m (refOper_m ts len i4 opers ht hi hno) hp (fun _ => rfl) rfl (fun j e k h hk => ?_) (fun oper i5 hq hp hi => ?_)
   ·conv => whnf
    refine ⟨⟨by simp, closed_map _ (fun _ => rfl) _⟩, ?_⟩; (conv => whnf); exact ⟨_, _, _, _, h, hk, rfl, rfl⟩
   conv => whnf
   repeat (first | (refine ACode.st tys_ok rfl ?_; conv => whnf))
   have e5 := ref_j hq
   refine ACall.of_m (symbol_m ts len i5 s_semi hl hi) hp (fun _ => rfl) rfl (fun j e k h hk => ?_) (fun _ i6 hq hp hi => ?_)
   ·conv => whnf
    refine ⟨⟨by simp, closed_map _ (fun _ => rfl) _⟩, ?_⟩; (conv => whnf); exact ⟨_, _, _, _, h, hk, rfl, rfl⟩
   conv => whnf
   repeat (first | (refine ACode.st tys_ok rfl ?_; conv => whnf))
   have e6 := expect_j hq
   refine ACall.of_m (word_m ts len i6 w_calendar hl hi) hp (fun _ => rfl) rfl (fun j e k h hk => ?_) (fun _ i7 hq hp hi => ?_)
   ·conv => whnf
    refine ⟨⟨by simp, closed_map _ (fun _ => rfl) _⟩, ?_⟩; (conv => whnf); exact ⟨_, _, _, _, h, hk, rfl, rfl⟩
   conv => whnf
   repeat (first | (refine ACode.st tys_ok rfl ?_; conv => whnf))
   have e7 := expect_j hq
   refine ACall.of_m (refName_m ts len i7 names ht hi hnn) hp (fun _ => rfl) rfl (fun j e k h hk => ?_) (fun cal i8 hq hp hi => ?_)
   ·conv => whnf
    refine ⟨⟨by simp, closed_map _ (fun _ => rfl) _⟩, ?_⟩; (conv => whnf); exact ⟨_, _, _, _, h, hk, rfl, rfl⟩
   conv => whnf
   repeat (first | (refine ACode.st tys_ok rfl ?_; conv => whnf))
   have e8 := ref_j hq
   refine ACall.of_m (symbol_m ts len i8 s_semi hl hi) hp (fun _ => rfl) rfl (fun j e k h hk => ?_) (fun _ i9 hq hp hi => ?_)
   ·conv => whnf
    refine ⟨⟨by simp, closed_map _ (fun _ => rfl) _⟩, ?_⟩; (conv => whnf); exact ⟨_, _, _, _, h, hk, rfl, rfl⟩
   conv => whnf
   repeat (first | (refine ACode.st tys_ok rfl ?_; conv => whnf))
   have e9 := expect_j hq
   refine ACall.of_m (field_m ts len i9 w_pockets ht hi) hp (fun _ => rfl) rfl (fun j e k h hk => ?_) (fun pockets i10 hq hp hi => ?_)
   ·conv => whnf
    refine ⟨⟨by simp, closed_map _ (fun _ => rfl) _⟩, ?_⟩; (conv => whnf); exact ⟨_, _, _, _, h, hk, rfl, rfl⟩
   conv => whnf
   repeat (first | (refine ACode.st tys_ok rfl ?_; conv => whnf))
   have e10 := field_lt hq
   refine ACall.of_m (field_m ts len i10 w_passes ht hi) hp (fun _ => rfl) rfl (fun j e k h hk => ?_) (fun passes i11 hq hp hi => ?_)
   ·conv => whnf
    refine ⟨⟨by simp, closed_map _ (fun _ => rfl) _⟩, ?_⟩; (conv => whnf); exact ⟨_, _, _, _, h, hk, rfl, rfl⟩
   conv => whnf
   repeat (first | (refine ACode.st tys_ok rfl ?_; conv => whnf))
   have e11 := field_lt hq
   refine ACall.of_m (field_m ts len i11 w_minutes ht hi) hp (fun _ => rfl) rfl (fun j e k h hk => ?_) (fun minutes i12 hq hp hi => ?_)
   ·conv => whnf
    refine ⟨⟨by simp, closed_map _ (fun _ => rfl) _⟩, ?_⟩; (conv => whnf); exact ⟨_, _, _, _, h, hk, rfl, rfl⟩
   conv => whnf
   repeat (first | (refine ACode.st tys_ok rfl ?_; conv => whnf))
   have e12 := field_lt hq
   obtain ⟨R, hR, hp⟩ : ∃ R : List Bs → Nat → PR Nw, R = (fun l i => (expectP (kts ts) 3 s_rb i).bind fun _ i => offsP (kts ts) f { n with names := names, opers := opers, offs := n.offs ++ [⟨name, oper, cal, pockets, passes, minutes, l⟩] } i) ∧ p = (codesAllP (kts ts) i12).bind R := ⟨_, rfl, hp⟩
   have hkl : (kts ts).length = ts.length := by simp [kts]
   refine ACall.nilCell 6 6 9 1 rfl rfl ?_
   refine ACall.of_m0 (has_m ts len i12 w_codes hl hi) (fun _ => rfl) rfl ?_
   conv => whnf
   repeat (first | (refine ACode.st tys_ok rfl ?_; conv => whnf))
   refine ⟨fun hs => ?_, fun hs => ?_⟩
   ·unfold codesAllP at hp
    rw [hs, cond_true] at hp
    simp only [PR.bind_assoc, PR.ok_bind] at hp
    repeat (first | (refine ACode.st tys_ok rfl ?_; conv => whnf))
    refine ACall.of_m (word_m ts len i12 w_codes hl hi) hp (fun _ => rfl) rfl (fun j e k h hk => ?_) (fun _ i13 hq hp hi => ?_)
    ·conv => whnf
     refine ⟨⟨by simp, closed_map _ (fun _ => rfl) _⟩, ?_⟩; (conv => whnf); exact ⟨_, _, _, _, h, hk, rfl, rfl⟩
    conv => whnf
    repeat (first | (refine ACode.st tys_ok rfl ?_; conv => whnf))
    have e13 := expect_j hq
    refine ACode.cutK (fun x : Bs × Nat => mk 82 [(0, .ptr 4 0), (2, .ptr 6 0)]) (fun x => PQ ts len x.2 (.raw v.a) (.sl 1 (strs names)) (.sl 1 (opers.map operA)) (.own 5 7 0 n.offs.length) (.raw v.e) (.raw v.f) ++ [.arr 43 7 (n.offs.map offA), .cells [.str name, .int .i64 oper, .int .i64 cal, .int .i64 pockets, .int .i64 passes, .int .i64 minutes, .own 7 1 0 1], .arr 9 1 (strs [x.1])]) (fun x => p = ((codesP (kts ts) ((kts ts).length + 1) x.2).bind fun l i => (expectP (kts ts) 3 s_semi i).bind fun _ i => R ([x.1] ++ l) i) ∧ x.2 ≤ ts.length ∧ i13 < x.2) (fun x hx => ⟨rfl, ?_⟩) (fun _ => by simp [PQ, oneK]) ?_ fun x hx => ?_
    ·(conv => whnf)
     refine ⟨rfl, ?_⟩
     (conv => whnf)
     refine ⟨closed_map _ (fun _ => rfl) _, ?_⟩
     (conv => whnf)
     refine ⟨rfl, ?_⟩
     (conv => whnf)
     exact ⟨closed_map _ (fun _ => rfl) _, trivial⟩
    ·refine ACode.drawAll (.one 0 (.one 1 (.one 2 (.one 3 (.one 4 (.one 5 (.one 6 (.one 7 .done .none) .none) .none) .none) .none) .none) (.one 2 (.one 1 (.one 3 (.one 4 (.one 5 (.one 6 (.one 7 .done .none) .none) .none) .none) .none) (.one 3 (.one 1 (.one 4 (.one 5 (.one 6 (.one 7 .done .none) .none) .none) .none) (.one 4 (.one 1 (.one 5 (.one 6 (.one 7 .done .none) .none) .none) .none) .none)) .none)) .none)) (.one 2 (.one 0 (.one 1 (.one 3 (.one 4 (.one 5 (.one 6 (.one 7 .done .none) .none) .none) .none) .none) (.one 3 (.one 1 (.one 4 (.one 5 (.one 6 (.one 7 .done .none) .none) .none) .none) (.one 4 (.one 1 (.one 5 (.one 6 (.one 7 .done .none) .none) .none) .none) .none)) .none)) (.one 3 (.one 0 (.one 1 (.one 4 (.one 5 (.one 6 (.one 7 .done .none) .none) .none) .none) (.one 4 (.one 1 (.one 5 (.one 6 (.one 7 .done .none) .none) .none) .none) .none)) (.one 4 (.one 0 (.one 1 (.one 5 (.one 6 (.one 7 .done .none) .none) .none) .none) .none) .none)) .none)) .none)) tys_ok (by kernel_rfl) (by kernel_rfl) ?_
     repeat' (first | exact True.intro | (refine EnF.step ?_; conv => whnf) | (refine And.intro ?_ ?_ <;> conv => whnf) | (refine ACall.of_m (code_m ts len i13 ht hi) hp (fun _ => rfl) rfl (fun j e k h hk => by (conv => whnf); refine ⟨⟨by simp, closed_map _ (fun _ => rfl) _⟩, ?_⟩; (conv => whnf); exact ⟨_, _, _, _, h, hk, rfl, rfl⟩) (fun c j2 hq hp hi => ?_); conv => whnf) | (show (_ : Nat) = _; first | rfl | (simp; done) | (simp; omega)) | (show (_ : Nat) ≤ _; first | (simp; done) | (simp; omega)))
     all_goals (
      have e14 := code_j hq
      refine ⟨(c, j2), ?_⟩
      conv => whnf
      repeat (refine And.intro ?_ ?_; (focus (first | rfl | (simp; done) | (simp [strs]; done))); conv => whnf)
      exact ⟨hp, hi, by simp only; omega⟩)
    obtain ⟨c, i14⟩ := x
    obtain ⟨hp, hi, e14⟩ := hx
    simp only at hp hi e14
    repeat (first | (refine ACode.st tys_ok rfl ?_; conv => whnf))
    refine ACode.loopD (fun x : Nat × Nat × List Bs => mk 82 [(0, .ptr 4 0), (2, .ptr 6 0)]) (fun x => PQ ts len x.2.1 (.raw v.a) (.sl 1 (strs names)) (.sl 1 (opers.map operA)) (.own 5 7 0 n.offs.length) (.raw v.e) (.raw v.f) ++ [.arr 43 7 (n.offs.map offA), .cells [.str name, .int .i64 oper, .int .i64 cal, .int .i64 pockets, .int .i64 passes, .int .i64 minutes, .own 7 1 0 x.2.2.length], .arr 9 1 (strs x.2.2)])
     (fun x => p = ((codesP (kts ts) x.1 x.2.1).bind fun l i => (expectP (kts ts) 3 s_semi i).bind fun _ i => R (x.2.2 ++ l) i) ∧ x.2.1 ≤ ts.length ∧ ts.length < x.2.1 + x.1 ∧ x.2.2.length ≤ x.2.1 ∧ i12 < x.2.1) (fun x => x.1)
     (fun x hx => ⟨rfl, ?_⟩) ⟨((kts ts).length + 1, i14, [c]), ?_⟩ (fun _ => rfl) fun x hx => ?_
    ·(conv => whnf)
     refine ⟨rfl, ?_⟩
     (conv => whnf)
     refine ⟨closed_map _ (fun _ => rfl) _, ?_⟩
     (conv => whnf)
     refine ⟨rfl, ?_⟩
     (conv => whnf)
     exact ⟨closed_map _ (fun _ => rfl) _, trivial⟩
    ·conv => whnf
     repeat (refine And.intro ?_ ?_; (focus (first | rfl | (simp; done) | (simp [PQ, oneK, strs]; done))); conv => whnf)
     exact ⟨hp, hi, by rw [hkl]; simp only; omega, by simp; omega, by simp only; omega⟩
    ·obtain ⟨g, i, acc⟩ := x
     obtain ⟨hp, hi, hf2, hacc, hi9⟩ := hx
     simp only at hp hi hf2 hacc hi9
     repeat (first | (refine ACode.st tys_ok rfl ?_; conv => whnf))
     refine ACall.of_m0 (hasSymbol_m ts len i s_semi hl hi) (fun _ => rfl) rfl ?_
     conv => whnf
     repeat (first | (refine ACode.st tys_ok rfl ?_; conv => whnf))
     obtain ⟨g, rfl⟩ : ∃ g', g = g' + 1 := ⟨g - 1, by omega⟩
     refine ⟨fun hs => ?_, fun hs => ?_⟩
     ·have hs : seesP (kts ts) 3 s_semi i = false := by simpa using hs
      unfold codesP at hp
      rw [hs, cond_false] at hp
      simp only [PR.bind_assoc, PR.ok_bind] at hp
      repeat (first | (refine ACode.st tys_ok rfl ?_; conv => whnf))
      refine ACode.drawAll (.one 0 (.one 1 (.one 2 (.one 3 (.one 4 (.one 5 (.one 6 (.one 7 .done .none) .none) .none) .none) .none) .none) (.one 2 (.one 1 (.one 3 (.one 4 (.one 5 (.one 6 (.one 7 .done .none) .none) .none) .none) .none) (.one 3 (.one 1 (.one 4 (.one 5 (.one 6 (.one 7 .done .none) .none) .none) .none) (.one 4 (.one 1 (.one 5 (.one 6 (.one 7 .done .none) .none) .none) .none) .none)) .none)) .none)) (.one 2 (.one 0 (.one 1 (.one 3 (.one 4 (.one 5 (.one 6 (.one 7 .done .none) .none) .none) .none) .none) (.one 3 (.one 1 (.one 4 (.one 5 (.one 6 (.one 7 .done .none) .none) .none) .none) (.one 4 (.one 1 (.one 5 (.one 6 (.one 7 .done .none) .none) .none) .none) .none)) .none)) (.one 3 (.one 0 (.one 1 (.one 4 (.one 5 (.one 6 (.one 7 .done .none) .none) .none) .none) (.one 4 (.one 1 (.one 5 (.one 6 (.one 7 .done .none) .none) .none) .none) .none)) (.one 4 (.one 0 (.one 1 (.one 5 (.one 6 (.one 7 .done .none) .none) .none) .none) .none) .none)) .none)) .none)) tys_ok (by kernel_rfl) (by kernel_rfl) ?_
      repeat' (first | exact True.intro | (refine EnF.step ?_; conv => whnf) | (refine And.intro ?_ ?_ <;> conv => whnf) | (refine ACall.of_m (code_m ts len i ht hi) hp (fun _ => rfl) rfl (fun j e k h hk => by (conv => whnf); refine ⟨⟨by simp, closed_map _ (fun _ => rfl) _⟩, ?_⟩; (conv => whnf); exact ⟨_, _, _, _, h, hk, rfl, rfl⟩) (fun c j2 hq hp hi => ?_); conv => whnf) | (show (_ : Nat) = _; first | rfl | (simp; done) | (simp; omega)) | (show (_ : Nat) ≤ _; first | (simp; done) | (simp; omega)))
      all_goals (
       have e14 := code_j hq
       repeat (first | (refine ACode.st tys_ok rfl ?_; conv => whnf))
       refine ⟨(g, j2, acc ++ [c]), ?_⟩
       conv => whnf
       repeat (refine And.intro ?_ ?_; (focus (first | rfl | (simp; done) | (simp [strs]; done))); conv => whnf)
       exact ⟨⟨by rw [hp]; simp only [List.append_assoc, List.singleton_append], hi, by simp only; omega, by simp; omega, by simp only; omega⟩, by simp⟩)
     ·have hs : seesP (kts ts) 3 s_semi i = true := by simpa using hs
      have hp : p = (expectP (kts ts) 3 s_semi i).bind fun _ i => R acc i := by
       rw [hp]; simp [codesP, hs, PR.bind]
      rw [hR] at hp
      repeat (first | (refine ACode.st tys_ok rfl ?_; conv => whnf))
      refine ACall.of_m (symbol_m ts len i s_semi hl hi) hp (fun _ => rfl) rfl (fun j e k h hk => ?_) (fun _ i19 hq hp hi => ?_)
      ·conv => whnf
       refine ⟨⟨by simp, closed_map _ (fun _ => rfl) _⟩, ?_⟩; (conv => whnf); exact ⟨_, _, _, _, h, hk, rfl, rfl⟩
      conv => whnf
      repeat (first | (refine ACode.st tys_ok rfl ?_; conv => whnf))
      have e19 := expect_j hq
      refine ACall.of_m (symbol_m ts len i19 s_rb hl hi) hp (fun _ => rfl) rfl (fun j e k h hk => ?_) (fun _ i20 hq hp hi => ?_)
      ·conv => whnf
       refine ⟨⟨by simp, closed_map _ (fun _ => rfl) _⟩, ?_⟩; (conv => whnf); exact ⟨_, _, _, _, h, hk, rfl, rfl⟩
      conv => whnf
      repeat (first | (refine ACode.st tys_ok rfl ?_; conv => whnf))
      have e20 := expect_j hq
      refine ACode.freeze 7 ?_
      conv => whnf
      refine ⟨closed_map _ (fun _ => rfl) _, ?_⟩
      conv => whnf
      repeat (refine ⟨(by first | rfl | (simp; done) : (_ : Nat) = _), ?_⟩; conv => whnf)
      refine ACode.drawI [] [8, 12] tys_ok (by kernel_rfl) (by kernel_rfl) ?_
      conv => whnf
      refine ⟨rfl, ?_⟩
      conv => whnf
      refine ⟨⟨by simp, by simp; omega⟩, ?_⟩
      conv => whnf
      repeat (first | (refine ACode.st tys_ok rfl ?_; conv => whnf))
      refine ⟨(f, i20, { n with names := names, opers := opers, offs := n.offs ++ [⟨name, oper, cal, pockets, passes, minutes, acc⟩] }), ?_⟩
      conv => whnf
      repeat (refine And.intro ?_ ?_; (focus (first | rfl | (simp; done) | (simp [offA, strs]; done))); conv => whnf)
      exact ⟨⟨hp, hi, by simp only; omega, by simp; omega, rfl, rfl⟩, by simp⟩
   ·have hp : p = R [] i12 := by
     rw [hp]; simp [codesAllP, hs, PR.bind]
    rw [hR] at hp
    repeat (first | (refine ACode.st tys_ok rfl ?_; conv => whnf))
    refine ACall.of_m (symbol_m ts len i12 s_rb hl hi) hp (fun _ => rfl) rfl (fun j e k h hk => ?_) (fun _ i20 hq hp hi => ?_)
    ·conv => whnf
     refine ⟨⟨by simp, closed_map _ (fun _ => rfl) _⟩, ?_⟩; (conv => whnf); exact ⟨_, _, _, _, h, hk, rfl, rfl⟩
    conv => whnf
    repeat (first | (refine ACode.st tys_ok rfl ?_; conv => whnf))
    have e20 := expect_j hq
    refine ACode.freeze 7 ?_
    conv => whnf
    refine ⟨(by simp), ?_⟩
    conv => whnf
    repeat (refine ⟨(by first | rfl | (simp; done) : (_ : Nat) = _), ?_⟩; conv => whnf)
    refine ACode.drawI [] [8, 12] tys_ok (by kernel_rfl) (by kernel_rfl) ?_
    conv => whnf
    refine ⟨rfl, ?_⟩
    conv => whnf
    refine ⟨⟨by simp, by simp; omega⟩, ?_⟩
    conv => whnf
    repeat (first | (refine ACode.st tys_ok rfl ?_; conv => whnf))
    refine ⟨(f, i20, { n with names := names, opers := opers, offs := n.offs ++ [⟨name, oper, cal, pockets, passes, minutes, []⟩] }), ?_⟩
    conv => whnf
    repeat (refine And.intro ?_ ?_; (focus (first | rfl | (simp; done) | (simp [offA, strs]; done))); conv => whnf)
    exact ⟨⟨hp, hi, by simp only; omega, by simp; omega, rfl, rfl⟩, by simp⟩
  ·have hp : p = .ok n i := by
    rw [hp]; cases f <;> simp [offsP, hs]
   repeat (first | (refine ACode.st tys_ok rfl ?_; conv => whnf))
   refine ⟨⟨by simp, closed_map _ (fun _ => rfl) _⟩, ?_⟩
   conv => whnf
   exact ⟨_, _, hp, hi, rfl, rfl⟩
end Go.Proofs.YtbedaolpfedacaaGreatDoor
namespace Go.Proofs.YtbedaolpfedacaaGreatDoor
open Go.Av Go.Av.Net
def RH (n : List AV) (e p : Int) : List HO := [.cells n, .cells [.int .i64 e], .cells [.int .i64 p]]
def net0 : List AV := [nilA, nilA, nilA, nilA, nilA, nilA]
set_option maxRecDepth 100000 in
set_option maxHeartbeats 4000000 in
theorem Parse1_some (e p e' p' : Int) (n : List AV) (hn : n.length = 6) : DCtr Tryz.prog 53 [.ptr 0 0, .ptr 1 0, .ptr 2 0] (RH net0 e p) (some (.iface 85 (.agg [.int .i64 e', .int .i64 p']))) (fun H => H = RH net0 e' p') := by
 refine DCtr.of_body Tryz.func53 rfl rfl tys_ok (by kernel_rfl) rfl ?_
 conv => whnf
 refine ⟨⟨by kernel_rfl, rfl⟩, ?_⟩
 conv => whnf
 refine sd_sound tys_ok _ ?_
 conv => whnf
 refine KCode.drawAll (.one 0 (.one 1 (.one 2 (.one 3 (.one 4 (.one 5 (.one 6 (.one 7 .done .none) .none) .none) (.one 5 (.one 4 (.one 6 (.one 7 .done .none) .none) (.one 6 (.one 4 (.one 7 .done .none) .none) .none)) .none)) (.one 5 (.one 3 (.one 4 (.one 6 (.one 7 .done .none) .none) (.one 6 (.one 4 (.one 7 .done .none) .none) .none)) (.one 6 (.one 3 (.one 4 (.one 7 .done .none) .none) .none) .none)) .none)) (.one 3 (.one 2 (.one 4 (.one 5 (.one 6 (.one 7 .done .none) .none) .none) (.one 5 (.one 4 (.one 6 (.one 7 .done .none) .none) (.one 6 (.one 4 (.one 7 .done .none) .none) .none)) .none)) (.one 4 (.one 2 (.one 5 (.one 6 (.one 7 .done .none) .none) .none) (.one 5 (.one 2 (.one 6 (.one 7 .done .none) .none) .none) .none)) (.one 5 (.one 2 (.one 4 (.one 6 (.one 7 .done .none) .none) (.one 6 (.one 4 (.one 7 .done .none) .none) .none)) (.one 4 (.one 2 (.one 6 (.one 7 .done .none) .none) .none) .none)) .none))) (.one 5 (.one 2 (.one 3 (.one 4 (.one 6 (.one 7 .done .none) .none) (.one 6 (.one 4 (.one 7 .done .none) .none) .none)) (.one 6 (.one 3 (.one 4 (.one 7 .done .none) .none) .none) .none)) (.one 3 (.one 2 (.one 4 (.one 6 (.one 7 .done .none) .none) (.one 6 (.one 4 (.one 7 .done .none) .none) .none)) (.one 4 (.one 2 (.one 6 (.one 7 .done .none) .none) .none) .none)) .none)) .none))) (.one 3 (.one 1 (.one 2 (.one 4 (.one 5 (.one 6 (.one 7 .done .none) .none) .none) (.one 5 (.one 4 (.one 6 (.one 7 .done .none) .none) (.one 6 (.one 4 (.one 7 .done .none) .none) .none)) .none)) (.one 4 (.one 2 (.one 5 (.one 6 (.one 7 .done .none) .none) .none) (.one 5 (.one 2 (.one 6 (.one 7 .done .none) .none) .none) .none)) (.one 5 (.one 2 (.one 4 (.one 6 (.one 7 .done .none) .none) (.one 6 (.one 4 (.one 7 .done .none) .none) .none)) (.one 4 (.one 2 (.one 6 (.one 7 .done .none) .none) .none) .none)) .none))) (.one 4 (.one 1 (.one 2 (.one 5 (.one 6 (.one 7 .done .none) .none) .none) (.one 5 (.one 2 (.one 6 (.one 7 .done .none) .none) .none) .none)) (.one 5 (.one 1 (.one 2 (.one 6 (.one 7 .done .none) .none) .none) .none) .none)) (.one 5 (.one 1 (.one 2 (.one 4 (.one 6 (.one 7 .done .none) .none) (.one 6 (.one 4 (.one 7 .done .none) .none) .none)) (.one 4 (.one 2 (.one 6 (.one 7 .done .none) .none) .none) .none)) (.one 4 (.one 1 (.one 2 (.one 6 (.one 7 .done .none) .none) .none) .none) .none)) .none))) (.one 5 (.one 1 (.one 2 (.one 3 (.one 4 (.one 6 (.one 7 .done .none) .none) (.one 6 (.one 4 (.one 7 .done .none) .none) .none)) (.one 6 (.one 3 (.one 4 (.one 7 .done .none) .none) .none) .none)) (.one 3 (.one 2 (.one 4 (.one 6 (.one 7 .done .none) .none) (.one 6 (.one 4 (.one 7 .done .none) .none) .none)) (.one 4 (.one 2 (.one 6 (.one 7 .done .none) .none) .none) .none)) .none)) (.one 3 (.one 1 (.one 2 (.one 4 (.one 6 (.one 7 .done .none) .none) (.one 6 (.one 4 (.one 7 .done .none) .none) .none)) (.one 4 (.one 2 (.one 6 (.one 7 .done .none) .none) .none) .none)) (.one 4 (.one 1 (.one 2 (.one 6 (.one 7 .done .none) .none) .none) .none) .none)) .none)) .none))) (.one 1 (.one 0 (.one 2 (.one 3 (.one 4 (.one 5 (.one 6 (.one 7 .done .none) .none) .none) (.one 5 (.one 4 (.one 6 (.one 7 .done .none) .none) (.one 6 (.one 4 (.one 7 .done .none) .none) .none)) .none)) (.one 5 (.one 3 (.one 4 (.one 6 (.one 7 .done .none) .none) (.one 6 (.one 4 (.one 7 .done .none) .none) .none)) (.one 6 (.one 3 (.one 4 (.one 7 .done .none) .none) .none) .none)) .none)) (.one 3 (.one 2 (.one 4 (.one 5 (.one 6 (.one 7 .done .none) .none) .none) (.one 5 (.one 4 (.one 6 (.one 7 .done .none) .none) (.one 6 (.one 4 (.one 7 .done .none) .none) .none)) .none)) (.one 4 (.one 2 (.one 5 (.one 6 (.one 7 .done .none) .none) .none) (.one 5 (.one 2 (.one 6 (.one 7 .done .none) .none) .none) .none)) (.one 5 (.one 2 (.one 4 (.one 6 (.one 7 .done .none) .none) (.one 6 (.one 4 (.one 7 .done .none) .none) .none)) (.one 4 (.one 2 (.one 6 (.one 7 .done .none) .none) .none) .none)) .none))) (.one 5 (.one 2 (.one 3 (.one 4 (.one 6 (.one 7 .done .none) .none) (.one 6 (.one 4 (.one 7 .done .none) .none) .none)) (.one 6 (.one 3 (.one 4 (.one 7 .done .none) .none) .none) .none)) (.one 3 (.one 2 (.one 4 (.one 6 (.one 7 .done .none) .none) (.one 6 (.one 4 (.one 7 .done .none) .none) .none)) (.one 4 (.one 2 (.one 6 (.one 7 .done .none) .none) .none) .none)) .none)) .none))) (.one 2 (.one 0 (.one 3 (.one 4 (.one 5 (.one 6 (.one 7 .done .none) .none) .none) (.one 5 (.one 4 (.one 6 (.one 7 .done .none) .none) (.one 6 (.one 4 (.one 7 .done .none) .none) .none)) .none)) (.one 5 (.one 3 (.one 4 (.one 6 (.one 7 .done .none) .none) (.one 6 (.one 4 (.one 7 .done .none) .none) .none)) (.one 6 (.one 3 (.one 4 (.one 7 .done .none) .none) .none) .none)) .none)) (.one 3 (.one 0 (.one 4 (.one 5 (.one 6 (.one 7 .done .none) .none) .none) (.one 5 (.one 4 (.one 6 (.one 7 .done .none) .none) (.one 6 (.one 4 (.one 7 .done .none) .none) .none)) .none)) (.one 4 (.one 0 (.one 5 (.one 6 (.one 7 .done .none) .none) .none) .none) .none)) .none)) (.one 3 (.one 0 (.one 2 (.one 4 (.one 5 (.one 6 (.one 7 .done .none) .none) .none) (.one 5 (.one 4 (.one 6 (.one 7 .done .none) .none) (.one 6 (.one 4 (.one 7 .done .none) .none) .none)) .none)) (.one 4 (.one 2 (.one 5 (.one 6 (.one 7 .done .none) .none) .none) (.one 5 (.one 2 (.one 6 (.one 7 .done .none) .none) .none) .none)) (.one 5 (.one 2 (.one 4 (.one 6 (.one 7 .done .none) .none) (.one 6 (.one 4 (.one 7 .done .none) .none) .none)) (.one 4 (.one 2 (.one 6 (.one 7 .done .none) .none) .none) .none)) .none))) (.one 2 (.one 0 (.one 4 (.one 5 (.one 6 (.one 7 .done .none) .none) .none) (.one 5 (.one 4 (.one 6 (.one 7 .done .none) .none) (.one 6 (.one 4 (.one 7 .done .none) .none) .none)) .none)) (.one 4 (.one 0 (.one 5 (.one 6 (.one 7 .done .none) .none) .none) .none) .none)) (.one 4 (.one 0 (.one 2 (.one 5 (.one 6 (.one 7 .done .none) .none) .none) (.one 5 (.one 2 (.one 6 (.one 7 .done .none) .none) .none) .none)) (.one 2 (.one 0 (.one 5 (.one 6 (.one 7 .done .none) .none) .none) .none) .none)) .none))) .none))) (.one 3 (.one 0 (.one 1 (.one 2 (.one 4 (.one 5 (.one 6 (.one 7 .done .none) .none) .none) (.one 5 (.one 4 (.one 6 (.one 7 .done .none) .none) (.one 6 (.one 4 (.one 7 .done .none) .none) .none)) .none)) (.one 4 (.one 2 (.one 5 (.one 6 (.one 7 .done .none) .none) .none) (.one 5 (.one 2 (.one 6 (.one 7 .done .none) .none) .none) .none)) (.one 5 (.one 2 (.one 4 (.one 6 (.one 7 .done .none) .none) (.one 6 (.one 4 (.one 7 .done .none) .none) .none)) (.one 4 (.one 2 (.one 6 (.one 7 .done .none) .none) .none) .none)) .none))) (.one 4 (.one 1 (.one 2 (.one 5 (.one 6 (.one 7 .done .none) .none) .none) (.one 5 (.one 2 (.one 6 (.one 7 .done .none) .none) .none) .none)) (.one 5 (.one 1 (.one 2 (.one 6 (.one 7 .done .none) .none) .none) .none) .none)) (.one 5 (.one 1 (.one 2 (.one 4 (.one 6 (.one 7 .done .none) .none) (.one 6 (.one 4 (.one 7 .done .none) .none) .none)) (.one 4 (.one 2 (.one 6 (.one 7 .done .none) .none) .none) .none)) (.one 4 (.one 1 (.one 2 (.one 6 (.one 7 .done .none) .none) .none) .none) .none)) .none))) (.one 1 (.one 0 (.one 2 (.one 4 (.one 5 (.one 6 (.one 7 .done .none) .none) .none) (.one 5 (.one 4 (.one 6 (.one 7 .done .none) .none) (.one 6 (.one 4 (.one 7 .done .none) .none) .none)) .none)) (.one 4 (.one 2 (.one 5 (.one 6 (.one 7 .done .none) .none) .none) (.one 5 (.one 2 (.one 6 (.one 7 .done .none) .none) .none) .none)) (.one 5 (.one 2 (.one 4 (.one 6 (.one 7 .done .none) .none) (.one 6 (.one 4 (.one 7 .done .none) .none) .none)) (.one 4 (.one 2 (.one 6 (.one 7 .done .none) .none) .none) .none)) .none))) (.one 2 (.one 0 (.one 4 (.one 5 (.one 6 (.one 7 .done .none) .none) .none) (.one 5 (.one 4 (.one 6 (.one 7 .done .none) .none) (.one 6 (.one 4 (.one 7 .done .none) .none) .none)) .none)) (.one 4 (.one 0 (.one 5 (.one 6 (.one 7 .done .none) .none) .none) .none) .none)) (.one 4 (.one 0 (.one 2 (.one 5 (.one 6 (.one 7 .done .none) .none) .none) (.one 5 (.one 2 (.one 6 (.one 7 .done .none) .none) .none) .none)) (.one 2 (.one 0 (.one 5 (.one 6 (.one 7 .done .none) .none) .none) .none) .none)) .none))) (.one 4 (.one 0 (.one 1 (.one 2 (.one 5 (.one 6 (.one 7 .done .none) .none) .none) (.one 5 (.one 2 (.one 6 (.one 7 .done .none) .none) .none) .none)) (.one 5 (.one 1 (.one 2 (.one 6 (.one 7 .done .none) .none) .none) .none) .none)) (.one 1 (.one 0 (.one 2 (.one 5 (.one 6 (.one 7 .done .none) .none) .none) (.one 5 (.one 2 (.one 6 (.one 7 .done .none) .none) .none) .none)) (.one 2 (.one 0 (.one 5 (.one 6 (.one 7 .done .none) .none) .none) .none) .none)) .none)) .none))) .none))) tys_ok (by kernel_rfl) (by kernel_rfl) (by kernel_rfl) ?_
 repeat' (first | exact True.intro | (refine EnF.step ?_; conv => whnf) | (refine And.intro ?_ ?_ <;> conv => whnf))
 all_goals rfl
end Go.Proofs.YtbedaolpfedacaaGreatDoor
namespace Go.Proofs.YtbedaolpfedacaaGreatDoor
open Go.Av Go.Av.Net
theorem runP_digits : ∀ (s : Bs), (runP s).2 = (runP s).1 → ∀ b ∈ s.take (runP s).1, digB b = true
 | [], _ => by simp [runP]
 | c :: r, h => by
  have h2 : (runP r).2 ≤ (runP r).1 := (runP_le r).2
  unfold runP at h ⊢
  cases hw : wordB c with
  | false => simp
  | true =>
   rw [hw] at h
   simp only [cond_true] at h ⊢
   cases hd : digB c with
   | false => rw [hd] at h; simp at h; omega
   | true =>
    rw [hd] at h
    simp only [cond_true] at h
    intro b hb
    simp only [List.take_succ_cons, List.mem_cons] at hb
    rcases hb with rfl | hb
    ·exact hd
    ·exact runP_digits r (by omega) b hb
theorem tokP_ok {s : Bs} {n : Nat} {k : Int} {t : Bs} (h : tokP s = some (n, k, t)) : 1 ≤ n ∧ n ≤ s.length ∧ t.length ≤ n ∧ (k = 2 → 1 ≤ t.length ∧ t.length ≤ 8 ∧ ∀ b ∈ t, digB b = true) := by
 have h1 := numLen_if s
 have h2 := nameLen_le s
 have h3 := txtLen_le s
 have h4 := symLen_le s
 have h5 := (runP_le s).1
 unfold tokP at h
 by_cases c1 : 0 < numLen s
 ·rw [decide_eq_true c1, cond_true] at h
  simp only [Option.some.injEq, Prod.mk.injEq] at h
  obtain ⟨rfl, rfl, rfl⟩ := h
  have e : numLen s = (runP s).1 := by rw [numLen_if]; split <;> rename_i q <;> simp_all [numLen_if]
  have hc : (runP s).2 = (runP s).1 ∧ (runP s).1 ≤ 8 := by
   unfold numLen at c1
   by_cases q : (runP s).2 = (runP s).1
   ·by_cases q2 : 8 < (runP s).1
    ·simp [q, q2] at c1
    ·exact ⟨q, by omega⟩
   ·simp [q] at c1
  refine ⟨c1, by omega, by simp; omega, fun _ => ⟨by simp; omega, by simp; omega, ?_⟩⟩
  rw [e]
  exact runP_digits s hc.1
 ·rw [decide_eq_false c1, cond_false] at h
  by_cases c2 : 0 < nameLen s
  ·rw [decide_eq_true c2, cond_true] at h
   simp only [Option.some.injEq, Prod.mk.injEq] at h
   obtain ⟨rfl, rfl, rfl⟩ := h
   exact ⟨c2, h2, by simp; omega, fun h => by cases h⟩
  ·rw [decide_eq_false c2, cond_false] at h
   by_cases c3 : 0 < txtLen s
   ·rw [decide_eq_true c3, cond_true] at h
    simp only [Option.some.injEq, Prod.mk.injEq] at h
    obtain ⟨rfl, rfl, rfl⟩ := h
    exact ⟨c3, h3.1, by simp; omega, fun h => by cases h⟩
   ·rw [decide_eq_false c3, cond_false] at h
    by_cases c4 : 0 < symLen s
    ·rw [decide_eq_true c4, cond_true] at h
     simp only [Option.some.injEq, Prod.mk.injEq] at h
     obtain ⟨rfl, rfl, rfl⟩ := h
     exact ⟨c4, h4, by simp; omega, fun h => by cases h⟩
    ·rw [decide_eq_false c4, cond_false] at h
     cases h
theorem lexGo_ok (s : Bs) (hs : s.length ≤ 8000) : ∀ (f p c : Nat) (l : List Tok), c ≤ 3000 → p ≤ s.length → lexGo s f p c = .ok l → c + l.length ≤ 3000 ∧ ∀ t ∈ l, TokOK t ∧ p ≤ t.pos ∧ t.pos < s.length
 | 0, p, c, l, hc, hp, h => by cases h; exact ⟨by simpa using hc, by simp⟩
 | f + 1, p, c, l, hc, hp, h => by
  have hg := gap_le false (s.drop p)
  simp only [List.length_drop] at hg
  unfold lexGo at h
  have hpq : p ≤ p + gap false (s.drop p) := Nat.le_add_right _ _
  have hqs : p + gap false (s.drop p) ≤ s.length := by omega
  generalize p + gap false (s.drop p) = q at *
  by_cases c1 : q = s.length
  ·rw [decide_eq_true c1, cond_true] at h; cases h; exact ⟨by simpa using hc, by simp⟩
  ·rw [decide_eq_false c1, cond_false] at h
   by_cases c2 : c = 3000
   ·rw [decide_eq_true c2, cond_true] at h; cases h
   ·rw [decide_eq_false c2, cond_false] at h
    cases ht : tokP (s.drop q) with
    | none => rw [ht] at h; cases h
    | some x =>
     obtain ⟨n, k, t⟩ := x
     rw [ht] at h
     simp only at h
     obtain ⟨k1, k2, k3, k4⟩ := tokP_ok ht
     simp only [List.length_drop] at k2
     cases hr : lexGo s f (q + n) (c + 1) with
     | err e p => rw [hr] at h; cases h
     | ok r =>
      rw [hr] at h
      cases h
      obtain ⟨m1, m2⟩ := lexGo_ok s hs f (q + n) (c + 1) r (by omega) (by omega) hr
      refine ⟨by simp only [List.length_cons]; omega, fun t' ht' => ?_⟩
      simp only [List.mem_cons] at ht'
      rcases ht' with rfl | ht'
      ·exact ⟨⟨by simp only; omega, k4⟩, hpq, by simp only; omega⟩
      ·obtain ⟨n1, n2, n3⟩ := m2 t' ht'
       exact ⟨n1, by omega, n3⟩
theorem lexGo_err (s : Bs) : ∀ (f p c : Nat) (e : Int) (at_ : Nat), p ≤ s.length → lexGo s f p c = .err e at_ → at_ ≤ s.length ∧ (e = 2 ∨ e = 30)
 | 0, p, c, e, a, hp, h => by cases h
 | f + 1, p, c, e, a, hp, h => by
  have hg := gap_le false (s.drop p)
  simp only [List.length_drop] at hg
  unfold lexGo at h
  have hqs : p + gap false (s.drop p) ≤ s.length := by omega
  generalize p + gap false (s.drop p) = q at *
  by_cases c1 : q = s.length
  ·rw [decide_eq_true c1, cond_true] at h; cases h
  ·rw [decide_eq_false c1, cond_false] at h
   by_cases c2 : c = 3000
   ·rw [decide_eq_true c2, cond_true] at h; cases h; exact ⟨hqs, .inl rfl⟩
   ·rw [decide_eq_false c2, cond_false] at h
    cases ht : tokP (s.drop q) with
    | none => rw [ht] at h; cases h; exact ⟨hqs, .inr rfl⟩
    | some x =>
     obtain ⟨n, k, t⟩ := x
     rw [ht] at h
     simp only at h
     obtain ⟨k1, k2, k3, k4⟩ := tokP_ok ht
     simp only [List.length_drop] at k2
     cases hr : lexGo s f (q + n) (c + 1) with
     | ok r => rw [hr] at h; cases h
     | err e' p' =>
      rw [hr] at h
      cases h
      exact lexGo_err s f (q + n) (c + 1) _ _ (by omega) hr
theorem lexP_ok {s : Bs} {l : List Tok} (h : lexP s = .ok l) : TsOK l ∧ s.length ≤ 8000 ∧ ∀ t ∈ l, t.pos < s.length := by
 unfold lexP at h
 by_cases c : 8000 < s.length
 ·rw [decide_eq_true c] at h; cases h
 ·rw [decide_eq_false c, cond_false] at h
  obtain ⟨h1, h2⟩ := lexGo_ok s (by omega) _ _ _ _ (by omega) (by omega) h
  exact ⟨⟨by omega, fun t ht => (h2 t ht).1⟩, by omega, fun t ht => (h2 t ht).2.2⟩
theorem lexP_err {s : Bs} {e : Int} {p : Nat} (h : lexP s = .err e p) : p ≤ s.length ∧ (e = 2 ∨ e = 30) := by
 unfold lexP at h
 by_cases c : 8000 < s.length
 ·rw [decide_eq_true c] at h; cases h; exact ⟨by omega, .inl rfl⟩
 ·rw [decide_eq_false c, cond_false] at h
  exact lexGo_err s _ _ _ _ _ (by omega) h
end Go.Proofs.YtbedaolpfedacaaGreatDoor
namespace Go.Proofs.YtbedaolpfedacaaGreatDoor
open Go.Av Go.Av.Net
def Post {α : Type} (p : PR α) (Q : α → Prop) : Prop := match p with | .ok a _ => Q a | .fail e _ => e = 90 ∨ e = 91 ∨ e = 110
theorem Post.bind {α β : Type} {p : PR α} {f : α → Nat → PR β} {Q : α → Prop} {R : β → Prop} (h : Post p Q) (hf : ∀ a i, Q a → Post (f a i) R) : Post (p.bind f) R := by
 cases p with
 | ok a i => exact hf a i h
 | fail e i => exact h
theorem Post.mono {α : Type} {p : PR α} {Q R : α → Prop} (h : Post p Q) (hf : ∀ a, Q a → R a) : Post p R := by
 cases p with
 | ok a i => exact hf a h
 | fail e i => exact h
theorem mem_all {α : Type} {Q : α → Prop} {x : α} {l : List α} (hx : Q x) (hl : ∀ y ∈ l, Q y) : ∀ y ∈ x :: l, Q y := by
 intro y hy
 rcases List.mem_cons.1 hy with rfl | hy
 ·exact hx
 ·exact hl y hy
structure CalOK (c : Cal) : Prop where
 week : c.week.length = 7
structure OffOK (no nc : Nat) (o : Off) : Prop where
 name : isNameB o.name = true
 oper : o.oper < no
 cal : o.cal < nc
 nums : 0 ≤ o.pockets ∧ 0 ≤ o.passes ∧ 0 ≤ o.minutes
 codes : ∀ c ∈ o.codes, isCodeB c = true
structure LinOK (no : Nat) (l : Lin) : Prop where
 name : isNameB l.name = true
 from_ : l.from_ < no
 to_ : l.to_ < no
 nums : 0 ≤ l.at_ ∧ 0 ≤ l.travel ∧ 0 ≤ l.load
structure ClsOK (c : Cls) : Prop where
 name : isNameB c.name = true
 nums : 0 ≤ c.cut ∧ 0 ≤ c.deliver
structure NwOK (n : Nw) : Prop where
 cals : ∀ c ∈ n.cals, CalOK c
 names : n.names.length = n.cals.length ∧ ∀ x ∈ n.names, isNameB x = true
 opers : ∀ x ∈ n.opers, isNameB x = true
 offs : ∀ o ∈ n.offs, OffOK n.opers.length n.names.length o
 lins : ∀ l ∈ n.lins, LinOK n.offs.length l
 clss : ∀ c ∈ n.clss, ClsOK c
section
variable {l : List Tok} (hts : TsOK l)
theorem post_wrong {α : Type} {Q : α → Prop} (i : Nat) : Post (wrongP (kts l) i : PR α) Q := by
 unfold wrongP; split <;> simp [Post]
theorem post_expect (k : Int) (x : Bs) (i : Nat) : Post (expectP (kts l) k x i) (fun _ => True) := by
 unfold expectP; cases seesP (kts l) k x i with
 | true => trivial
 | false => exact post_wrong i
theorem post_name (i : Nat) : Post (nameP (kts l) i) (fun x => isNameB x = true) := by
 unfold nameP; split
 ·simp [Post]
 ·rename_i t _
  cases h : (decide (t.1 = 1) && isNameB t.2) with
  | true => simp only [cond_true, Post]; simp at h; exact h.2
  | false => simp [Post]
theorem post_code (i : Nat) : Post (codeP (kts l) i) (fun x => isCodeB x = true) := by
 unfold codeP; split
 ·simp [Post]
 ·rename_i t _
  cases h : ((decide (t.1 = 1) || decide (t.1 = 2)) && isCodeB t.2) with
  | true => simp only [cond_true, Post]; simp at h; exact h.2
  | false => simp [Post]
theorem post_week (i : Nat) : Post (weekP (kts l) i) (fun x => x.length = 7) := by
 unfold weekP; split
 ·simp [Post]
 ·rename_i t _
  cases h : (decide (t.1 = 2) && isWeekB t.2) with
  | true => simp only [cond_true, Post]; simp [isWeekB] at h; simp [h.2.1]
  | false => simp [Post]
include hts in
theorem post_number (i : Nat) : Post (numberP (kts l) i) (fun x => 0 ≤ x ∧ x < 100000000) := by
 cases h : numberP (kts l) i with
 | ok x j => exact number_range hts h
 | fail e k =>
  unfold numberP at h
  split at h
  ·cases h; simp [Post]
  ·rename_i t _
   cases hh : decide (t.1 = 2) with
   | true => rw [hh] at h; cases h
   | false => rw [hh] at h; cases h; simp [Post]
include hts in
theorem post_int (i : Nat) : Post (intP (kts l) i) (fun x => -100000000 < x ∧ x < 100000000) := by
 unfold intP
 cases seesP (kts l) 3 s_minus i with
 | true => exact (post_number hts (i + 1)).bind fun a j h => (by simp only [Post]; omega)
 | false => exact (post_number hts i).mono fun a h => by omega
include hts in
theorem post_field (w : Bs) (i : Nat) : Post (fieldP (kts l) w i) (fun x => 0 ≤ x ∧ x < 100000000) := by
 unfold fieldP
 exact (post_expect 1 w i).bind fun _ i _ => (post_number hts i).bind fun x i hx => (post_expect 3 s_semi i).bind fun _ i _ => hx
theorem idx_lt {x : Bs} : ∀ {l : List Bs} {k : Nat}, idxOf x l = some k → k < l.length
 | [], k, h => by cases h
 | y :: r, k, h => by
  unfold idxOf at h
  by_cases e : y = x
  ·simp [e] at h; simp; omega
  ·simp [e] at h
   obtain ⟨b, hb, rfl⟩ := h
   have := idx_lt hb
   simp; omega
theorem post_ref (names : List Bs) (i : Nat) : Post (refP (kts l) names i) (fun k => k < names.length) := by
 unfold refP
 refine (post_name i).bind fun x i _ => ?_
 split
 ·rename_i k hk; exact idx_lt hk
 ·simp [Post]
include hts in
theorem post_hols : ∀ (f i : Nat), Post (holsP (kts l) f i) (fun l => ∀ x ∈ l, -100000000 < x ∧ x < 100000000)
 | 0, i => by simp [holsP, Post]
 | f + 1, i => by
  unfold holsP
  cases seesP (kts l) 1 w_holiday i with
  | true => exact (post_expect 1 w_holiday i).bind fun _ i _ => (post_int hts i).bind fun x i hx => (post_expect 3 s_semi i).bind fun _ i _ => (post_hols f i).bind fun l i hl => mem_all hx hl
  | false => simp [Post]
include hts in
theorem post_cal (i : Nat) : Post (calP (kts l) i) (fun c => isNameB c.1 = true ∧ CalOK c.2) := by
 unfold calP
 exact (post_expect 1 w_calendar i).bind fun _ i _ => (post_name i).bind fun name i hn => (post_expect 3 s_lb i).bind fun _ i _ => (post_expect 1 w_zone i).bind fun _ i _ => (post_int hts i).bind fun zone i _ => (post_expect 3 s_semi i).bind fun _ i _ =>
  (post_expect 1 w_week i).bind fun _ i _ => (post_week i).bind fun week i hw => (post_expect 3 s_semi i).bind fun _ i _ => (post_hols hts _ i).bind fun hols i _ => (post_expect 3 s_rb i).bind fun _ i _ => ⟨hn, ⟨hw⟩⟩
theorem post_oper (i : Nat) : Post (operP (kts l) i) (fun x => isNameB x = true) := by
 unfold operP
 exact (post_expect 1 w_operator i).bind fun _ i _ => (post_name i).bind fun name i hn => (post_expect 3 s_semi i).bind fun _ i _ => hn
theorem post_codes : ∀ (f i : Nat), Post (codesP (kts l) f i) (fun l => ∀ c ∈ l, isCodeB c = true)
 | 0, i => by simp [codesP, Post]
 | f + 1, i => by
  unfold codesP
  cases seesP (kts l) 3 s_semi i with
  | true => simp [Post]
  | false => exact (post_code i).bind fun x i hx => (post_codes f i).bind fun l i hl => mem_all hx hl
theorem post_codesAll (i : Nat) : Post (codesAllP (kts l) i) (fun l => ∀ c ∈ l, isCodeB c = true) := by
 unfold codesAllP
 cases seesP (kts l) 1 w_codes i with
 | true => exact (post_expect 1 w_codes i).bind fun _ i _ => (post_code i).bind fun c i hc => (post_codes _ i).bind fun l i hl => (post_expect 3 s_semi i).bind fun _ i _ => mem_all hc hl
 | false => simp [Post]
include hts in
theorem post_off (n : Nw) (i : Nat) : Post (offP (kts l) n i) (OffOK n.opers.length n.names.length) := by
 unfold offP
 exact (post_expect 1 w_office i).bind fun _ i _ => (post_name i).bind fun name i h1 => (post_expect 3 s_lb i).bind fun _ i _ => (post_expect 1 w_operator i).bind fun _ i _ => (post_ref n.opers i).bind fun oper i h2 => (post_expect 3 s_semi i).bind fun _ i _ =>
  (post_expect 1 w_calendar i).bind fun _ i _ => (post_ref n.names i).bind fun cal i h3 => (post_expect 3 s_semi i).bind fun _ i _ => (post_field hts w_pockets i).bind fun a i h4 => (post_field hts w_passes i).bind fun b i h5 => (post_field hts w_minutes i).bind fun c i h6 =>
  (post_codesAll i).bind fun codes i h7 => (post_expect 3 s_rb i).bind fun _ i _ => ⟨h1, h2, h3, ⟨h4.1, h5.1, h6.1⟩, h7⟩
include hts in
theorem post_lin (n : Nw) (i : Nat) : Post (linP (kts l) n i) (LinOK n.offs.length) := by
 unfold linP
 exact (post_expect 1 w_line i).bind fun _ i _ => (post_name i).bind fun name i h1 => (post_expect 3 s_colon i).bind fun _ i _ => (post_ref _ i).bind fun a i h2 => (post_expect 3 s_arrow i).bind fun _ i _ => (post_ref _ i).bind fun b i h3 =>
  (post_expect 1 w_at i).bind fun _ i _ => (post_number hts i).bind fun c i h4 => (post_expect 1 w_travel i).bind fun _ i _ => (post_number hts i).bind fun d i h5 => (post_expect 1 w_load i).bind fun _ i _ => (post_number hts i).bind fun e i h6 => (post_expect 3 s_semi i).bind fun _ i _ =>
  ⟨h1, by simpa using h2, by simpa using h3, ⟨h4.1, h5.1, h6.1⟩⟩
include hts in
theorem post_cls (i : Nat) : Post (clsP (kts l) i) ClsOK := by
 unfold clsP
 exact (post_expect 1 w_class i).bind fun _ i _ => (post_name i).bind fun name i h1 => (post_expect 3 s_lb i).bind fun _ i _ => (post_field hts w_cut i).bind fun a i h2 => (post_field hts w_deliver i).bind fun b i h3 => (post_expect 3 s_rb i).bind fun _ i _ => ⟨h1, h2.1, h3.1⟩
include hts in
theorem post_cals : ∀ (f : Nat) (n : Nw) (i : Nat), NwOK n → n.offs = [] → Post (calsP (kts l) f n i) (fun n' => NwOK n' ∧ n'.opers = n.opers ∧ n'.offs = [] ∧ n'.lins = n.lins ∧ n'.clss = n.clss)
 | 0, n, i, hn, h => by simp [calsP, Post, hn, h]
 | f + 1, n, i, hn, h => by
  unfold calsP
  cases seesP (kts l) 1 w_calendar i with
  | true =>
   refine (post_cal hts i).bind fun c i hc => (post_cals f _ i ⟨?_, ⟨by simp [hn.names.1], ?_⟩, hn.opers, by simp [h], hn.lins, hn.clss⟩ h)
   ·intro x hx
    simp only [List.mem_append, List.mem_singleton] at hx
    rcases hx with hx | rfl
    ·exact hn.cals x hx
    ·exact hc.2
   ·intro x hx
    simp only [List.mem_append, List.mem_singleton] at hx
    rcases hx with hx | rfl
    ·exact hn.names.2 x hx
    ·exact hc.1
  | false => simp [Post, hn, h]
theorem post_opers : ∀ (f : Nat) (n : Nw) (i : Nat), NwOK n → n.offs = [] → Post (opersP (kts l) f n i) (fun n' => NwOK n' ∧ n'.cals = n.cals ∧ n'.names = n.names ∧ n'.offs = [] ∧ n'.lins = n.lins ∧ n'.clss = n.clss)
 | 0, n, i, hn, h => by simp [opersP, Post, hn, h]
 | f + 1, n, i, hn, h => by
  unfold opersP
  cases seesP (kts l) 1 w_operator i with
  | true =>
   refine (post_oper i).bind fun c i hc => (post_opers f _ i ⟨hn.cals, hn.names, ?_, by simp [h], hn.lins, hn.clss⟩ h)
   intro x hx
   simp only [List.mem_append, List.mem_singleton] at hx
   rcases hx with hx | rfl
   ·exact hn.opers x hx
   ·exact hc
  | false => simp [Post, hn, h]
include hts in
theorem post_offs : ∀ (f : Nat) (n : Nw) (i : Nat), NwOK n → n.lins = [] → Post (offsP (kts l) f n i) (fun n' => NwOK n' ∧ n'.cals = n.cals ∧ n'.names = n.names ∧ n'.opers = n.opers ∧ n'.lins = [] ∧ n'.clss = n.clss)
 | 0, n, i, hn, h => by simp [offsP, Post, hn, h]
 | f + 1, n, i, hn, h => by
  unfold offsP
  cases seesP (kts l) 1 w_office i with
  | true =>
   refine (post_off hts n i).bind fun c i hc => (post_offs f _ i ⟨hn.cals, hn.names, hn.opers, ?_, by simp [h], hn.clss⟩ h)
   intro x hx
   simp only [List.mem_append, List.mem_singleton] at hx
   rcases hx with hx | rfl
   ·exact hn.offs x hx
   ·exact hc
  | false => simp [Post, hn, h]
include hts in
theorem post_lins : ∀ (f : Nat) (n : Nw) (i : Nat), NwOK n → Post (linsP (kts l) f n i) (fun n' => NwOK n' ∧ n'.cals = n.cals ∧ n'.names = n.names ∧ n'.opers = n.opers ∧ n'.offs = n.offs ∧ n'.clss = n.clss)
 | 0, n, i, hn => by simp [linsP, Post, hn]
 | f + 1, n, i, hn => by
  unfold linsP
  cases seesP (kts l) 1 w_line i with
  | true =>
   refine (post_lin hts n i).bind fun c i hc => (post_lins f _ i ⟨hn.cals, hn.names, hn.opers, hn.offs, ?_, hn.clss⟩)
   intro x hx
   simp only [List.mem_append, List.mem_singleton] at hx
   rcases hx with hx | rfl
   ·exact hn.lins x hx
   ·exact hc
  | false => simp [Post, hn]
include hts in
theorem post_clss : ∀ (f : Nat) (n : Nw) (i : Nat), NwOK n → Post (clssP (kts l) f n i) (fun n' => NwOK n' ∧ n'.cals = n.cals ∧ n'.names = n.names ∧ n'.opers = n.opers ∧ n'.offs = n.offs ∧ n'.lins = n.lins)
 | 0, n, i, hn => by simp [clssP, Post, hn]
 | f + 1, n, i, hn => by
  unfold clssP
  cases seesP (kts l) 1 w_class i with
  | true =>
   refine (post_cls hts i).bind fun c i hc => (post_clss f _ i ⟨hn.cals, hn.names, hn.opers, hn.offs, hn.lins, ?_⟩)
   intro x hx
   simp only [List.mem_append, List.mem_singleton] at hx
   rcases hx with hx | rfl
   ·exact hn.clss x hx
   ·exact hc
  | false => simp [Post, hn]
theorem nw0_ok : NwOK nw0 := by constructor <;> simp [nw0]
include hts in
theorem post_net : Post (netP (kts l)) NwOK := by
 unfold netP
 refine (post_cals hts _ _ 0 nw0_ok rfl).bind fun n1 i h1 => (post_opers _ _ i h1.1 h1.2.2.1).bind fun n2 i h2 => (post_offs hts _ _ i h2.1 (by rw [h2.2.2.2.2.1, h1.2.2.2.1]; rfl)).bind fun n3 i h3 => (post_lins hts _ _ i h3.1).bind fun n4 i h4 => (post_clss hts _ _ i h4.1).bind fun n5 i h5 => ?_
 cases decide (i < (kts l).length) with
 | true => simp [Post]
 | false => exact h5.1
end
theorem parse_post (s : Bs) : match parseP s with | .ok n => NwOK n ∧ s.length ≤ 8000 | .err e p => p ≤ s.length ∧ (e = 90 ∨ e = 91 ∨ e = 110 ∨ e = 2 ∨ e = 30) := by
 unfold parseP
 cases h : lexP s with
 | err e p => obtain ⟨h1, h2⟩ := lexP_err h; exact ⟨h1, by rcases h2 with rfl | rfl <;> simp⟩
 | ok l =>
  obtain ⟨h1, h2, h3⟩ := lexP_ok h
  have := post_net h1
  simp only
  cases hn : netP (kts l) with
  | ok n i => rw [hn] at this; exact ⟨this, h2⟩
  | fail e i =>
   rw [hn] at this
   refine ⟨?_, by rcases this with rfl | rfl | rfl <;> simp⟩
   unfold offs
   split
   ·rename_i t ht
    have := h3 t (List.mem_of_getElem? ht)
    omega
   ·omega
end Go.Proofs.YtbedaolpfedacaaGreatDoor
namespace Go.Proofs.YtbedaolpfedacaaGreatDoor
open Go.Av Go.Av.Net
section
variable {α : Type} {ts : List Tok} {len : Nat} {E : List AV} {H : List HO} {K : AV → KK} {X : XX}
theorem of_sec {g : Nat} (m : List Bool) {cs : List AV} {q : PR α} (fin : α → Nat → List AV) (hl : H[4]? = some (.cells cs)) (h9 : cs.length = 9) (hm : m.length = 9)
  (h : ∀ vs : List Value, vs.length = 9 → HCtr Tryz.prog g [.ptr 4 0] (oneK 4 (blend m cs vs)) (fun r H1 => ∃ a j, q = .ok a j ∧ j ≤ ts.length ∧ r = .tuple [] ∧ ∃ cs1, cs1.length = 9 ∧ back m cs1 cs = fin a j ∧ H1 = oneK 4 (blend m cs1 vs))
   (fun x H1 => ∃ e k cs1, q = .fail e k ∧ k ≤ ts.length ∧ x = failA ts len e k ∧ cs1.length = 9 ∧ H1 = oneK 4 (blend m cs1 vs)))
  (hwc : ∀ vs : List Value, vs.length = 9 → withins (oneK 4 (blend m cs vs)) (blend m cs vs) = true)
  (hk : ∀ a j, q = .ok a j → j ≤ ts.length → updK H 4 (.cells (fin a j)) fun H' => K (.tuple []) E H')
  (hX : ∀ e k cs', q = .fail e k → k ≤ ts.length → updK H 4 (.cells cs') fun H' => X (.panic (failA ts len e k)) E H') : ACall Tryz.prog g [.ptr 4 0] E H K X := by
 refine ACall.of_hr (l := 4) m
  (R := fun vs r H1 => ∃ a j, q = .ok a j ∧ j ≤ ts.length ∧ r = .tuple [] ∧ ∃ cs1, cs1.length = 9 ∧ back m cs1 cs = fin a j ∧ H1 = oneK 4 (blend m cs1 vs))
  (X' := fun vs x H1 => ∃ e k cs1, q = .fail e k ∧ k ≤ ts.length ∧ x = failA ts len e k ∧ cs1.length = 9 ∧ H1 = oneK 4 (blend m cs1 vs)) hl (by rw [h9, hm]) (fun vs hvs => h vs (by rw [hvs, h9])) (fun _ => rfl) (fun vs hvs => hwc vs (by rw [hvs, h9])) ?_ ?_
 ·rintro vs r H1 hvs ⟨a, j, q1, q2, rfl, cs1, q3, q4, rfl⟩
  exact ⟨cs1, rfl, by rw [q3, h9], by rw [q4]; exact hk a j q1 q2⟩
 ·rintro vs r H1 hvs ⟨e, k, cs1, q1, q2, rfl, q3, rfl⟩
  exact ⟨cs1, rfl, by rw [q3, h9], hX e k _ q1 q2⟩
theorem nine (vs : List Value) (hvs : vs.length = 9) : ∃ x y z, ∃ v : V6, vs = [x, y, z, v.a, v.b, v.c, v.d, v.e, v.f] := by
 match vs, hvs with
 | [x, y, z, a, b, c, d, e, f], _ => exact ⟨x, y, z, ⟨a, b, c, d, e, f⟩, rfl⟩
variable {i : Nat} {n : Nw} (ht : TsOK ts) (hi : i ≤ ts.length) {A B C D E' F : AV}
include ht hi
theorem _root_.Go.Av.ACall.of_calendars (hn : n.cals = []) (hn2 : n.names = []) (hl : H[4]? = some (.cells [.sl 3 (toksA ts), .int .i64 i, .int .i64 len, nilA, nilA, C, D, E', F]))
  (hk : ∀ n' (j : Nat), calsP (kts ts) ts.length n i = .ok n' j → j ≤ ts.length → updK H 4 (.cells [.sl 3 (toksA ts), .int .i64 j, .int .i64 len, .sl 3 (n'.cals.map calA), .sl 1 (strs n'.names), C, D, E', F]) fun H' => K (.tuple []) E H')
  (hX : ∀ e k cs', calsP (kts ts) ts.length n i = .fail e k → k ≤ ts.length → updK H 4 (.cells cs') fun H' => X (.panic (failA ts len e k)) E H') : ACall Tryz.prog 54 [.ptr 4 0] E H K X := by
 refine of_sec [false, false, false, false, false, true, true, true, true] (fun n' (j : Nat) => [.sl 3 (toksA ts), .int .i64 j, .int .i64 len, .sl 3 (n'.cals.map calA), .sl 1 (strs n'.names), C, D, E', F]) hl rfl rfl (fun vs hvs => ?_) (fun vs hvs => ?_) hk hX
 ·obtain ⟨x, y, z, v, rfl⟩ := nine vs hvs
  exact (calendars_m ts len i n v ht hi hn hn2).mono' (fun r H1 ⟨n', j, q1, q2, q3, q4⟩ => ⟨n', j, q1, q2, q3, [.sl 3 (toksA ts), .int .i64 j, .int .i64 len, .sl 3 (n'.cals.map calA), .sl 1 (strs n'.names), C, D, E', F], rfl, rfl, q4⟩)
   (fun x H1 ⟨e, k, j, l, l2, q1, q2, q3, q4⟩ => ⟨e, k, [.sl 3 (toksA ts), .int .i64 j, .int .i64 len, l, l2, C, D, E', F], q1, q2, q3, rfl, q4⟩)
 ·obtain ⟨x, y, z, v, rfl⟩ := nine vs hvs; rfl
theorem _root_.Go.Av.ACall.of_operators (hn : n.opers = []) (hl : H[4]? = some (.cells [.sl 3 (toksA ts), .int .i64 i, .int .i64 len, A, B, nilA, D, E', F]))
  (hk : ∀ n' (j : Nat), opersP (kts ts) ts.length n i = .ok n' j → j ≤ ts.length → updK H 4 (.cells [.sl 3 (toksA ts), .int .i64 j, .int .i64 len, A, B, .sl 1 (n'.opers.map operA), D, E', F]) fun H' => K (.tuple []) E H')
  (hX : ∀ e k cs', opersP (kts ts) ts.length n i = .fail e k → k ≤ ts.length → updK H 4 (.cells cs') fun H' => X (.panic (failA ts len e k)) E H') : ACall Tryz.prog 55 [.ptr 4 0] E H K X := by
 refine of_sec [false, false, false, true, true, false, true, true, true] (fun n' (j : Nat) => [.sl 3 (toksA ts), .int .i64 j, .int .i64 len, A, B, .sl 1 (n'.opers.map operA), D, E', F]) hl rfl rfl (fun vs hvs => ?_) (fun vs hvs => ?_) hk hX
 ·obtain ⟨x, y, z, v, rfl⟩ := nine vs hvs
  exact (operators_m ts len i n v ht hi hn).mono' (fun r H1 ⟨n', j, q1, q2, q3, q4⟩ => ⟨n', j, q1, q2, q3, [.sl 3 (toksA ts), .int .i64 j, .int .i64 len, A, B, .sl 1 (n'.opers.map operA), D, E', F], rfl, rfl, q4⟩)
   (fun x H1 ⟨e, k, j, l, q1, q2, q3, q4⟩ => ⟨e, k, [.sl 3 (toksA ts), .int .i64 j, .int .i64 len, A, B, l, D, E', F], q1, q2, q3, rfl, q4⟩)
 ·obtain ⟨x, y, z, v, rfl⟩ := nine vs hvs; rfl
theorem _root_.Go.Av.ACall.of_offices (hn : n.offs = []) (hno : n.opers.length ≤ 3000) (hnn : n.names.length ≤ 3000) (hl : H[4]? = some (.cells [.sl 3 (toksA ts), .int .i64 i, .int .i64 len, A, .sl 1 (strs n.names), .sl 1 (n.opers.map operA), nilA, E', F]))
  (hk : ∀ n' (j : Nat), offsP (kts ts) ts.length n i = .ok n' j → j ≤ ts.length → updK H 4 (.cells [.sl 3 (toksA ts), .int .i64 j, .int .i64 len, A, .sl 1 (strs n.names), .sl 1 (n.opers.map operA), .sl 7 (n'.offs.map offA), E', F]) fun H' => K (.tuple []) E H')
  (hX : ∀ e k cs', offsP (kts ts) ts.length n i = .fail e k → k ≤ ts.length → updK H 4 (.cells cs') fun H' => X (.panic (failA ts len e k)) E H') : ACall Tryz.prog 56 [.ptr 4 0] E H K X := by
 refine of_sec [false, false, false, true, false, false, false, true, true] (fun n' (j : Nat) => [.sl 3 (toksA ts), .int .i64 j, .int .i64 len, A, .sl 1 (strs n.names), .sl 1 (n.opers.map operA), .sl 7 (n'.offs.map offA), E', F]) hl rfl rfl (fun vs hvs => ?_) (fun vs hvs => ?_) hk hX
 ·obtain ⟨x, y, z, v, rfl⟩ := nine vs hvs
  exact (offices_m ts len i n v ht hi hn hno hnn).mono' (fun r H1 ⟨n', j, q1, q2, q3, q4⟩ => ⟨n', j, q1, q2, q3, [.sl 3 (toksA ts), .int .i64 j, .int .i64 len, A, .sl 1 (strs n.names), .sl 1 (n.opers.map operA), .sl 7 (n'.offs.map offA), E', F], rfl, rfl, q4⟩)
   (fun x H1 ⟨e, k, j, l, q1, q2, q3, q4⟩ => ⟨e, k, [.sl 3 (toksA ts), .int .i64 j, .int .i64 len, A, .sl 1 (strs n.names), .sl 1 (n.opers.map operA), l, E', F], q1, q2, q3, rfl, q4⟩)
 ·obtain ⟨x, y, z, v, rfl⟩ := nine vs hvs; rfl
theorem _root_.Go.Av.ACall.of_lines (hn : n.lins = []) (ho : n.offs.length ≤ 3000) (hl : H[4]? = some (.cells [.sl 3 (toksA ts), .int .i64 i, .int .i64 len, A, B, C, .sl 7 (n.offs.map offA), nilA, F]))
  (hk : ∀ n' (j : Nat), linsP (kts ts) ts.length n i = .ok n' j → j ≤ ts.length → updK H 4 (.cells [.sl 3 (toksA ts), .int .i64 j, .int .i64 len, A, B, C, .sl 7 (n.offs.map offA), .sl 6 (n'.lins.map linA), F]) fun H' => K (.tuple []) E H')
  (hX : ∀ e k cs', linsP (kts ts) ts.length n i = .fail e k → k ≤ ts.length → updK H 4 (.cells cs') fun H' => X (.panic (failA ts len e k)) E H') : ACall Tryz.prog 57 [.ptr 4 0] E H K X := by
 refine of_sec [false, false, false, true, true, true, false, false, true] (fun n' (j : Nat) => [.sl 3 (toksA ts), .int .i64 j, .int .i64 len, A, B, C, .sl 7 (n.offs.map offA), .sl 6 (n'.lins.map linA), F]) hl rfl rfl (fun vs hvs => ?_) (fun vs hvs => ?_) hk hX
 ·obtain ⟨x, y, z, v, rfl⟩ := nine vs hvs
  exact (lines_m ts len i n v ht hi hn ho).mono' (fun r H1 ⟨n', j, q1, q2, q3, q4⟩ => ⟨n', j, q1, q2, q3, [.sl 3 (toksA ts), .int .i64 j, .int .i64 len, A, B, C, .sl 7 (n.offs.map offA), .sl 6 (n'.lins.map linA), F], rfl, rfl, q4⟩)
   (fun x H1 ⟨e, k, j, l, q1, q2, q3, q4⟩ => ⟨e, k, [.sl 3 (toksA ts), .int .i64 j, .int .i64 len, A, B, C, .sl 7 (n.offs.map offA), l, F], q1, q2, q3, rfl, q4⟩)
 ·obtain ⟨x, y, z, v, rfl⟩ := nine vs hvs; rfl
theorem _root_.Go.Av.ACall.of_classes (hn : n.clss = []) (hl : H[4]? = some (.cells [.sl 3 (toksA ts), .int .i64 i, .int .i64 len, A, B, C, D, E', nilA]))
  (hk : ∀ n' (j : Nat), clssP (kts ts) ts.length n i = .ok n' j → j ≤ ts.length → updK H 4 (.cells [.sl 3 (toksA ts), .int .i64 j, .int .i64 len, A, B, C, D, E', .sl 3 (n'.clss.map clsA)]) fun H' => K (.tuple []) E H')
  (hX : ∀ e k cs', clssP (kts ts) ts.length n i = .fail e k → k ≤ ts.length → updK H 4 (.cells cs') fun H' => X (.panic (failA ts len e k)) E H') : ACall Tryz.prog 58 [.ptr 4 0] E H K X := by
 refine of_sec [false, false, false, true, true, true, true, true, false] (fun n' (j : Nat) => [.sl 3 (toksA ts), .int .i64 j, .int .i64 len, A, B, C, D, E', .sl 3 (n'.clss.map clsA)]) hl rfl rfl (fun vs hvs => ?_) (fun vs hvs => ?_) hk hX
 ·obtain ⟨x, y, z, v, rfl⟩ := nine vs hvs
  exact (classes_m ts len i n v ht hi hn).mono' (fun r H1 ⟨n', j, q1, q2, q3, q4⟩ => ⟨n', j, q1, q2, q3, [.sl 3 (toksA ts), .int .i64 j, .int .i64 len, A, B, C, D, E', .sl 3 (n'.clss.map clsA)], rfl, rfl, q4⟩)
   (fun x H1 ⟨e, k, j, l, q1, q2, q3, q4⟩ => ⟨e, k, [.sl 3 (toksA ts), .int .i64 j, .int .i64 len, A, B, C, D, E', l], q1, q2, q3, rfl, q4⟩)
 ·obtain ⟨x, y, z, v, rfl⟩ := nine vs hvs; rfl
end
def Ge {α : Type} (p : PR α) (i : Nat) : Prop := match p with | .ok _ j => i ≤ j | .fail _ _ => True
theorem Ge.bind {α β : Type} {p : PR α} {f : α → Nat → PR β} {i : Nat} (h : Ge p i) (hf : ∀ a j, Ge (f a j) j) : Ge (p.bind f) i := by
 cases p with
 | ok a j =>
  have := hf a j
  unfold Ge at h this ⊢
  simp only [PR.ok_bind]
  cases hh : f a j with
  | ok b k => rw [hh] at this; simp only at this ⊢; omega
  | fail e k => trivial
 | fail e k => trivial
section
variable {ts : List KT}
theorem ge_expect (k : Int) (x : Bs) (i : Nat) : Ge (expectP ts k x i) i := by
 cases h : expectP ts k x i with
 | ok a j => have := expect_j h; simp only [Ge]; omega
 | fail e k => trivial
theorem ge_expect1 (k : Int) (x : Bs) (i : Nat) : Ge (expectP ts k x i) (i + 1) := by
 cases h : expectP ts k x i with
 | ok a j => have := expect_j h; simp only [Ge]; omega
 | fail e k => trivial
theorem ge_name (i : Nat) : Ge (nameP ts i) i := by
 cases h : nameP ts i with
 | ok a j => have := name_j h; simp only [Ge]; omega
 | fail e k => trivial
theorem ge_number (i : Nat) : Ge (numberP ts i) i := by
 cases h : numberP ts i with
 | ok a j => have := number_j h; simp only [Ge]; omega
 | fail e k => trivial
theorem ge_int (i : Nat) : Ge (intP ts i) i := by
 cases h : intP ts i with
 | ok a j => have := int_j h; simp only [Ge]; omega
 | fail e k => trivial
theorem ge_week (i : Nat) : Ge (weekP ts i) i := by
 cases h : weekP ts i with
 | ok a j => have := week_j h; simp only [Ge]; omega
 | fail e k => trivial
theorem ge_code (i : Nat) : Ge (codeP ts i) i := by
 cases h : codeP ts i with
 | ok a j => have := code_j h; simp only [Ge]; omega
 | fail e k => trivial
theorem ge_field (w : Bs) (i : Nat) : Ge (fieldP ts w i) i := by
 cases h : fieldP ts w i with
 | ok a j => have := field_lt h; simp only [Ge]; omega
 | fail e k => trivial
theorem ge_ref (l : List Bs) (i : Nat) : Ge (refP ts l i) i := by
 cases h : refP ts l i with
 | ok a j => have := ref_j h; simp only [Ge]; omega
 | fail e k => trivial
theorem ge_ok {α : Type} (a : α) (i : Nat) : Ge (PR.ok a i) i := Nat.le_refl _
theorem ge_hols : ∀ (f i : Nat), Ge (holsP ts f i) i
 | 0, i => ge_ok _ _
 | f + 1, i => by
  unfold holsP
  cases seesP ts 1 w_holiday i with
  | true => exact (ge_expect 1 w_holiday i).bind fun _ i => (ge_int i).bind fun _ i => (ge_expect 3 s_semi i).bind fun _ i => (ge_hols f i).bind fun _ i => ge_ok _ _
  | false => exact ge_ok _ _
theorem ge_codes : ∀ (f i : Nat), Ge (codesP ts f i) i
 | 0, i => ge_ok _ _
 | f + 1, i => by
  unfold codesP
  cases seesP ts 3 s_semi i with
  | true => exact ge_ok _ _
  | false => exact (ge_code i).bind fun _ i => (ge_codes f i).bind fun _ i => ge_ok _ _
theorem ge_codesAll (i : Nat) : Ge (codesAllP ts i) i := by
 unfold codesAllP
 cases seesP ts 1 w_codes i with
 | true => exact (ge_expect 1 w_codes i).bind fun _ i => (ge_code i).bind fun _ i => (ge_codes _ i).bind fun _ i => (ge_expect 3 s_semi i).bind fun _ i => ge_ok _ _
 | false => exact ge_ok _ _
theorem ge_cal (i : Nat) : Ge (calP ts i) (i + 1) := by
 unfold calP
 exact (ge_expect1 1 w_calendar i).bind fun _ i => (ge_name i).bind fun _ i => (ge_expect 3 s_lb i).bind fun _ i => (ge_expect 1 w_zone i).bind fun _ i => (ge_int i).bind fun _ i => (ge_expect 3 s_semi i).bind fun _ i =>
  (ge_expect 1 w_week i).bind fun _ i => (ge_week i).bind fun _ i => (ge_expect 3 s_semi i).bind fun _ i => (ge_hols _ i).bind fun _ i => (ge_expect 3 s_rb i).bind fun _ i => ge_ok _ _
theorem ge_oper (i : Nat) : Ge (operP ts i) (i + 1) := by
 unfold operP
 exact (ge_expect1 1 w_operator i).bind fun _ i => (ge_name i).bind fun _ i => (ge_expect 3 s_semi i).bind fun _ i => ge_ok _ _
theorem ge_off (n : Nw) (i : Nat) : Ge (offP ts n i) (i + 1) := by
 unfold offP
 exact (ge_expect1 1 w_office i).bind fun _ i => (ge_name i).bind fun _ i => (ge_expect 3 s_lb i).bind fun _ i => (ge_expect 1 w_operator i).bind fun _ i => (ge_ref _ i).bind fun _ i => (ge_expect 3 s_semi i).bind fun _ i => (ge_expect 1 w_calendar i).bind fun _ i => (ge_ref _ i).bind fun _ i => (ge_expect 3 s_semi i).bind fun _ i =>
  (ge_field w_pockets i).bind fun _ i => (ge_field w_passes i).bind fun _ i => (ge_field w_minutes i).bind fun _ i => (ge_codesAll i).bind fun _ i => (ge_expect 3 s_rb i).bind fun _ i => ge_ok _ _
end
theorem cals_len {ts : List KT} : ∀ (f : Nat) (n : Nw) (i : Nat) {n' : Nw} {j : Nat}, calsP ts f n i = .ok n' j → i ≤ j ∧ n'.names.length + i ≤ n.names.length + j ∧ n'.opers = n.opers ∧ n'.offs = n.offs ∧ n'.lins = n.lins ∧ n'.clss = n.clss
 | 0, n, i, n', j, h => by cases h; simp
 | f + 1, n, i, n', j, h => by
  unfold calsP at h
  cases hs : seesP ts 1 w_calendar i with
  | false => rw [hs] at h; cases h; simp
  | true =>
   rw [hs, cond_true] at h
   have hg := ge_cal (ts := ts) i
   cases hc : calP ts i with
   | fail e k => rw [hc] at h; cases h
   | ok c i1 =>
    rw [hc] at h hg
    have := cals_len f _ _ h
    simp only [Ge, List.length_append, List.length_singleton] at hg this
    refine ⟨by omega, by omega, this.2.2⟩
theorem opers_len {ts : List KT} : ∀ (f : Nat) (n : Nw) (i : Nat) {n' : Nw} {j : Nat}, opersP ts f n i = .ok n' j → i ≤ j ∧ n'.opers.length + i ≤ n.opers.length + j ∧ n'.cals = n.cals ∧ n'.names = n.names ∧ n'.offs = n.offs ∧ n'.lins = n.lins ∧ n'.clss = n.clss
 | 0, n, i, n', j, h => by cases h; simp
 | f + 1, n, i, n', j, h => by
  unfold opersP at h
  cases hs : seesP ts 1 w_operator i with
  | false => rw [hs] at h; cases h; simp
  | true =>
   rw [hs, cond_true] at h
   have hg := ge_oper (ts := ts) i
   cases hc : operP ts i with
   | fail e k => rw [hc] at h; cases h
   | ok c i1 =>
    rw [hc] at h hg
    have := opers_len f _ _ h
    simp only [Ge, List.length_append, List.length_singleton] at hg this
    refine ⟨by omega, by omega, this.2.2⟩
theorem offs_len {ts : List KT} : ∀ (f : Nat) (n : Nw) (i : Nat) {n' : Nw} {j : Nat}, offsP ts f n i = .ok n' j → i ≤ j ∧ n'.offs.length + i ≤ n.offs.length + j ∧ n'.cals = n.cals ∧ n'.names = n.names ∧ n'.opers = n.opers ∧ n'.lins = n.lins ∧ n'.clss = n.clss
 | 0, n, i, n', j, h => by cases h; simp
 | f + 1, n, i, n', j, h => by
  unfold offsP at h
  cases hs : seesP ts 1 w_office i with
  | false => rw [hs] at h; cases h; simp
  | true =>
   rw [hs, cond_true] at h
   have hg := ge_off (ts := ts) n i
   cases hc : offP ts n i with
   | fail e k => rw [hc] at h; cases h
   | ok c i1 =>
    rw [hc] at h hg
    have := offs_len f _ _ h
    simp only [Ge, List.length_append, List.length_singleton] at hg this
    refine ⟨by omega, by omega, this.2.2⟩
theorem lins_len {ts : List KT} : ∀ (f : Nat) (n : Nw) (i : Nat) {n' : Nw} {j : Nat}, linsP ts f n i = .ok n' j → n'.cals = n.cals ∧ n'.names = n.names ∧ n'.opers = n.opers ∧ n'.offs = n.offs ∧ n'.clss = n.clss
 | 0, n, i, n', j, h => by cases h; simp
 | f + 1, n, i, n', j, h => by
  unfold linsP at h
  cases hs : seesP ts 1 w_line i with
  | false => rw [hs] at h; cases h; simp
  | true =>
   rw [hs, cond_true] at h
   cases hc : linP ts n i with
   | fail e k => rw [hc] at h; cases h
   | ok c i1 => rw [hc, PR.ok_bind] at h; have := lins_len f _ _ h; exact this
theorem clss_len {ts : List KT} : ∀ (f : Nat) (n : Nw) (i : Nat) {n' : Nw} {j : Nat}, clssP ts f n i = .ok n' j → n'.cals = n.cals ∧ n'.names = n.names ∧ n'.opers = n.opers ∧ n'.offs = n.offs ∧ n'.lins = n.lins
 | 0, n, i, n', j, h => by cases h; simp
 | f + 1, n, i, n', j, h => by
  unfold clssP at h
  cases hs : seesP ts 1 w_class i with
  | false => rw [hs] at h; cases h; simp
  | true =>
   rw [hs, cond_true] at h
   cases hc : clsP ts i with
   | fail e k => rw [hc] at h; cases h
   | ok c i1 => rw [hc, PR.ok_bind] at h; have := clss_len f _ _ h; exact this
end Go.Proofs.YtbedaolpfedacaaGreatDoor
namespace Go.Proofs.YtbedaolpfedacaaGreatDoor
open Go.Av Go.Av.Net
theorem mergeK_nil (F : List HO) : ∀ (rest : List HO) (K : List HO → Prop), mergeK F [] [] rest K ↔ K (rest.map (scrH F))
 | [], K => by simp [mergeK]
 | o :: r, K => by
  rw [mergeK, scrHK_iff, mergeK_nil F r]
  simp
def netA (n : Nw) : AV := .agg [.sl 3 (n.cals.map calA), .sl 1 (strs n.names), .sl 1 (n.opers.map operA), .sl 7 (n.offs.map offA), .sl 6 (n.lins.map linA), .sl 3 (n.clss.map clsA)]
def resP0 : Res → AV
 | .ok n => .tuple [netA n, .int .i64 0, .int .i64 (-1)]
 | .err e p => .tuple [netA nw0, .int .i64 e, .int .i64 p]
theorem merge3 (F : List HO) (a b c : List AV) (o1 o2 o3 x1 x2 x3 : HO) (r : List HO) (K : List HO → Prop) : mergeK F [.cells a, .cells b, .cells c] [o1, o2, o3] (x1 :: x2 :: x3 :: r) K ↔ K (o1 :: o2 :: o3 :: r.map (scrH F)) := by
 simp only [mergeK, mergeK_nil]
theorem rh_arr (n : List AV) (e p : Int) : ∀ i, arrAt (RH n e p) i = false
 | 0 => rfl
 | 1 => rfl
 | 2 => rfl
 | i + 3 => rfl
theorem Parse1_ok (a b c d f g : List AV) (e p : Int) : DCtr Tryz.prog 53 [.ptr 0 0, .ptr 1 0, .ptr 2 0] (RH [.sl 3 a, .sl 1 b, .sl 1 c, .sl 7 d, .sl 6 f, .sl 3 g] e p) none (fun H => H = RH [.sl 3 a, .sl 1 b, .sl 1 c, .sl 7 d, .sl 6 f, .sl 3 g] e p) := by
 refine DCtr.of_body Tryz.func53 rfl rfl tys_ok (by kernel_rfl) rfl ?_
 conv => whnf
 refine ⟨⟨by kernel_rfl, rfl⟩, ?_⟩
 conv => whnf
 refine sd_sound tys_ok _ ?_
 conv => whnf
 rfl
set_option maxRecDepth 100000 in
theorem fin0 (s : Bs) (R : AV → Prop) (vs : List Value) {E : List AV} (rest : List HO) (e p : Int) (a b c d f g : List AV) (hR : R (.tuple [.agg [.sl 3 a, .sl 1 b, .sl 1 c, .sl 7 d, .sl 6 f, .sl 3 g], .int .i64 e, .int .i64 p])) :
  endD Tryz.prog tys Tryz.f16.results.toList R 53 3 none (.str s :: .any :: .ptr 0 0 :: .ptr 1 0 :: .ptr 2 0 :: E) (RH [.sl 3 a, .sl 1 b, .sl 1 c, .sl 7 d, .sl 6 f, .sl 3 g] e p ++ .ghost [.ptr 0 0, .ptr 1 0, .ptr 2 0] vs [] :: rest) := by
 unfold endD
 refine (lkK_iff _ _ _).2 ⟨.ghost [.ptr 0 0, .ptr 1 0, .ptr 2 0] vs [], rfl, ?_⟩
 refine DCall.of_d (Parse1_ok a b c d f g e p) rfl rfl ⟨rfl, rfl, rfl, rfl, rfl, rfl, trivial⟩ ?_
 rintro H1 rfl
 rw [scrK_iff, scrs_id (rh_arr _ _ _)]
 show mergeK (RH [.sl 3 a, .sl 1 b, .sl 1 c, .sl 7 d, .sl 6 f, .sl 3 g] e p) [.cells [.sl 3 a, .sl 1 b, .sl 1 c, .sl 7 d, .sl 6 f, .sl 3 g], .cells [.int .i64 e], .cells [.int .i64 p]] [.cells [.sl 3 a, .sl 1 b, .sl 1 c, .sl 7 d, .sl 6 f, .sl 3 g], .cells [.int .i64 e], .cells [.int .i64 p]] (.cells [.sl 3 a, .sl 1 b, .sl 1 c, .sl 7 d, .sl 6 f, .sl 3 g] :: .cells [.int .i64 e] :: .cells [.int .i64 p] :: .ghost [.ptr 0 0, .ptr 1 0, .ptr 2 0] vs [] :: rest) _
 rw [merge3]
 generalize List.map _ (HO.ghost [.ptr 0 0, .ptr 1 0, .ptr 2 0] vs [] :: rest) = r
 conv => whnf
 exact hR
set_option maxRecDepth 100000 in
theorem fin1 (s : Bs) (R : AV → Prop) (vs : List Value) {E : List AV} (rest : List HO) (e p : Int) (hR : R (.tuple [netA nw0, .int .i64 e, .int .i64 p])) :
  endD Tryz.prog tys Tryz.f16.results.toList R 53 3 (some (.iface 85 (.agg [.int .i64 e, .int .i64 p]))) (.str s :: .any :: .ptr 0 0 :: .ptr 1 0 :: .ptr 2 0 :: E) (RH net0 0 (-1) ++ .ghost [.ptr 0 0, .ptr 1 0, .ptr 2 0] vs [] :: rest) := by
 unfold endD
 refine (lkK_iff _ _ _).2 ⟨.ghost [.ptr 0 0, .ptr 1 0, .ptr 2 0] vs [], rfl, ?_⟩
 refine DCall.of_d (Parse1_some 0 (-1) e p net0 rfl) rfl rfl ⟨rfl, rfl, rfl, rfl, rfl, rfl, trivial⟩ ?_
 rintro H1 rfl
 rw [scrK_iff, scrs_id (rh_arr _ _ _)]
 show mergeK (RH net0 0 (-1)) [.cells net0, .cells [.int .i64 0], .cells [.int .i64 (-1)]] [.cells net0, .cells [.int .i64 e], .cells [.int .i64 p]] (.cells net0 :: .cells [.int .i64 0] :: .cells [.int .i64 (-1)] :: .ghost [.ptr 0 0, .ptr 1 0, .ptr 2 0] vs [] :: rest) _
 rw [merge3]
 generalize List.map (scrH (RH net0 0 (-1))) (HO.ghost [.ptr 0 0, .ptr 1 0, .ptr 2 0] vs [] :: rest) = r
 conv => whnf
 refine ⟨3, ?_⟩
 conv => whnf
 refine ⟨1, ?_⟩
 conv => whnf
 refine ⟨1, ?_⟩
 conv => whnf
 refine ⟨7, ?_⟩
 conv => whnf
 refine ⟨6, ?_⟩
 conv => whnf
 refine ⟨3, ?_⟩
 conv => whnf
 exact hR
end Go.Proofs.YtbedaolpfedacaaGreatDoor
namespace Go.Proofs.YtbedaolpfedacaaGreatDoor
open Go.Av Go.Av.Net
theorem ge_lin {ts : List KT} (n : Nw) (i : Nat) : Ge (linP ts n i) i := by
 unfold linP
 exact (ge_expect 1 w_line i).bind fun _ i => (ge_name i).bind fun _ i => (ge_expect 3 s_colon i).bind fun _ i => (ge_ref _ i).bind fun _ i => (ge_expect 3 s_arrow i).bind fun _ i => (ge_ref _ i).bind fun _ i => (ge_expect 1 w_at i).bind fun _ i => (ge_number i).bind fun _ i =>
  (ge_expect 1 w_travel i).bind fun _ i => (ge_number i).bind fun _ i => (ge_expect 1 w_load i).bind fun _ i => (ge_number i).bind fun _ i => (ge_expect 3 s_semi i).bind fun _ i => ge_ok _ _
theorem ge_cls {ts : List KT} (i : Nat) : Ge (clsP ts i) i := by
 unfold clsP
 exact (ge_expect 1 w_class i).bind fun _ i => (ge_name i).bind fun _ i => (ge_expect 3 s_lb i).bind fun _ i => (ge_field w_cut i).bind fun _ i => (ge_field w_deliver i).bind fun _ i => (ge_expect 3 s_rb i).bind fun _ i => ge_ok _ _
theorem ge_lins {ts : List KT} : ∀ (f : Nat) (n : Nw) (i : Nat), Ge (linsP ts f n i) i
 | 0, n, i => ge_ok _ _
 | f + 1, n, i => by
  unfold linsP
  cases seesP ts 1 w_line i with
  | true => exact (ge_lin n i).bind fun _ i => ge_lins f _ i
  | false => exact ge_ok _ _
theorem ge_clss {ts : List KT} : ∀ (f : Nat) (n : Nw) (i : Nat), Ge (clssP ts f n i) i
 | 0, n, i => ge_ok _ _
 | f + 1, n, i => by
  unfold clssP
  cases seesP ts 1 w_class i with
  | true => exact (ge_cls i).bind fun _ i => ge_clss f _ i
  | false => exact ge_ok _ _
theorem ge_lines {ts : List KT} {f : Nat} {n n' : Nw} {i j : Nat} (h : linsP ts f n i = .ok n' j) : i ≤ j := by
 have := ge_lins (ts := ts) f n i; rw [h] at this; exact this
theorem ge_classes {ts : List KT} {f : Nat} {n n' : Nw} {i j : Nat} (h : clssP ts f n i = .ok n' j) : i ≤ j := by
 have := ge_clss (ts := ts) f n i; rw [h] at this; exact this
def ch5 (ts : List KT) (L : Nat) (n : Nw) (i : Nat) : PR Nw := bif decide (i < L) then .fail 90 i else .ok n i
def ch4 (ts : List KT) (L : Nat) (n : Nw) (i : Nat) : PR Nw := (clssP ts L n i).bind (ch5 ts L)
def ch3 (ts : List KT) (L : Nat) (n : Nw) (i : Nat) : PR Nw := (linsP ts L n i).bind (ch4 ts L)
def ch2 (ts : List KT) (L : Nat) (n : Nw) (i : Nat) : PR Nw := (offsP ts L n i).bind (ch3 ts L)
def ch1 (ts : List KT) (L : Nat) (n : Nw) (i : Nat) : PR Nw := (opersP ts L n i).bind (ch2 ts L)
def ch0 (ts : List KT) (L : Nat) (n : Nw) (i : Nat) : PR Nw := (calsP ts L n i).bind (ch1 ts L)
def chain (ts : List KT) (L : Nat) : Nat → Nw → Nat → PR Nw
 | 0 => ch0 ts L
 | 1 => ch1 ts L
 | 2 => ch2 ts L
 | 3 => ch3 ts L
 | 4 => ch4 ts L
 | _ => ch5 ts L
def fldA (k m : Nat) (l : AV) : AV := bif Nat.ble k m then nilA else l
def PC (ts : List Tok) (len k i : Nat) (n : Nw) : List AV :=
 [.sl 3 (toksA ts), .int .i64 i, .int .i64 len, fldA k 0 (.sl 3 (n.cals.map calA)), fldA k 0 (.sl 1 (strs n.names)), fldA k 1 (.sl 1 (n.opers.map operA)), fldA k 2 (.sl 7 (n.offs.map offA)), fldA k 3 (.sl 6 (n.lins.map linA)), fldA k 4 (.sl 3 (n.clss.map clsA))]
def secsA : List AV := [.mv 54 [.ptr 4 0], .mv 55 [.ptr 4 0], .mv 56 [.ptr 4 0], .mv 57 [.ptr 4 0], .mv 58 [.ptr 4 0]]
structure StepOK (ts : List Tok) (k i : Nat) (n : Nw) : Prop where
 k5 : k ≤ 5
 hi : i ≤ ts.length
 net : netP (kts ts) = chain (kts ts) ts.length k n i
 cals : k ≤ 0 → n.cals = [] ∧ n.names = []
 opers : k ≤ 1 → n.opers = []
 offs : k ≤ 2 → n.offs = []
 lins : k ≤ 3 → n.lins = []
 clss : k ≤ 4 → n.clss = []
 ln : n.names.length ≤ i
 lo : n.opers.length ≤ i
 lf : n.offs.length ≤ i
set_option maxRecDepth 100000 in
set_option maxHeartbeats 4000000 in
theorem Parse_spec0 (s : Bs) (hs : s.length ≤ 9223372036854775807) : Ctr Tryz.prog 16 [.str s] (fun r => r = resP0 (parseP s)) := by
 refine Ctr.of_body_defer Tryz.func16 rfl tys_ok (by kernel_rfl) ?_
 conv => whnf
 refine ADef.seq1 (cd_sound tys_ok _ ?_)
 conv => whnf
 refine ADef.seq1 (cd_sound tys_ok _ ?_)
 conv => whnf
 refine ACall.of_spec (Lex_spec s hs) rfl fun r hr => ?_
 subst hr
 conv => whnf
 have hpp := parse_post s
 cases hL : lexP s with
 | err e q =>
  obtain ⟨h1, h2⟩ := lexP_err hL
  have hP : parseP s = .err e q := by unfold parseP; rw [hL]
  rw [hP]
  conv => whnf
  refine ADef.seq1 (cd_sound tys_ok _ ?_)
  conv => whnf
  refine ⟨fun h => ?_, fun h => absurd h (by rcases h2 with rfl | rfl <;> simp)⟩
  conv => whnf
  refine ACode.drawAll (.one 0 (.one 1 (.one 2 (.one 3 (.one 4 (.one 5 .done .none) .none) .none) (.one 3 (.one 2 (.one 4 (.one 5 .done .none) .none) (.one 4 (.one 2 (.one 5 .done .none) .none) .none)) .none)) (.one 2 (.one 1 (.one 3 (.one 4 (.one 5 .done .none) .none) .none) (.one 3 (.one 1 (.one 4 (.one 5 .done .none) .none) .none) .none)) (.one 3 (.one 1 (.one 2 (.one 4 (.one 5 .done .none) .none) (.one 4 (.one 2 (.one 5 .done .none) .none) .none)) (.one 2 (.one 1 (.one 4 (.one 5 .done .none) .none) .none) .none)) .none))) (.one 1 (.one 0 (.one 2 (.one 3 (.one 4 (.one 5 .done .none) .none) .none) (.one 3 (.one 2 (.one 4 (.one 5 .done .none) .none) (.one 4 (.one 2 (.one 5 .done .none) .none) .none)) .none)) (.one 2 (.one 0 (.one 3 (.one 4 (.one 5 .done .none) .none) .none) .none) .none)) (.one 2 (.one 0 (.one 1 (.one 3 (.one 4 (.one 5 .done .none) .none) .none) (.one 3 (.one 1 (.one 4 (.one 5 .done .none) .none) .none) .none)) (.one 1 (.one 0 (.one 3 (.one 4 (.one 5 .done .none) .none) .none) .none) .none)) .none))) tys_ok (by kernel_rfl) (by kernel_rfl) ?_
  repeat' (first | exact True.intro | (refine EnF.step ?_; conv => whnf) | (refine And.intro ?_ ?_ <;> conv => whnf))
  all_goals (
   refine ⟨3, ?_⟩
   (conv => whnf)
   refine ⟨1, ?_⟩
   (conv => whnf)
   refine ⟨1, ?_⟩
   (conv => whnf)
   refine ⟨7, ?_⟩
   (conv => whnf)
   refine ⟨6, ?_⟩
   (conv => whnf)
   refine ⟨3, ?_⟩
   rfl)
 | ok ts =>
  obtain ⟨ht, h8, hpos⟩ := lexP_ok hL
  have hl := ht.len
  have hP : parseP s = match netP (kts ts) with | .ok n _ => .ok n | .fail e i => .err e (offs ts s.length i) := by unfold parseP; rw [hL]; rfl
  conv => whnf
  refine ADef.seq1 (cd_sound tys_ok _ ?_)
  conv => whnf
  refine ⟨fun h => absurd h (by simp), fun h => ?_⟩
  conv => whnf
  refine ADef.seq2 (ADef.region tys_ok ?_)
  conv => whnf
  refine ⟨by kernel_rfl, ?_⟩
  conv => whnf
  intro vs
  repeat (first | (refine ACode.st tys_ok rfl ?_; conv => whnf))
  have hlen : (kts ts).length = ts.length := by simp [kts]
  have hnet : netP (kts ts) = ch0 (kts ts) ts.length nw0 0 := by unfold netP; rw [hlen]; rfl
  have fin : ∀ {E : List AV} (rest : List HO) (e : Int) (k : Nat), netP (kts ts) = .fail e k → endD Tryz.prog tys Tryz.f16.results.toList (fun r => r = resP0 (parseP s)) 53 3 (some (failA ts s.length e k)) (.str s :: .any :: .ptr 0 0 :: .ptr 1 0 :: .ptr 2 0 :: E) (RH net0 0 (-1) ++ .ghost [.ptr 0 0, .ptr 1 0, .ptr 2 0] vs [] :: rest) :=
   fun rest e k h => fin1 s _ vs rest e _ (by rw [hP, h]; rfl)
  refine ACode.loopT (fun x : Nat × Nat × Nw => mk 61 [(0, .str s), (2, .ptr 0 0), (3, .ptr 1 0), (4, .ptr 2 0), (6, .ptr 4 0), (36, .own 5 1 0 5), (37, .int .i64 5), (38, .int .i64 x.1)]) (fun x => RH net0 0 (-1) ++ [.ghost [.ptr 0 0, .ptr 1 0, .ptr 2 0] vs [], .cells (PC ts s.length x.1 x.2.1 x.2.2), .arr 1 1 secsA])
   (fun x => StepOK ts x.1 x.2.1 x.2.2) (fun x => 5 - x.1) ⟨(0, 0, nw0), ?_⟩ fun x hx => ?_
  ·conv => whnf
   repeat (refine And.intro ?_ ?_; (focus (first | rfl | (simp; done))); conv => whnf)
   exact ⟨by simp only; omega, by simp only; omega, hnet, fun _ => ⟨rfl, rfl⟩, fun _ => rfl, fun _ => rfl, fun _ => rfl, fun _ => rfl, Nat.le_refl _, Nat.le_refl _, Nat.le_refl _⟩
  ·obtain ⟨k, i, n⟩ := x
   simp only at hx
   repeat (first | (refine ACode.st tys_ok rfl ?_; conv => whnf))
   refine ⟨fun hk => ?_, fun hk => ?_⟩
   ·have hk : k < 5 := by simp at hk; omega
    repeat (first | (refine ACode.st tys_ok rfl ?_; conv => whnf))
    have hkc : k = 0 ∨ k = 1 ∨ k = 2 ∨ k = 3 ∨ k = 4 := by omega
    rcases hkc with rfl | rfl | rfl | rfl | rfl
    ·refine ⟨⟨by simp, by simp⟩, _, rfl, ?_⟩
     conv => whnf
     repeat (first | (refine ACode.st tys_ok rfl ?_; conv => whnf))
     refine ACall.of_calendars ht hx.hi (hx.cals (by omega)).1 (hx.cals (by omega)).2 rfl (fun n' j hq hj => ?_) (fun e k' cs' h hk2 => ?_)
     ·(conv => whnf)
      repeat (first | (refine ACode.st tys_ok rfl ?_; conv => whnf))
      have lq := cals_len _ _ _ hq
      obtain ⟨c1, c2, c3, c4, c5, c6⟩ := n
      simp only at lq
      obtain ⟨l1, l2, rfl, rfl, rfl, rfl⟩ := lq
      refine ⟨(1, j, n'), ?_⟩
      conv => whnf
      repeat (refine And.intro ?_ ?_; (focus (first | rfl | (simp; done) | (show Wr .i64 _ = _; rw [Wr64 _ (by simp) (by simp)]; simp; done))); conv => whnf)
      exact ⟨⟨by simp only; omega, hj, by rw [hx.net]; show ch0 _ _ _ _ = _; unfold ch0; rw [hq]; rfl, fun h => absurd h (by simp), fun h => hx.opers (by omega), fun h => hx.offs (by omega), fun h => hx.lins (by omega), fun h => hx.clss (by omega), by have := hx.ln; simp only at this ⊢; omega, by have := hx.opers (by omega); simp only at this; rw [this]; exact Nat.zero_le _, by have := hx.offs (by omega); simp only at this; rw [this]; exact Nat.zero_le _⟩, by simp⟩
     ·(conv => whnf)
      exact ⟨⟨_, rfl⟩, fin _ e k' (by rw [hx.net]; show ch0 _ _ _ _ = _; unfold ch0; rw [h]; rfl)⟩
    ·refine ⟨⟨by simp, by simp⟩, _, rfl, ?_⟩
     conv => whnf
     repeat (first | (refine ACode.st tys_ok rfl ?_; conv => whnf))
     refine ACall.of_operators ht hx.hi (hx.opers (by omega)) rfl (fun n' j hq hj => ?_) (fun e k' cs' h hk2 => ?_)
     ·(conv => whnf)
      repeat (first | (refine ACode.st tys_ok rfl ?_; conv => whnf))
      have lq := opers_len _ _ _ hq
      obtain ⟨c1, c2, c3, c4, c5, c6⟩ := n
      simp only at lq
      obtain ⟨l1, l2, rfl, rfl, rfl, rfl, rfl⟩ := lq
      refine ⟨(2, j, n'), ?_⟩
      conv => whnf
      repeat (refine And.intro ?_ ?_; (focus (first | rfl | (simp; done) | (show Wr .i64 _ = _; rw [Wr64 _ (by simp) (by simp)]; simp; done))); conv => whnf)
      exact ⟨⟨by simp only; omega, hj, by rw [hx.net]; show ch1 _ _ _ _ = _; unfold ch1; rw [hq]; rfl, fun h => absurd h (by simp), fun h => absurd h (by simp), fun h => hx.offs (by omega), fun h => hx.lins (by omega), fun h => hx.clss (by omega), by have := hx.ln; simp only at this ⊢; omega, by have := hx.lo; simp only at this ⊢; omega, by have := hx.offs (by omega); simp only at this; rw [this]; exact Nat.zero_le _⟩, by simp⟩
     ·(conv => whnf)
      exact ⟨⟨_, rfl⟩, fin _ e k' (by rw [hx.net]; show ch1 _ _ _ _ = _; unfold ch1; rw [h]; rfl)⟩
    ·refine ⟨⟨by simp, by simp⟩, _, rfl, ?_⟩
     conv => whnf
     repeat (first | (refine ACode.st tys_ok rfl ?_; conv => whnf))
     refine ACall.of_offices ht hx.hi (hx.offs (by omega)) (by have := hx.lo; have := hx.hi; omega) (by have := hx.ln; have := hx.hi; omega) rfl (fun n' j hq hj => ?_) (fun e k' cs' h hk2 => ?_)
     ·(conv => whnf)
      repeat (first | (refine ACode.st tys_ok rfl ?_; conv => whnf))
      have lq := offs_len _ _ _ hq
      obtain ⟨c1, c2, c3, c4, c5, c6⟩ := n
      simp only at lq
      obtain ⟨l1, l2, rfl, rfl, rfl, rfl, rfl⟩ := lq
      refine ⟨(3, j, n'), ?_⟩
      conv => whnf
      repeat (refine And.intro ?_ ?_; (focus (first | rfl | (simp; done) | (show Wr .i64 _ = _; rw [Wr64 _ (by simp) (by simp)]; simp; done))); conv => whnf)
      exact ⟨⟨by simp only; omega, hj, by rw [hx.net]; show ch2 _ _ _ _ = _; unfold ch2; rw [hq]; rfl, fun h => absurd h (by simp), fun h => absurd h (by simp), fun h => absurd h (by simp), fun h => hx.lins (by omega), fun h => hx.clss (by omega), by have := hx.ln; simp only at this ⊢; omega, by have := hx.lo; simp only at this ⊢; omega, by have := hx.lf; simp only at this ⊢; omega⟩, by simp⟩
     ·(conv => whnf)
      exact ⟨⟨_, rfl⟩, fin _ e k' (by rw [hx.net]; show ch2 _ _ _ _ = _; unfold ch2; rw [h]; rfl)⟩
    ·refine ⟨⟨by simp, by simp⟩, _, rfl, ?_⟩
     conv => whnf
     repeat (first | (refine ACode.st tys_ok rfl ?_; conv => whnf))
     refine ACall.of_lines ht hx.hi (hx.lins (by omega)) (by have := hx.lf; have := hx.hi; omega) rfl (fun n' j hq hj => ?_) (fun e k' cs' h hk2 => ?_)
     ·(conv => whnf)
      repeat (first | (refine ACode.st tys_ok rfl ?_; conv => whnf))
      have lq := lins_len _ _ _ hq
      have l1 : i ≤ j := ge_lines hq
      obtain ⟨c1, c2, c3, c4, c5, c6⟩ := n
      simp only at lq
      obtain ⟨rfl, rfl, rfl, rfl, rfl⟩ := lq
      refine ⟨(4, j, n'), ?_⟩
      conv => whnf
      repeat (refine And.intro ?_ ?_; (focus (first | rfl | (simp; done) | (show Wr .i64 _ = _; rw [Wr64 _ (by simp) (by simp)]; simp; done))); conv => whnf)
      exact ⟨⟨by simp only; omega, hj, by rw [hx.net]; show ch3 _ _ _ _ = _; unfold ch3; rw [hq]; rfl, fun h => absurd h (by simp), fun h => absurd h (by simp), fun h => absurd h (by simp), fun h => absurd h (by simp), fun h => hx.clss (by omega), by have := hx.ln; simp only at this ⊢; omega, by have := hx.lo; simp only at this ⊢; omega, by have := hx.lf; simp only at this ⊢; omega⟩, by simp⟩
     ·(conv => whnf)
      exact ⟨⟨_, rfl⟩, fin _ e k' (by rw [hx.net]; show ch3 _ _ _ _ = _; unfold ch3; rw [h]; rfl)⟩
    ·refine ⟨⟨by simp, by simp⟩, _, rfl, ?_⟩
     conv => whnf
     repeat (first | (refine ACode.st tys_ok rfl ?_; conv => whnf))
     refine ACall.of_classes ht hx.hi (hx.clss (by omega)) rfl (fun n' j hq hj => ?_) (fun e k' cs' h hk2 => ?_)
     ·(conv => whnf)
      repeat (first | (refine ACode.st tys_ok rfl ?_; conv => whnf))
      have lq := clss_len _ _ _ hq
      have l1 : i ≤ j := ge_classes hq
      obtain ⟨c1, c2, c3, c4, c5, c6⟩ := n
      simp only at lq
      obtain ⟨rfl, rfl, rfl, rfl, rfl⟩ := lq
      refine ⟨(5, j, n'), ?_⟩
      conv => whnf
      repeat (refine And.intro ?_ ?_; (focus (first | rfl | (simp; done) | (show Wr .i64 _ = _; rw [Wr64 _ (by simp) (by simp)]; simp; done))); conv => whnf)
      exact ⟨⟨by simp only; omega, hj, by rw [hx.net]; show ch4 _ _ _ _ = _; unfold ch4; rw [hq]; rfl, fun h => absurd h (by simp), fun h => absurd h (by simp), fun h => absurd h (by simp), fun h => absurd h (by simp), fun h => absurd h (by simp), by have := hx.ln; simp only at this ⊢; omega, by have := hx.lo; simp only at this ⊢; omega, by have := hx.lf; simp only at this ⊢; omega⟩, by simp⟩
     ·(conv => whnf)
      exact ⟨⟨_, rfl⟩, fin _ e k' (by rw [hx.net]; show ch4 _ _ _ _ = _; unfold ch4; rw [h]; rfl)⟩
   ·have hk : k = 5 := by have := hx.k5; simp at hk; omega
    subst hk
    have hi := hx.hi
    repeat (first | (refine ACode.st tys_ok rfl ?_; conv => whnf))
    refine ACode.draw [] tys_ok (by kernel_rfl) (by kernel_rfl) ?_
    conv => whnf
    refine ⟨fun h => ?_, fun h => ?_⟩
    ·have h : i < ts.length := by simp [toksA] at h; omega
     conv => whnf
     repeat (first | (refine ACode.st tys_ok rfl ?_; conv => whnf))
     refine ACall.of_wrong (p := netP (kts ts)) ts s.length i hl hi (by rw [hx.net, if_pos h]; show ch5 (kts ts) ts.length n i = _; unfold ch5; rw [decide_eq_true h]; rfl) rfl (fun j e k h hk => ?_)
     (conv => whnf)
     exact ⟨⟨_, rfl⟩, fin _ e k h⟩
    ·have h : ¬ i < ts.length := by simp [toksA] at h; omega
     have hok : netP (kts ts) = .ok n i := by rw [hx.net]; show ch5 (kts ts) ts.length n i = _; unfold ch5; rw [decide_eq_false h]; rfl
     conv => whnf
     repeat (first | (refine ACode.st tys_ok rfl ?_; conv => whnf))
     exact ⟨⟨_, rfl⟩, fin0 s _ vs _ 0 (-1) _ _ _ _ _ _ (by rw [hP, hok]; rfl)⟩
end Go.Proofs.YtbedaolpfedacaaGreatDoor
