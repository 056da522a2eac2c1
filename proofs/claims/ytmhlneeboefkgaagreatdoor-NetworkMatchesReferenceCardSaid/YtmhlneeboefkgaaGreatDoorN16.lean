import Derived.Test.YtmhlneeboefkgaaGreatDoorN15
set_option linter.unusedVariables false
set_option linter.unusedSimpArgs false
namespace Go.Proofs.YtmhlneeboefkgaaGreatDoor
open Go.Av Go.Av.Net
theorem field_lt {ts : List KT} {w : Bs} {i j : Nat} {a : Int} (h : fieldP ts w i = .ok a j) : j = i + 3 := by
 unfold fieldP at h
 cases h1 : expectP ts 1 w i with
 | fail e k => rw [h1] at h; cases h
 | ok a1 i1 =>
  rw [h1, PR.ok_bind] at h
  cases h2 : numberP ts i1 with
  | fail e k => rw [h2] at h; cases h
  | ok a2 i2 =>
   rw [h2, PR.ok_bind] at h
   cases h3 : expectP ts 3 s_semi i2 with
   | fail e k => rw [h3] at h; cases h
   | ok a3 i3 =>
    rw [h3, PR.ok_bind] at h
    cases h
    have := expect_j h1; have := number_j h2; have := expect_j h3
    omega
set_option maxRecDepth 20000 in
theorem classes_m (ts : List Tok) (len i : Nat) (n : Nw) (v : V6) (ht : TsOK ts) (hi : i ≤ ts.length) (hn : n.clss = []) :
  HCtr Tryz.prog 16 [.ptr 4 0] (PQ ts len i (.raw v.a) (.raw v.b) (.raw v.c) (.raw v.d) (.raw v.e) nilA)
   (fun r H => ∃ n' j, clssP (kts ts) ts.length n i = .ok n' j ∧ j ≤ ts.length ∧ r = .tuple [] ∧ H = PQ ts len j (.raw v.a) (.raw v.b) (.raw v.c) (.raw v.d) (.raw v.e) (.sl 3 (n'.clss.map clsA)))
   (fun x H => ∃ e k j l, clssP (kts ts) ts.length n i = .fail e k ∧ k ≤ ts.length ∧ x = failA ts len e k ∧ H = PQ ts len j (.raw v.a) (.raw v.b) (.raw v.c) (.raw v.d) (.raw v.e) l) := by
 have hl := ht.len
 generalize hp : clssP (kts ts) ts.length n i = p
 replace hp := hp.symm
 refine HCtr.of_body Tryz.func16 rfl tys_ok (by kernel_rfl) rfl ?_
 conv => whnf
 repeat (first | refine ACode.seq ?_ | (refine ACode.s_reg tys_ok ?_; conv => whnf) | refine ACode.s_block ?_ | refine ACode.s_scope ?_ | (refine ACode.s_cond ?_; conv => whnf) | (refine ACode.s_exit ?_; conv => whnf) | (refine ACode.s_ret ?_; conv => whnf) | (refine ACode.s_skip ?_; conv => whnf) | (refine ACode.s_label ?_; conv => whnf))
 refine ACode.nilCell 4 8 49 3 rfl rfl ?_
 refine ACode.loopD (fun x : Nat × Nat × Nw => mk 32 [(0, .ptr 4 0)]) (fun x => PQ ts len x.2.1 (.raw v.a) (.raw v.b) (.raw v.c) (.raw v.d) (.raw v.e) (.own 5 3 0 x.2.2.clss.length) ++ [.arr 49 3 (x.2.2.clss.map clsA)])
  (fun x => p = clssP (kts ts) x.1 x.2.2 x.2.1 ∧ x.2.1 ≤ ts.length ∧ ts.length ≤ x.2.1 + x.1 ∧ x.2.2.clss.length ≤ x.2.1) (fun x => x.1)
  (fun x hx => ⟨rfl, ?_⟩) ⟨(ts.length, i, n), ?_⟩ (fun _ => rfl) fun x hx => ?_
 ·(conv => whnf)
  refine ⟨rfl, ?_⟩
  (conv => whnf)
  exact ⟨closed_map _ (fun _ => rfl) _, trivial⟩
 ·conv => whnf
  repeat (refine And.intro ?_ ?_; (focus (first | rfl | (simp; done) | (simp [hn, PQ, oneK]; done))); conv => whnf)
  exact ⟨hp, hi, by simp, by simp [hn]⟩
 ·obtain ⟨f, i, n⟩ := x
  obtain ⟨hp, hi, hf, hn⟩ := hx
  simp only at hp hi hf hn
  repeat (first | refine ACode.seq ?_ | (refine ACode.s_reg tys_ok ?_; conv => whnf) | refine ACode.s_block ?_ | refine ACode.s_scope ?_ | (refine ACode.s_cond ?_; conv => whnf) | (refine ACode.s_exit ?_; conv => whnf) | (refine ACode.s_ret ?_; conv => whnf) | (refine ACode.s_skip ?_; conv => whnf) | (refine ACode.s_label ?_; conv => whnf))
  refine ACall.of_m0 (has_m ts len i w_class hl hi) (fun _ => rfl) rfl ?_
  conv => whnf
  repeat (first | refine ACode.seq ?_ | (refine ACode.s_reg tys_ok ?_; conv => whnf) | refine ACode.s_block ?_ | refine ACode.s_scope ?_ | (refine ACode.s_cond ?_; conv => whnf) | (refine ACode.s_exit ?_; conv => whnf) | (refine ACode.s_ret ?_; conv => whnf) | (refine ACode.s_skip ?_; conv => whnf) | (refine ACode.s_label ?_; conv => whnf))
  refine ⟨fun hs => ?_, fun hs => ?_⟩
  ·have hlt := sees_le hs
   obtain ⟨f, rfl⟩ : ∃ g, f = g + 1 := ⟨f - 1, by omega⟩
   unfold clssP clsP at hp
   rw [hs, cond_true] at hp
   simp only [PR.bind_assoc, PR.ok_bind] at hp
   repeat (first | refine ACode.seq ?_ | (refine ACode.s_reg tys_ok ?_; conv => whnf) | refine ACode.s_block ?_ | refine ACode.s_scope ?_ | (refine ACode.s_cond ?_; conv => whnf) | (refine ACode.s_exit ?_; conv => whnf) | (refine ACode.s_ret ?_; conv => whnf) | (refine ACode.s_skip ?_; conv => whnf) | (refine ACode.s_label ?_; conv => whnf))
   refine ACall.of_m (word_m ts len i w_class hl hi) hp (fun _ => rfl) rfl (fun j e k h hk => ?_) (fun _ i1 hq hp hi => ?_)
   ·conv => whnf
    refine ⟨⟨by simp, closed_map _ (fun _ => rfl) _⟩, ?_⟩; (conv => whnf); exact ⟨_, _, _, _, h, hk, rfl, rfl⟩
   conv => whnf
   repeat (first | refine ACode.seq ?_ | (refine ACode.s_reg tys_ok ?_; conv => whnf) | refine ACode.s_block ?_ | refine ACode.s_scope ?_ | (refine ACode.s_cond ?_; conv => whnf) | (refine ACode.s_exit ?_; conv => whnf) | (refine ACode.s_ret ?_; conv => whnf) | (refine ACode.s_skip ?_; conv => whnf) | (refine ACode.s_label ?_; conv => whnf))
   have e1 := expect_j hq
   refine ACall.of_m (name_m ts len i1 ht hi) hp (fun _ => rfl) rfl (fun j e k h hk => ?_) (fun x i2 hq hp hi => ?_)
   ·conv => whnf
    refine ⟨⟨by simp, closed_map _ (fun _ => rfl) _⟩, ?_⟩; (conv => whnf); exact ⟨_, _, _, _, h, hk, rfl, rfl⟩
   conv => whnf
   repeat (first | refine ACode.seq ?_ | (refine ACode.s_reg tys_ok ?_; conv => whnf) | refine ACode.s_block ?_ | refine ACode.s_scope ?_ | (refine ACode.s_cond ?_; conv => whnf) | (refine ACode.s_exit ?_; conv => whnf) | (refine ACode.s_ret ?_; conv => whnf) | (refine ACode.s_skip ?_; conv => whnf) | (refine ACode.s_label ?_; conv => whnf))
   have e2 := name_j hq
   refine ACall.of_m (symbol_m ts len i2 s_lb hl hi) hp (fun _ => rfl) rfl (fun j e k h hk => ?_) (fun _ i3 hq hp hi => ?_)
   ·conv => whnf
    refine ⟨⟨by simp, closed_map _ (fun _ => rfl) _⟩, ?_⟩; (conv => whnf); exact ⟨_, _, _, _, h, hk, rfl, rfl⟩
   conv => whnf
   repeat (first | refine ACode.seq ?_ | (refine ACode.s_reg tys_ok ?_; conv => whnf) | refine ACode.s_block ?_ | refine ACode.s_scope ?_ | (refine ACode.s_cond ?_; conv => whnf) | (refine ACode.s_exit ?_; conv => whnf) | (refine ACode.s_ret ?_; conv => whnf) | (refine ACode.s_skip ?_; conv => whnf) | (refine ACode.s_label ?_; conv => whnf))
   have e3 := expect_j hq
   refine ACall.of_m (field_m ts len i3 w_cut ht hi) hp (fun _ => rfl) rfl (fun j e k h hk => ?_) (fun cut i4 hq hp hi => ?_)
   ·conv => whnf
    refine ⟨⟨by simp, closed_map _ (fun _ => rfl) _⟩, ?_⟩; (conv => whnf); exact ⟨_, _, _, _, h, hk, rfl, rfl⟩
   conv => whnf
   repeat (first | refine ACode.seq ?_ | (refine ACode.s_reg tys_ok ?_; conv => whnf) | refine ACode.s_block ?_ | refine ACode.s_scope ?_ | (refine ACode.s_cond ?_; conv => whnf) | (refine ACode.s_exit ?_; conv => whnf) | (refine ACode.s_ret ?_; conv => whnf) | (refine ACode.s_skip ?_; conv => whnf) | (refine ACode.s_label ?_; conv => whnf))
   have e4 := field_lt hq
   refine ACall.of_m (field_m ts len i4 w_deliver ht hi) hp (fun _ => rfl) rfl (fun j e k h hk => ?_) (fun deliver i5 hq hp hi => ?_)
   ·conv => whnf
    refine ⟨⟨by simp, closed_map _ (fun _ => rfl) _⟩, ?_⟩; (conv => whnf); exact ⟨_, _, _, _, h, hk, rfl, rfl⟩
   conv => whnf
   repeat (first | refine ACode.seq ?_ | (refine ACode.s_reg tys_ok ?_; conv => whnf) | refine ACode.s_block ?_ | refine ACode.s_scope ?_ | (refine ACode.s_cond ?_; conv => whnf) | (refine ACode.s_exit ?_; conv => whnf) | (refine ACode.s_ret ?_; conv => whnf) | (refine ACode.s_skip ?_; conv => whnf) | (refine ACode.s_label ?_; conv => whnf))
   have e5 := field_lt hq
   refine ACall.of_m (symbol_m ts len i5 s_rb hl hi) hp (fun _ => rfl) rfl (fun j e k h hk => ?_) (fun _ i6 hq hp hi => ?_)
   ·conv => whnf
    refine ⟨⟨by simp, closed_map _ (fun _ => rfl) _⟩, ?_⟩; (conv => whnf); exact ⟨_, _, _, _, h, hk, rfl, rfl⟩
   conv => whnf
   repeat (first | refine ACode.seq ?_ | (refine ACode.s_reg tys_ok ?_; conv => whnf) | refine ACode.s_block ?_ | refine ACode.s_scope ?_ | (refine ACode.s_cond ?_; conv => whnf) | (refine ACode.s_exit ?_; conv => whnf) | (refine ACode.s_ret ?_; conv => whnf) | (refine ACode.s_skip ?_; conv => whnf) | (refine ACode.s_label ?_; conv => whnf))
   have e6 := expect_j hq
   refine ACode.drawI [] [8, 12] tys_ok (by kernel_rfl) (by kernel_rfl) ?_
   conv => whnf
   refine ⟨rfl, ?_⟩
   conv => whnf
   refine ⟨⟨by simp, by simp; omega⟩, ?_⟩
   conv => whnf
   repeat (first | refine ACode.seq ?_ | (refine ACode.s_reg tys_ok ?_; conv => whnf) | refine ACode.s_block ?_ | refine ACode.s_scope ?_ | (refine ACode.s_cond ?_; conv => whnf) | (refine ACode.s_exit ?_; conv => whnf) | (refine ACode.s_ret ?_; conv => whnf) | (refine ACode.s_skip ?_; conv => whnf) | (refine ACode.s_label ?_; conv => whnf))
   refine ⟨(f, i6, { n with clss := n.clss ++ [⟨x, cut, deliver⟩] }), ?_⟩
   conv => whnf
   repeat (refine And.intro ?_ ?_; (focus (first | rfl | (simp; done) | (simp [clsA]; done))); conv => whnf)
   exact ⟨⟨hp, hi, by simp only; omega, by simp; omega⟩, by simp⟩
  ·have hp : p = .ok n i := by
    rw [hp]; cases f <;> simp [clssP, hs]
   repeat (first | refine ACode.seq ?_ | (refine ACode.s_reg tys_ok ?_; conv => whnf) | refine ACode.s_block ?_ | refine ACode.s_scope ?_ | (refine ACode.s_cond ?_; conv => whnf) | (refine ACode.s_exit ?_; conv => whnf) | (refine ACode.s_ret ?_; conv => whnf) | (refine ACode.s_skip ?_; conv => whnf) | (refine ACode.s_label ?_; conv => whnf))
   refine ⟨⟨by simp, closed_map _ (fun _ => rfl) _⟩, ?_⟩
   conv => whnf
   exact ⟨_, _, hp, hi, rfl, rfl⟩
end Go.Proofs.YtmhlneeboefkgaaGreatDoor
