import Derived.Test.YtmhlneeboefkgaaGreatDoorN18
import Derived.Test.YtmhlneeboefkgaaGreatDoorKf
set_option linter.unusedVariables false
set_option linter.unusedSimpArgs false
namespace Go.Proofs.YtmhlneeboefkgaaGreatDoor
open Go.Av Go.Av.Net
theorem code_j {ts : List KT} {x : Bs} {i j : Nat} (h : codeP ts i = .ok x j) : j = i + 1 := by
 unfold codeP at h
 split at h
 ·cases h
 ·rename_i t _
  cases hs : ((decide (t.1 = 1) || decide (t.1 = 2)) && isCodeB t.2) with
  | true => rw [hs] at h; cases h; rfl
  | false => rw [hs] at h; cases h
set_option maxRecDepth 20000 in
set_option maxHeartbeats 4000000 in
theorem offices_m (ts : List Tok) (len i : Nat) (n : Nw) (v : V6) (ht : TsOK ts) (hi : i ≤ ts.length) (hn : n.offs = []) (hno : n.opers.length ≤ 3000) (hnn : n.names.length ≤ 3000) :
  HCtr Tryz.prog 14 [.ptr 4 0] (PQ ts len i (.raw v.a) (.sl 1 (strs n.names)) (.sl 1 (n.opers.map operA)) nilA (.raw v.e) (.raw v.f))
   (fun r H => ∃ n' j, offsP (kts ts) ts.length n i = .ok n' j ∧ j ≤ ts.length ∧ r = .tuple [] ∧ H = PQ ts len j (.raw v.a) (.sl 1 (strs n.names)) (.sl 1 (n.opers.map operA)) (.sl 7 (n'.offs.map offA)) (.raw v.e) (.raw v.f))
   (fun x H => ∃ e k j l, offsP (kts ts) ts.length n i = .fail e k ∧ k ≤ ts.length ∧ x = failA ts len e k ∧ H = PQ ts len j (.raw v.a) (.sl 1 (strs n.names)) (.sl 1 (n.opers.map operA)) l (.raw v.e) (.raw v.f)) := by
 have hl := ht.len
 generalize hnm : n.names = names at *
 generalize hop : n.opers = opers at *
 generalize hp : offsP (kts ts) ts.length n i = p
 replace hp := hp.symm
 refine HCtr.of_body Tryz.func14 rfl tys_ok (by kernel_rfl) rfl ?_
 conv => whnf
 repeat (first | refine ACode.seq ?_ | (refine ACode.s_reg tys_ok ?_; conv => whnf) | refine ACode.s_block ?_ | refine ACode.s_scope ?_ | (refine ACode.s_cond ?_; conv => whnf) | (refine ACode.s_exit ?_; conv => whnf) | (refine ACode.s_ret ?_; conv => whnf) | (refine ACode.s_skip ?_; conv => whnf) | (refine ACode.s_label ?_; conv => whnf))
 refine ACode.nilCell 4 6 45 7 rfl rfl ?_
 refine ACode.loopD (fun x : Nat × Nat × Nw => mk 82 [(0, .ptr 4 0)]) (fun x => PQ ts len x.2.1 (.raw v.a) (.sl 1 (strs names)) (.sl 1 (opers.map operA)) (.own 5 7 0 x.2.2.offs.length) (.raw v.e) (.raw v.f) ++ [.arr 45 7 (x.2.2.offs.map offA)])
  (fun x => p = offsP (kts ts) x.1 x.2.2 x.2.1 ∧ x.2.1 ≤ ts.length ∧ ts.length ≤ x.2.1 + x.1 ∧ x.2.2.offs.length ≤ x.2.1 ∧ x.2.2.names = names ∧ x.2.2.opers = opers) (fun x => x.1)
  (fun x hx => ⟨rfl, ?_⟩) ⟨(ts.length, i, n), ?_⟩ (fun _ => rfl) fun x hx => ?_
 ·(conv => whnf)
  refine ⟨rfl, ?_⟩
  (conv => whnf)
  exact ⟨closed_map _ (fun _ => rfl) _, trivial⟩
 ·conv => whnf
  repeat (refine And.intro ?_ ?_; (focus (first | rfl | (simp; done) | (simp [hn, PQ, oneK]; done))); conv => whnf)
  exact ⟨hp, hi, by simp, by simp [hn], hnm, hop⟩
 ·obtain ⟨f, i, n⟩ := x
  obtain ⟨hp, hi, hf, hn, hnm, hop⟩ := hx
  simp only at hp hi hf hn hnm hop
  repeat (first | refine ACode.seq ?_ | (refine ACode.s_reg tys_ok ?_; conv => whnf) | refine ACode.s_block ?_ | refine ACode.s_scope ?_ | (refine ACode.s_cond ?_; conv => whnf) | (refine ACode.s_exit ?_; conv => whnf) | (refine ACode.s_ret ?_; conv => whnf) | (refine ACode.s_skip ?_; conv => whnf) | (refine ACode.s_label ?_; conv => whnf))
  refine ACall.of_m0 (has_m ts len i w_office hl hi) (fun _ => rfl) rfl ?_
  conv => whnf
  repeat (first | refine ACode.seq ?_ | (refine ACode.s_reg tys_ok ?_; conv => whnf) | refine ACode.s_block ?_ | refine ACode.s_scope ?_ | (refine ACode.s_cond ?_; conv => whnf) | (refine ACode.s_exit ?_; conv => whnf) | (refine ACode.s_ret ?_; conv => whnf) | (refine ACode.s_skip ?_; conv => whnf) | (refine ACode.s_label ?_; conv => whnf))
  refine ⟨fun hs => ?_, fun hs => ?_⟩
  ·have hlt := sees_le hs
   obtain ⟨f, rfl⟩ : ∃ g, f = g + 1 := ⟨f - 1, by omega⟩
   unfold offsP offP at hp
   rw [hs, cond_true] at hp
   simp only [PR.bind_assoc, PR.ok_bind, hnm, hop] at hp
   repeat (first | refine ACode.seq ?_ | (refine ACode.s_reg tys_ok ?_; conv => whnf) | refine ACode.s_block ?_ | refine ACode.s_scope ?_ | (refine ACode.s_cond ?_; conv => whnf) | (refine ACode.s_exit ?_; conv => whnf) | (refine ACode.s_ret ?_; conv => whnf) | (refine ACode.s_skip ?_; conv => whnf) | (refine ACode.s_label ?_; conv => whnf))
   refine ACall.of_m (word_m ts len i w_office hl hi) hp (fun _ => rfl) rfl (fun j e k h hk => ?_) (fun _ i1 hq hp hi => ?_)
   ·conv => whnf
    refine ⟨⟨by simp, closed_map _ (fun _ => rfl) _⟩, ?_⟩; (conv => whnf); exact ⟨_, _, _, _, h, hk, rfl, rfl⟩
   conv => whnf
   repeat (first | refine ACode.seq ?_ | (refine ACode.s_reg tys_ok ?_; conv => whnf) | refine ACode.s_block ?_ | refine ACode.s_scope ?_ | (refine ACode.s_cond ?_; conv => whnf) | (refine ACode.s_exit ?_; conv => whnf) | (refine ACode.s_ret ?_; conv => whnf) | (refine ACode.s_skip ?_; conv => whnf) | (refine ACode.s_label ?_; conv => whnf))
   have e1 := expect_j hq
   refine ACall.of_m (name_m ts len i1 ht hi) hp (fun _ => rfl) rfl (fun j e k h hk => ?_) (fun name i2 hq hp hi => ?_)
   ·conv => whnf
    refine ⟨⟨by simp, closed_map _ (fun _ => rfl) _⟩, ?_⟩; (conv => whnf); exact ⟨_, _, _, _, h, hk, rfl, rfl⟩
   conv => whnf
   repeat (first | refine ACode.seq ?_ | (refine ACode.s_reg tys_ok ?_; conv => whnf) | refine ACode.s_block ?_ | refine ACode.s_scope ?_ | (refine ACode.s_cond ?_; conv => whnf) | (refine ACode.s_exit ?_; conv => whnf) | (refine ACode.s_ret ?_; conv => whnf) | (refine ACode.s_skip ?_; conv => whnf) | (refine ACode.s_label ?_; conv => whnf))
   have e2 := name_j hq
   refine ACall.of_m (symbol_m ts len i2 s_lb hl hi) hp (fun _ => rfl) rfl (fun j e k h hk => ?_) (fun _ i3 hq hp hi => ?_)
   ·conv => whnf
    refine ⟨⟨by simp, closed_map _ (fun _ => rfl) _⟩, ?_⟩; (conv => whnf); exact ⟨_, _, _, _, h, hk, rfl, rfl⟩
   conv => whnf
   repeat (first | refine ACode.seq ?_ | (refine ACode.s_reg tys_ok ?_; conv => whnf) | refine ACode.s_block ?_ | refine ACode.s_scope ?_ | (refine ACode.s_cond ?_; conv => whnf) | (refine ACode.s_exit ?_; conv => whnf) | (refine ACode.s_ret ?_; conv => whnf) | (refine ACode.s_skip ?_; conv => whnf) | (refine ACode.s_label ?_; conv => whnf))
   have e3 := expect_j hq
   refine ACall.of_m (word_m ts len i3 w_operator hl hi) hp (fun _ => rfl) rfl (fun j e k h hk => ?_) (fun _ i4 hq hp hi => ?_)
   ·conv => whnf
    refine ⟨⟨by simp, closed_map _ (fun _ => rfl) _⟩, ?_⟩; (conv => whnf); exact ⟨_, _, _, _, h, hk, rfl, rfl⟩
   conv => whnf
   repeat (first | refine ACode.seq ?_ | (refine ACode.s_reg tys_ok ?_; conv => whnf) | refine ACode.s_block ?_ | refine ACode.s_scope ?_ | (refine ACode.s_cond ?_; conv => whnf) | (refine ACode.s_exit ?_; conv => whnf) | (refine ACode.s_ret ?_; conv => whnf) | (refine ACode.s_skip ?_; conv => whnf) | (refine ACode.s_label ?_; conv => whnf))
   have e4 := expect_j hq
   refine ACall.of_m (refOper_m ts len i4 opers ht hi hno) hp (fun _ => rfl) rfl (fun j e k h hk => ?_) (fun oper i5 hq hp hi => ?_)
   ·conv => whnf
    refine ⟨⟨by simp, closed_map _ (fun _ => rfl) _⟩, ?_⟩; (conv => whnf); exact ⟨_, _, _, _, h, hk, rfl, rfl⟩
   conv => whnf
   repeat (first | refine ACode.seq ?_ | (refine ACode.s_reg tys_ok ?_; conv => whnf) | refine ACode.s_block ?_ | refine ACode.s_scope ?_ | (refine ACode.s_cond ?_; conv => whnf) | (refine ACode.s_exit ?_; conv => whnf) | (refine ACode.s_ret ?_; conv => whnf) | (refine ACode.s_skip ?_; conv => whnf) | (refine ACode.s_label ?_; conv => whnf))
   have e5 := ref_j hq
   refine ACall.of_m (symbol_m ts len i5 s_semi hl hi) hp (fun _ => rfl) rfl (fun j e k h hk => ?_) (fun _ i6 hq hp hi => ?_)
   ·conv => whnf
    refine ⟨⟨by simp, closed_map _ (fun _ => rfl) _⟩, ?_⟩; (conv => whnf); exact ⟨_, _, _, _, h, hk, rfl, rfl⟩
   conv => whnf
   repeat (first | refine ACode.seq ?_ | (refine ACode.s_reg tys_ok ?_; conv => whnf) | refine ACode.s_block ?_ | refine ACode.s_scope ?_ | (refine ACode.s_cond ?_; conv => whnf) | (refine ACode.s_exit ?_; conv => whnf) | (refine ACode.s_ret ?_; conv => whnf) | (refine ACode.s_skip ?_; conv => whnf) | (refine ACode.s_label ?_; conv => whnf))
   have e6 := expect_j hq
   refine ACall.of_m (word_m ts len i6 w_calendar hl hi) hp (fun _ => rfl) rfl (fun j e k h hk => ?_) (fun _ i7 hq hp hi => ?_)
   ·conv => whnf
    refine ⟨⟨by simp, closed_map _ (fun _ => rfl) _⟩, ?_⟩; (conv => whnf); exact ⟨_, _, _, _, h, hk, rfl, rfl⟩
   conv => whnf
   repeat (first | refine ACode.seq ?_ | (refine ACode.s_reg tys_ok ?_; conv => whnf) | refine ACode.s_block ?_ | refine ACode.s_scope ?_ | (refine ACode.s_cond ?_; conv => whnf) | (refine ACode.s_exit ?_; conv => whnf) | (refine ACode.s_ret ?_; conv => whnf) | (refine ACode.s_skip ?_; conv => whnf) | (refine ACode.s_label ?_; conv => whnf))
   have e7 := expect_j hq
   refine ACall.of_m (refName_m ts len i7 names ht hi hnn) hp (fun _ => rfl) rfl (fun j e k h hk => ?_) (fun cal i8 hq hp hi => ?_)
   ·conv => whnf
    refine ⟨⟨by simp, closed_map _ (fun _ => rfl) _⟩, ?_⟩; (conv => whnf); exact ⟨_, _, _, _, h, hk, rfl, rfl⟩
   conv => whnf
   repeat (first | refine ACode.seq ?_ | (refine ACode.s_reg tys_ok ?_; conv => whnf) | refine ACode.s_block ?_ | refine ACode.s_scope ?_ | (refine ACode.s_cond ?_; conv => whnf) | (refine ACode.s_exit ?_; conv => whnf) | (refine ACode.s_ret ?_; conv => whnf) | (refine ACode.s_skip ?_; conv => whnf) | (refine ACode.s_label ?_; conv => whnf))
   have e8 := ref_j hq
   refine ACall.of_m (symbol_m ts len i8 s_semi hl hi) hp (fun _ => rfl) rfl (fun j e k h hk => ?_) (fun _ i9 hq hp hi => ?_)
   ·conv => whnf
    refine ⟨⟨by simp, closed_map _ (fun _ => rfl) _⟩, ?_⟩; (conv => whnf); exact ⟨_, _, _, _, h, hk, rfl, rfl⟩
   conv => whnf
   repeat (first | refine ACode.seq ?_ | (refine ACode.s_reg tys_ok ?_; conv => whnf) | refine ACode.s_block ?_ | refine ACode.s_scope ?_ | (refine ACode.s_cond ?_; conv => whnf) | (refine ACode.s_exit ?_; conv => whnf) | (refine ACode.s_ret ?_; conv => whnf) | (refine ACode.s_skip ?_; conv => whnf) | (refine ACode.s_label ?_; conv => whnf))
   have e9 := expect_j hq
   refine ACall.of_m (field_m ts len i9 w_pockets ht hi) hp (fun _ => rfl) rfl (fun j e k h hk => ?_) (fun pockets i10 hq hp hi => ?_)
   ·conv => whnf
    refine ⟨⟨by simp, closed_map _ (fun _ => rfl) _⟩, ?_⟩; (conv => whnf); exact ⟨_, _, _, _, h, hk, rfl, rfl⟩
   conv => whnf
   repeat (first | refine ACode.seq ?_ | (refine ACode.s_reg tys_ok ?_; conv => whnf) | refine ACode.s_block ?_ | refine ACode.s_scope ?_ | (refine ACode.s_cond ?_; conv => whnf) | (refine ACode.s_exit ?_; conv => whnf) | (refine ACode.s_ret ?_; conv => whnf) | (refine ACode.s_skip ?_; conv => whnf) | (refine ACode.s_label ?_; conv => whnf))
   have e10 := field_lt hq
   refine ACall.of_m (field_m ts len i10 w_passes ht hi) hp (fun _ => rfl) rfl (fun j e k h hk => ?_) (fun passes i11 hq hp hi => ?_)
   ·conv => whnf
    refine ⟨⟨by simp, closed_map _ (fun _ => rfl) _⟩, ?_⟩; (conv => whnf); exact ⟨_, _, _, _, h, hk, rfl, rfl⟩
   conv => whnf
   repeat (first | refine ACode.seq ?_ | (refine ACode.s_reg tys_ok ?_; conv => whnf) | refine ACode.s_block ?_ | refine ACode.s_scope ?_ | (refine ACode.s_cond ?_; conv => whnf) | (refine ACode.s_exit ?_; conv => whnf) | (refine ACode.s_ret ?_; conv => whnf) | (refine ACode.s_skip ?_; conv => whnf) | (refine ACode.s_label ?_; conv => whnf))
   have e11 := field_lt hq
   refine ACall.of_m (field_m ts len i11 w_minutes ht hi) hp (fun _ => rfl) rfl (fun j e k h hk => ?_) (fun minutes i12 hq hp hi => ?_)
   ·conv => whnf
    refine ⟨⟨by simp, closed_map _ (fun _ => rfl) _⟩, ?_⟩; (conv => whnf); exact ⟨_, _, _, _, h, hk, rfl, rfl⟩
   conv => whnf
   repeat (first | refine ACode.seq ?_ | (refine ACode.s_reg tys_ok ?_; conv => whnf) | refine ACode.s_block ?_ | refine ACode.s_scope ?_ | (refine ACode.s_cond ?_; conv => whnf) | (refine ACode.s_exit ?_; conv => whnf) | (refine ACode.s_ret ?_; conv => whnf) | (refine ACode.s_skip ?_; conv => whnf) | (refine ACode.s_label ?_; conv => whnf))
   have e12 := field_lt hq
   obtain ⟨R, hR, hp⟩ : ∃ R : List Bs → Nat → PR Nw, R = (fun l i => (expectP (kts ts) 3 s_rb i).bind fun _ i => offsP (kts ts) f { n with names := names, opers := opers, offs := n.offs ++ [⟨name, oper, cal, pockets, passes, minutes, l⟩] } i) ∧ p = (codesAllP (kts ts) i12).bind R := ⟨_, rfl, hp⟩
   have hkl : (kts ts).length = ts.length := by simp [kts]
   refine ACall.nilCell 6 6 9 1 rfl rfl ?_
   refine ACall.of_m0 (has_m ts len i12 w_codes hl hi) (fun _ => rfl) rfl ?_
   conv => whnf
   repeat (first | refine ACode.seq ?_ | (refine ACode.s_reg tys_ok ?_; conv => whnf) | refine ACode.s_block ?_ | refine ACode.s_scope ?_ | (refine ACode.s_cond ?_; conv => whnf) | (refine ACode.s_exit ?_; conv => whnf) | (refine ACode.s_ret ?_; conv => whnf) | (refine ACode.s_skip ?_; conv => whnf) | (refine ACode.s_label ?_; conv => whnf))
   refine ⟨fun hs => ?_, fun hs => ?_⟩
   ·unfold codesAllP at hp
    rw [hs, cond_true] at hp
    simp only [PR.bind_assoc, PR.ok_bind] at hp
    repeat (first | refine ACode.seq ?_ | (refine ACode.s_reg tys_ok ?_; conv => whnf) | refine ACode.s_block ?_ | refine ACode.s_scope ?_ | (refine ACode.s_cond ?_; conv => whnf) | (refine ACode.s_exit ?_; conv => whnf) | (refine ACode.s_ret ?_; conv => whnf) | (refine ACode.s_skip ?_; conv => whnf) | (refine ACode.s_label ?_; conv => whnf))
    refine ACall.of_m (word_m ts len i12 w_codes hl hi) hp (fun _ => rfl) rfl (fun j e k h hk => ?_) (fun _ i13 hq hp hi => ?_)
    ·conv => whnf
     refine ⟨⟨by simp, closed_map _ (fun _ => rfl) _⟩, ?_⟩; (conv => whnf); exact ⟨_, _, _, _, h, hk, rfl, rfl⟩
    conv => whnf
    repeat (first | refine ACode.seq ?_ | (refine ACode.s_reg tys_ok ?_; conv => whnf) | refine ACode.s_block ?_ | refine ACode.s_scope ?_ | (refine ACode.s_cond ?_; conv => whnf) | (refine ACode.s_exit ?_; conv => whnf) | (refine ACode.s_ret ?_; conv => whnf) | (refine ACode.s_skip ?_; conv => whnf) | (refine ACode.s_label ?_; conv => whnf))
    have e13 := expect_j hq
    refine ACode.cutK (fun x : Bs × Nat => mk 82 [(0, .ptr 4 0), (2, .ptr 6 0)]) (fun x => PQ ts len x.2 (.raw v.a) (.sl 1 (strs names)) (.sl 1 (opers.map operA)) (.own 5 7 0 n.offs.length) (.raw v.e) (.raw v.f) ++ [.arr 45 7 (n.offs.map offA), .cells [.str name, .int .i64 oper, .int .i64 cal, .int .i64 pockets, .int .i64 passes, .int .i64 minutes, .own 7 1 0 1], .arr 9 1 (strs [x.1])]) (fun x => p = ((codesP (kts ts) ((kts ts).length + 1) x.2).bind fun l i => (expectP (kts ts) 3 s_semi i).bind fun _ i => R ([x.1] ++ l) i) ∧ x.2 ≤ ts.length ∧ i13 < x.2) (fun x hx => ⟨rfl, ?_⟩) (fun _ => by simp [PQ, oneK]) ?_ fun x hx => ?_
    ·(conv => whnf)
     refine ⟨rfl, ?_⟩
     (conv => whnf)
     refine ⟨closed_map _ (fun _ => rfl) _, ?_⟩
     (conv => whnf)
     refine ⟨rfl, ?_⟩
     (conv => whnf)
     exact ⟨closed_map _ (fun _ => rfl) _, trivial⟩
    ·refine ACode.drawAll (.one 0 (.one 1 (.one 2 (.one 3 (.one 4 (.one 5 (.one 6 (.one 7 .done .none) .none) .none) .none) .none) .none) (.one 2 (.one 1 (.one 3 (.one 4 (.one 5 (.one 6 (.one 7 .done .none) .none) .none) .none) .none) (.one 3 (.one 1 (.one 4 (.one 5 (.one 6 (.one 7 .done .none) .none) .none) .none) (.one 4 (.one 1 (.one 5 (.one 6 (.one 7 .done .none) .none) .none) .none) .none)) .none)) .none)) (.one 2 (.one 0 (.one 1 (.one 3 (.one 4 (.one 5 (.one 6 (.one 7 .done .none) .none) .none) .none) .none) (.one 3 (.one 1 (.one 4 (.one 5 (.one 6 (.one 7 .done .none) .none) .none) .none) (.one 4 (.one 1 (.one 5 (.one 6 (.one 7 .done .none) .none) .none) .none) .none)) .none)) (.one 3 (.one 0 (.one 1 (.one 4 (.one 5 (.one 6 (.one 7 .done .none) .none) .none) .none) (.one 4 (.one 1 (.one 5 (.one 6 (.one 7 .done .none) .none) .none) .none) .none)) (.one 4 (.one 0 (.one 1 (.one 5 (.one 6 (.one 7 .done .none) .none) .none) .none) .none) .none)) .none)) .none)) tys_ok (by kernel_rfl) (by kernel_rfl) ?_
     repeat' (first | exact True.intro | (refine EnF.step ?_; conv => whnf) | (refine And.intro ?_ ?_ <;> conv => whnf) | (refine ACall.of_m (code_m ts len i13 ht hi) hp (fun _ => rfl) rfl (fun j e k h hk => by (conv => whnf); refine ⟨⟨by simp, closed_map _ (fun _ => rfl) _⟩, ?_⟩; (conv => whnf); exact ⟨_, _, _, _, h, hk, rfl, rfl⟩) (fun c j2 hq hp hi => ?_); conv => whnf) | (show (_ : Nat) = _; first | rfl | (simp; done) | (simp; omega)) | (show (_ : Nat) ≤ _; first | (simp; done) | (simp; omega)))
     all_goals (
      have e14 := code_j hq
      refine ⟨(c, j2), ?_⟩
      conv => whnf
      repeat (refine And.intro ?_ ?_; (focus (first | rfl | (simp; done) | (simp [strs]; done))); conv => whnf)
      exact ⟨hp, hi, by simp only; omega⟩)
    obtain ⟨c, i14⟩ := x
    obtain ⟨hp, hi, e14⟩ := hx
    simp only at hp hi e14
    repeat (first | refine ACode.seq ?_ | (refine ACode.s_reg tys_ok ?_; conv => whnf) | refine ACode.s_block ?_ | refine ACode.s_scope ?_ | (refine ACode.s_cond ?_; conv => whnf) | (refine ACode.s_exit ?_; conv => whnf) | (refine ACode.s_ret ?_; conv => whnf) | (refine ACode.s_skip ?_; conv => whnf) | (refine ACode.s_label ?_; conv => whnf))
    refine ACode.loopD (fun x : Nat × Nat × List Bs => mk 82 [(0, .ptr 4 0), (2, .ptr 6 0)]) (fun x => PQ ts len x.2.1 (.raw v.a) (.sl 1 (strs names)) (.sl 1 (opers.map operA)) (.own 5 7 0 n.offs.length) (.raw v.e) (.raw v.f) ++ [.arr 45 7 (n.offs.map offA), .cells [.str name, .int .i64 oper, .int .i64 cal, .int .i64 pockets, .int .i64 passes, .int .i64 minutes, .own 7 1 0 x.2.2.length], .arr 9 1 (strs x.2.2)])
     (fun x => p = ((codesP (kts ts) x.1 x.2.1).bind fun l i => (expectP (kts ts) 3 s_semi i).bind fun _ i => R (x.2.2 ++ l) i) ∧ x.2.1 ≤ ts.length ∧ ts.length < x.2.1 + x.1 ∧ x.2.2.length ≤ x.2.1 ∧ i12 < x.2.1) (fun x => x.1)
     (fun x hx => ⟨rfl, ?_⟩) ⟨((kts ts).length + 1, i14, [c]), ?_⟩ (fun _ => rfl) fun x hx => ?_
    ·(conv => whnf)
     refine ⟨rfl, ?_⟩
     (conv => whnf)
     refine ⟨closed_map _ (fun _ => rfl) _, ?_⟩
     (conv => whnf)
     refine ⟨rfl, ?_⟩
     (conv => whnf)
     exact ⟨closed_map _ (fun _ => rfl) _, trivial⟩
    ·conv => whnf
     repeat (refine And.intro ?_ ?_; (focus (first | rfl | (simp; done) | (simp [PQ, oneK, strs]; done))); conv => whnf)
     exact ⟨hp, hi, by rw [hkl]; simp only; omega, by simp; omega, by simp only; omega⟩
    ·obtain ⟨g, i, acc⟩ := x
     obtain ⟨hp, hi, hf2, hacc, hi9⟩ := hx
     simp only at hp hi hf2 hacc hi9
     repeat (first | refine ACode.seq ?_ | (refine ACode.s_reg tys_ok ?_; conv => whnf) | refine ACode.s_block ?_ | refine ACode.s_scope ?_ | (refine ACode.s_cond ?_; conv => whnf) | (refine ACode.s_exit ?_; conv => whnf) | (refine ACode.s_ret ?_; conv => whnf) | (refine ACode.s_skip ?_; conv => whnf) | (refine ACode.s_label ?_; conv => whnf))
     refine ACall.of_m0 (hasSymbol_m ts len i s_semi hl hi) (fun _ => rfl) rfl ?_
     conv => whnf
     repeat (first | refine ACode.seq ?_ | (refine ACode.s_reg tys_ok ?_; conv => whnf) | refine ACode.s_block ?_ | refine ACode.s_scope ?_ | (refine ACode.s_cond ?_; conv => whnf) | (refine ACode.s_exit ?_; conv => whnf) | (refine ACode.s_ret ?_; conv => whnf) | (refine ACode.s_skip ?_; conv => whnf) | (refine ACode.s_label ?_; conv => whnf))
     obtain ⟨g, rfl⟩ : ∃ g', g = g' + 1 := ⟨g - 1, by omega⟩
     refine ⟨fun hs => ?_, fun hs => ?_⟩
     ·have hs : seesP (kts ts) 3 s_semi i = false := by simpa using hs
      unfold codesP at hp
      rw [hs, cond_false] at hp
      simp only [PR.bind_assoc, PR.ok_bind] at hp
      repeat (first | refine ACode.seq ?_ | (refine ACode.s_reg tys_ok ?_; conv => whnf) | refine ACode.s_block ?_ | refine ACode.s_scope ?_ | (refine ACode.s_cond ?_; conv => whnf) | (refine ACode.s_exit ?_; conv => whnf) | (refine ACode.s_ret ?_; conv => whnf) | (refine ACode.s_skip ?_; conv => whnf) | (refine ACode.s_label ?_; conv => whnf))
      refine ACode.drawAll (.one 0 (.one 1 (.one 2 (.one 3 (.one 4 (.one 5 (.one 6 (.one 7 .done .none) .none) .none) .none) .none) .none) (.one 2 (.one 1 (.one 3 (.one 4 (.one 5 (.one 6 (.one 7 .done .none) .none) .none) .none) .none) (.one 3 (.one 1 (.one 4 (.one 5 (.one 6 (.one 7 .done .none) .none) .none) .none) (.one 4 (.one 1 (.one 5 (.one 6 (.one 7 .done .none) .none) .none) .none) .none)) .none)) .none)) (.one 2 (.one 0 (.one 1 (.one 3 (.one 4 (.one 5 (.one 6 (.one 7 .done .none) .none) .none) .none) .none) (.one 3 (.one 1 (.one 4 (.one 5 (.one 6 (.one 7 .done .none) .none) .none) .none) (.one 4 (.one 1 (.one 5 (.one 6 (.one 7 .done .none) .none) .none) .none) .none)) .none)) (.one 3 (.one 0 (.one 1 (.one 4 (.one 5 (.one 6 (.one 7 .done .none) .none) .none) .none) (.one 4 (.one 1 (.one 5 (.one 6 (.one 7 .done .none) .none) .none) .none) .none)) (.one 4 (.one 0 (.one 1 (.one 5 (.one 6 (.one 7 .done .none) .none) .none) .none) .none) .none)) .none)) .none)) tys_ok (by kernel_rfl) (by kernel_rfl) ?_
      repeat' (first | exact True.intro | (refine EnF.step ?_; conv => whnf) | (refine And.intro ?_ ?_ <;> conv => whnf) | (refine ACall.of_m (code_m ts len i ht hi) hp (fun _ => rfl) rfl (fun j e k h hk => by (conv => whnf); refine ⟨⟨by simp, closed_map _ (fun _ => rfl) _⟩, ?_⟩; (conv => whnf); exact ⟨_, _, _, _, h, hk, rfl, rfl⟩) (fun c j2 hq hp hi => ?_); conv => whnf) | (show (_ : Nat) = _; first | rfl | (simp; done) | (simp; omega)) | (show (_ : Nat) ≤ _; first | (simp; done) | (simp; omega)))
      all_goals (
       have e14 := code_j hq
       repeat (first | refine ACode.seq ?_ | (refine ACode.s_reg tys_ok ?_; conv => whnf) | refine ACode.s_block ?_ | refine ACode.s_scope ?_ | (refine ACode.s_cond ?_; conv => whnf) | (refine ACode.s_exit ?_; conv => whnf) | (refine ACode.s_ret ?_; conv => whnf) | (refine ACode.s_skip ?_; conv => whnf) | (refine ACode.s_label ?_; conv => whnf))
       refine ⟨(g, j2, acc ++ [c]), ?_⟩
       conv => whnf
       repeat (refine And.intro ?_ ?_; (focus (first | rfl | (simp; done) | (simp [strs]; done))); conv => whnf)
       exact ⟨⟨by rw [hp]; simp only [List.append_assoc, List.singleton_append], hi, by simp only; omega, by simp; omega, by simp only; omega⟩, by simp⟩)
     ·have hs : seesP (kts ts) 3 s_semi i = true := by simpa using hs
      have hp : p = (expectP (kts ts) 3 s_semi i).bind fun _ i => R acc i := by
       rw [hp]; simp [codesP, hs, PR.bind]
      rw [hR] at hp
      repeat (first | refine ACode.seq ?_ | (refine ACode.s_reg tys_ok ?_; conv => whnf) | refine ACode.s_block ?_ | refine ACode.s_scope ?_ | (refine ACode.s_cond ?_; conv => whnf) | (refine ACode.s_exit ?_; conv => whnf) | (refine ACode.s_ret ?_; conv => whnf) | (refine ACode.s_skip ?_; conv => whnf) | (refine ACode.s_label ?_; conv => whnf))
      refine ACall.of_m (symbol_m ts len i s_semi hl hi) hp (fun _ => rfl) rfl (fun j e k h hk => ?_) (fun _ i19 hq hp hi => ?_)
      ·conv => whnf
       refine ⟨⟨by simp, closed_map _ (fun _ => rfl) _⟩, ?_⟩; (conv => whnf); exact ⟨_, _, _, _, h, hk, rfl, rfl⟩
      conv => whnf
      repeat (first | refine ACode.seq ?_ | (refine ACode.s_reg tys_ok ?_; conv => whnf) | refine ACode.s_block ?_ | refine ACode.s_scope ?_ | (refine ACode.s_cond ?_; conv => whnf) | (refine ACode.s_exit ?_; conv => whnf) | (refine ACode.s_ret ?_; conv => whnf) | (refine ACode.s_skip ?_; conv => whnf) | (refine ACode.s_label ?_; conv => whnf))
      have e19 := expect_j hq
      refine ACall.of_m (symbol_m ts len i19 s_rb hl hi) hp (fun _ => rfl) rfl (fun j e k h hk => ?_) (fun _ i20 hq hp hi => ?_)
      ·conv => whnf
       refine ⟨⟨by simp, closed_map _ (fun _ => rfl) _⟩, ?_⟩; (conv => whnf); exact ⟨_, _, _, _, h, hk, rfl, rfl⟩
      conv => whnf
      repeat (first | refine ACode.seq ?_ | (refine ACode.s_reg tys_ok ?_; conv => whnf) | refine ACode.s_block ?_ | refine ACode.s_scope ?_ | (refine ACode.s_cond ?_; conv => whnf) | (refine ACode.s_exit ?_; conv => whnf) | (refine ACode.s_ret ?_; conv => whnf) | (refine ACode.s_skip ?_; conv => whnf) | (refine ACode.s_label ?_; conv => whnf))
      have e20 := expect_j hq
      refine ACode.freeze 7 ?_
      conv => whnf
      refine ⟨closed_map _ (fun _ => rfl) _, ?_⟩
      conv => whnf
      repeat (refine ⟨(by first | rfl | (simp; done) : (_ : Nat) = _), ?_⟩; conv => whnf)
      refine ACode.drawI [] [8, 12] tys_ok (by kernel_rfl) (by kernel_rfl) ?_
      conv => whnf
      refine ⟨rfl, ?_⟩
      conv => whnf
      refine ⟨⟨by simp, by simp; omega⟩, ?_⟩
      conv => whnf
      repeat (first | refine ACode.seq ?_ | (refine ACode.s_reg tys_ok ?_; conv => whnf) | refine ACode.s_block ?_ | refine ACode.s_scope ?_ | (refine ACode.s_cond ?_; conv => whnf) | (refine ACode.s_exit ?_; conv => whnf) | (refine ACode.s_ret ?_; conv => whnf) | (refine ACode.s_skip ?_; conv => whnf) | (refine ACode.s_label ?_; conv => whnf))
      refine ⟨(f, i20, { n with names := names, opers := opers, offs := n.offs ++ [⟨name, oper, cal, pockets, passes, minutes, acc⟩] }), ?_⟩
      conv => whnf
      repeat (refine And.intro ?_ ?_; (focus (first | rfl | (simp; done) | (simp [offA, strs]; done))); conv => whnf)
      exact ⟨⟨hp, hi, by simp only; omega, by simp; omega, rfl, rfl⟩, by simp⟩
   ·have hp : p = R [] i12 := by
     rw [hp]; simp [codesAllP, hs, PR.bind]
    rw [hR] at hp
    repeat (first | refine ACode.seq ?_ | (refine ACode.s_reg tys_ok ?_; conv => whnf) | refine ACode.s_block ?_ | refine ACode.s_scope ?_ | (refine ACode.s_cond ?_; conv => whnf) | (refine ACode.s_exit ?_; conv => whnf) | (refine ACode.s_ret ?_; conv => whnf) | (refine ACode.s_skip ?_; conv => whnf) | (refine ACode.s_label ?_; conv => whnf))
    refine ACall.of_m (symbol_m ts len i12 s_rb hl hi) hp (fun _ => rfl) rfl (fun j e k h hk => ?_) (fun _ i20 hq hp hi => ?_)
    ·conv => whnf
     refine ⟨⟨by simp, closed_map _ (fun _ => rfl) _⟩, ?_⟩; (conv => whnf); exact ⟨_, _, _, _, h, hk, rfl, rfl⟩
    conv => whnf
    repeat (first | refine ACode.seq ?_ | (refine ACode.s_reg tys_ok ?_; conv => whnf) | refine ACode.s_block ?_ | refine ACode.s_scope ?_ | (refine ACode.s_cond ?_; conv => whnf) | (refine ACode.s_exit ?_; conv => whnf) | (refine ACode.s_ret ?_; conv => whnf) | (refine ACode.s_skip ?_; conv => whnf) | (refine ACode.s_label ?_; conv => whnf))
    have e20 := expect_j hq
    refine ACode.freeze 7 ?_
    conv => whnf
    refine ⟨(by simp), ?_⟩
    conv => whnf
    repeat (refine ⟨(by first | rfl | (simp; done) : (_ : Nat) = _), ?_⟩; conv => whnf)
    refine ACode.drawI [] [8, 12] tys_ok (by kernel_rfl) (by kernel_rfl) ?_
    conv => whnf
    refine ⟨rfl, ?_⟩
    conv => whnf
    refine ⟨⟨by simp, by simp; omega⟩, ?_⟩
    conv => whnf
    repeat (first | refine ACode.seq ?_ | (refine ACode.s_reg tys_ok ?_; conv => whnf) | refine ACode.s_block ?_ | refine ACode.s_scope ?_ | (refine ACode.s_cond ?_; conv => whnf) | (refine ACode.s_exit ?_; conv => whnf) | (refine ACode.s_ret ?_; conv => whnf) | (refine ACode.s_skip ?_; conv => whnf) | (refine ACode.s_label ?_; conv => whnf))
    refine ⟨(f, i20, { n with names := names, opers := opers, offs := n.offs ++ [⟨name, oper, cal, pockets, passes, minutes, []⟩] }), ?_⟩
    conv => whnf
    repeat (refine And.intro ?_ ?_; (focus (first | rfl | (simp; done) | (simp [offA, strs]; done))); conv => whnf)
    exact ⟨⟨hp, hi, by simp only; omega, by simp; omega, rfl, rfl⟩, by simp⟩
  ·have hp : p = .ok n i := by
    rw [hp]; cases f <;> simp [offsP, hs]
   repeat (first | refine ACode.seq ?_ | (refine ACode.s_reg tys_ok ?_; conv => whnf) | refine ACode.s_block ?_ | refine ACode.s_scope ?_ | (refine ACode.s_cond ?_; conv => whnf) | (refine ACode.s_exit ?_; conv => whnf) | (refine ACode.s_ret ?_; conv => whnf) | (refine ACode.s_skip ?_; conv => whnf) | (refine ACode.s_label ?_; conv => whnf))
   refine ⟨⟨by simp, closed_map _ (fun _ => rfl) _⟩, ?_⟩
   conv => whnf
   exact ⟨_, _, hp, hi, rfl, rfl⟩
end Go.Proofs.YtmhlneeboefkgaaGreatDoor
