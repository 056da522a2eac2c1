import Derived.Test.YtmhlneeboefkgaaGreatDoorN12
set_option linter.unusedVariables false
set_option linter.unusedSimpArgs false
namespace Go.Proofs.YtmhlneeboefkgaaGreatDoor
open Go.Av Go.Av.Net
theorem expect_true {ts : List KT} {k : Int} {x : Bs} {i : Nat} (h : seesP ts k x i = true) : expectP ts k x i = .ok () (i + 1) := by unfold expectP; rw [h]; rfl
theorem expect_bind {α : Type} {ts : List KT} {k : Int} {x : Bs} {i : Nat} {f : Nat → PR α} (h : seesP ts k x i = true) : f (i + 1) = (expectP ts k x i).bind fun _ i => f i := by rw [expect_true h]; rfl
theorem PR.bind_assoc {α β γ : Type} (x : PR α) (f : α → Nat → PR β) (g : β → Nat → PR γ) : (x.bind f).bind g = x.bind fun a i => (f a i).bind g := by cases x <;> rfl
theorem PR.ok_bind {α β : Type} (a : α) (i : Nat) (f : α → Nat → PR β) : (PR.ok a i).bind f = f a i := rfl
theorem expect_j {ts : List KT} {k : Int} {x : Bs} {i j : Nat} {a : Unit} (h : expectP ts k x i = .ok a j) : j = i + 1 := by
 unfold expectP wrongP at h
 cases hs : seesP ts k x i with
 | true => rw [hs] at h; cases h; rfl
 | false => rw [hs] at h; simp only [cond_false] at h; split at h <;> cases h
theorem name_j {ts : List KT} {x : Bs} {i j : Nat} (h : nameP ts i = .ok x j) : j = i + 1 := by
 unfold nameP at h
 split at h
 ·cases h
 ·rename_i t _
  cases hs : (decide (t.1 = 1) && isNameB t.2) with
  | true => rw [hs] at h; cases h; rfl
  | false => rw [hs] at h; cases h
theorem number_j {ts : List KT} {x : Int} {i j : Nat} (h : numberP ts i = .ok x j) : j = i + 1 := by
 unfold numberP at h
 split at h
 ·cases h
 ·rename_i t _
  cases hs : decide (t.1 = 2) with
  | true => rw [hs] at h; cases h; rfl
  | false => rw [hs] at h; cases h
theorem number_range {ts : List Tok} (ht : TsOK ts) {x : Int} {i j : Nat} (h : numberP (kts ts) i = .ok x j) : 0 ≤ x ∧ x < 100000000 := by
 unfold numberP at h
 rcases Nat.lt_or_ge i ts.length with hi | hi
 ·rw [kts_lt ts i hi] at h
  simp only at h
  cases hs : decide (ts[i].kind = 2) with
  | true =>
   rw [hs] at h; cases h
   obtain ⟨_, h2⟩ := ht.tok _ (List.getElem_mem hi)
   obtain ⟨_, h8, hd⟩ := h2 (by simpa using hs)
   exact decV_range _ h8 hd
  | false => rw [hs] at h; cases h
 ·rw [kts_ge ts i hi] at h; cases h
set_option maxRecDepth 20000 in
theorem int_m (ts : List Tok) (len i : Nat)  (ht : TsOK ts) (hi : i ≤ ts.length) : MCtr 40 [.ptr 4 0] ts len i (intP (kts ts) i) (.int .i64) := by
 have hl := ht.len
 intro v
 generalize hp : intP (kts ts) i = p
 replace hp := hp.symm
 unfold intP at hp
 refine HCtr.of_body Tryz.func40 rfl tys_ok (by kernel_rfl) rfl ?_
 conv => whnf
 repeat (first | refine ACode.seq ?_ | (refine ACode.s_reg tys_ok ?_; conv => whnf) | refine ACode.s_block ?_ | refine ACode.s_scope ?_ | (refine ACode.s_cond ?_; conv => whnf) | (refine ACode.s_exit ?_; conv => whnf) | (refine ACode.s_ret ?_; conv => whnf) | (refine ACode.s_skip ?_; conv => whnf) | (refine ACode.s_label ?_; conv => whnf))
 refine ACall.of_m0 (hasSymbol_m ts len i s_minus hl hi) (fun _ => rfl) rfl ?_
 conv => whnf
 repeat (first | refine ACode.seq ?_ | (refine ACode.s_reg tys_ok ?_; conv => whnf) | refine ACode.s_block ?_ | refine ACode.s_scope ?_ | (refine ACode.s_cond ?_; conv => whnf) | (refine ACode.s_exit ?_; conv => whnf) | (refine ACode.s_ret ?_; conv => whnf) | (refine ACode.s_skip ?_; conv => whnf) | (refine ACode.s_label ?_; conv => whnf))
 refine ⟨fun hs => ?_, fun hs => ?_⟩
 ·rw [hs, cond_true] at hp
  replace hp := hp.trans (expect_bind (f := fun j => (numberP (kts ts) j).bind fun n i => PR.ok (-n) i) hs)
  repeat (first | refine ACode.seq ?_ | (refine ACode.s_reg tys_ok ?_; conv => whnf) | refine ACode.s_block ?_ | refine ACode.s_scope ?_ | (refine ACode.s_cond ?_; conv => whnf) | (refine ACode.s_exit ?_; conv => whnf) | (refine ACode.s_ret ?_; conv => whnf) | (refine ACode.s_skip ?_; conv => whnf) | (refine ACode.s_label ?_; conv => whnf))
  refine ACall.of_m (symbol_m ts len i s_minus hl hi) hp (fun _ => rfl) rfl (fun j e k h hk => ?_) (fun _ i hq hp hi => ?_)
  ·conv => whnf
   exact ⟨_, _, _, h, hk, rfl, rfl⟩
  conv => whnf
  repeat (first | refine ACode.seq ?_ | (refine ACode.s_reg tys_ok ?_; conv => whnf) | refine ACode.s_block ?_ | refine ACode.s_scope ?_ | (refine ACode.s_cond ?_; conv => whnf) | (refine ACode.s_exit ?_; conv => whnf) | (refine ACode.s_ret ?_; conv => whnf) | (refine ACode.s_skip ?_; conv => whnf) | (refine ACode.s_label ?_; conv => whnf))
  refine ACall.of_m (number_m ts len i ht hi) hp (fun _ => rfl) rfl (fun j e k h hk => ?_) (fun x i hq hp hi => ?_)
  ·conv => whnf
   exact ⟨_, _, _, h, hk, rfl, rfl⟩
  conv => whnf
  repeat (first | refine ACode.seq ?_ | (refine ACode.s_reg tys_ok ?_; conv => whnf) | refine ACode.s_block ?_ | refine ACode.s_scope ?_ | (refine ACode.s_cond ?_; conv => whnf) | (refine ACode.s_exit ?_; conv => whnf) | (refine ACode.s_ret ?_; conv => whnf) | (refine ACode.s_skip ?_; conv => whnf) | (refine ACode.s_label ?_; conv => whnf))
  have hr := number_range ht hq
  rw [Wr64 _ (by omega) (by omega), Int.zero_sub]
  exact ⟨_, _, hp, hi, rfl, rfl⟩
 ·rw [hs, cond_false] at hp
  replace hp : p = (numberP (kts ts) i).bind fun n i => PR.ok n i := by rw [hp]; cases numberP (kts ts) i <;> rfl
  repeat (first | refine ACode.seq ?_ | (refine ACode.s_reg tys_ok ?_; conv => whnf) | refine ACode.s_block ?_ | refine ACode.s_scope ?_ | (refine ACode.s_cond ?_; conv => whnf) | (refine ACode.s_exit ?_; conv => whnf) | (refine ACode.s_ret ?_; conv => whnf) | (refine ACode.s_skip ?_; conv => whnf) | (refine ACode.s_label ?_; conv => whnf))
  refine ACall.of_m (number_m ts len i ht hi) hp (fun _ => rfl) rfl (fun j e k h hk => ?_) (fun x i hq hp hi => ?_)
  ·conv => whnf
   exact ⟨_, _, _, h, hk, rfl, rfl⟩
  conv => whnf
  repeat (first | refine ACode.seq ?_ | (refine ACode.s_reg tys_ok ?_; conv => whnf) | refine ACode.s_block ?_ | refine ACode.s_scope ?_ | (refine ACode.s_cond ?_; conv => whnf) | (refine ACode.s_exit ?_; conv => whnf) | (refine ACode.s_ret ?_; conv => whnf) | (refine ACode.s_skip ?_; conv => whnf) | (refine ACode.s_label ?_; conv => whnf))
  exact ⟨_, _, hp, hi, rfl, rfl⟩
/-- A section of the parser: a list of its network grows. -/
def nilA : AV := .raw (.slice none 0 0)
set_option maxRecDepth 20000 in
theorem operators_m (ts : List Tok) (len i : Nat) (n : Nw) (v : V6) (ht : TsOK ts) (hi : i ≤ ts.length) (hn : n.opers = []) :
  HCtr Tryz.prog 13 [.ptr 4 0] (PQ ts len i (.raw v.a) (.raw v.b) nilA (.raw v.d) (.raw v.e) (.raw v.f))
   (fun r H => ∃ n' j, opersP (kts ts) ts.length n i = .ok n' j ∧ j ≤ ts.length ∧ r = .tuple [] ∧ H = PQ ts len j (.raw v.a) (.raw v.b) (.sl 1 (n'.opers.map operA)) (.raw v.d) (.raw v.e) (.raw v.f))
   (fun x H => ∃ e k j l, opersP (kts ts) ts.length n i = .fail e k ∧ k ≤ ts.length ∧ x = failA ts len e k ∧ H = PQ ts len j (.raw v.a) (.raw v.b) l (.raw v.d) (.raw v.e) (.raw v.f)) := by
 have hl := ht.len
 generalize hp : opersP (kts ts) ts.length n i = p
 replace hp := hp.symm
 refine HCtr.of_body Tryz.func13 rfl tys_ok (by kernel_rfl) rfl ?_
 conv => whnf
 repeat (first | refine ACode.seq ?_ | (refine ACode.s_reg tys_ok ?_; conv => whnf) | refine ACode.s_block ?_ | refine ACode.s_scope ?_ | (refine ACode.s_cond ?_; conv => whnf) | (refine ACode.s_exit ?_; conv => whnf) | (refine ACode.s_ret ?_; conv => whnf) | (refine ACode.s_skip ?_; conv => whnf) | (refine ACode.s_label ?_; conv => whnf))
 refine ACode.nilCell 4 5 65 1 rfl rfl ?_
 refine ACode.loopD (fun x : Nat × Nat × Nw => mk 24 [(0, .ptr 4 0)]) (fun x => PQ ts len x.2.1 (.raw v.a) (.raw v.b) (.own 5 1 0 x.2.2.opers.length) (.raw v.d) (.raw v.e) (.raw v.f) ++ [.arr 65 1 (x.2.2.opers.map operA)])
  (fun x => p = opersP (kts ts) x.1 x.2.2 x.2.1 ∧ x.2.1 ≤ ts.length ∧ ts.length ≤ x.2.1 + x.1 ∧ x.2.2.opers.length ≤ x.2.1) (fun x => x.1)
  (fun x hx => ⟨rfl, ?_⟩) ⟨(ts.length, i, n), ?_⟩ (fun _ => rfl) fun x hx => ?_
 ·(conv => whnf)
  refine ⟨rfl, ?_⟩
  (conv => whnf)
  exact ⟨closed_map _ (fun _ => rfl) _, trivial⟩
 ·conv => whnf
  repeat (refine And.intro ?_ ?_; (focus (first | rfl | (simp; done) | (simp [hn, PQ, oneK]; done))); conv => whnf)
  exact ⟨hp, hi, by simp, by simp [hn]⟩
 ·obtain ⟨f, i, n⟩ := x
  obtain ⟨hp, hi, hf, hn⟩ := hx
  simp only at hp hi hf hn
  repeat (first | refine ACode.seq ?_ | (refine ACode.s_reg tys_ok ?_; conv => whnf) | refine ACode.s_block ?_ | refine ACode.s_scope ?_ | (refine ACode.s_cond ?_; conv => whnf) | (refine ACode.s_exit ?_; conv => whnf) | (refine ACode.s_ret ?_; conv => whnf) | (refine ACode.s_skip ?_; conv => whnf) | (refine ACode.s_label ?_; conv => whnf))
  refine ACall.of_m0 (has_m ts len i w_operator hl hi) (fun _ => rfl) rfl ?_
  conv => whnf
  repeat (first | refine ACode.seq ?_ | (refine ACode.s_reg tys_ok ?_; conv => whnf) | refine ACode.s_block ?_ | refine ACode.s_scope ?_ | (refine ACode.s_cond ?_; conv => whnf) | (refine ACode.s_exit ?_; conv => whnf) | (refine ACode.s_ret ?_; conv => whnf) | (refine ACode.s_skip ?_; conv => whnf) | (refine ACode.s_label ?_; conv => whnf))
  refine ⟨fun hs => ?_, fun hs => ?_⟩
  ·have hlt := sees_le hs
   obtain ⟨f, rfl⟩ : ∃ g, f = g + 1 := ⟨f - 1, by omega⟩
   unfold opersP operP at hp
   rw [hs, cond_true] at hp
   simp only [PR.bind_assoc, PR.ok_bind] at hp
   repeat (first | refine ACode.seq ?_ | (refine ACode.s_reg tys_ok ?_; conv => whnf) | refine ACode.s_block ?_ | refine ACode.s_scope ?_ | (refine ACode.s_cond ?_; conv => whnf) | (refine ACode.s_exit ?_; conv => whnf) | (refine ACode.s_ret ?_; conv => whnf) | (refine ACode.s_skip ?_; conv => whnf) | (refine ACode.s_label ?_; conv => whnf))
   refine ACall.of_m (word_m ts len i w_operator hl hi) hp (fun _ => rfl) rfl (fun j e k h hk => ?_) (fun _ i1 hq hp hi => ?_)
   ·conv => whnf
    refine ⟨⟨by simp, closed_map _ (fun _ => rfl) _⟩, ?_⟩; (conv => whnf); exact ⟨_, _, _, _, h, hk, rfl, rfl⟩
   conv => whnf
   repeat (first | refine ACode.seq ?_ | (refine ACode.s_reg tys_ok ?_; conv => whnf) | refine ACode.s_block ?_ | refine ACode.s_scope ?_ | (refine ACode.s_cond ?_; conv => whnf) | (refine ACode.s_exit ?_; conv => whnf) | (refine ACode.s_ret ?_; conv => whnf) | (refine ACode.s_skip ?_; conv => whnf) | (refine ACode.s_label ?_; conv => whnf))
   have e1 := expect_j hq
   refine ACall.of_m (name_m ts len i1 ht hi) hp (fun _ => rfl) rfl (fun j e k h hk => ?_) (fun x i2 hq hp hi => ?_)
   ·conv => whnf
    refine ⟨⟨by simp, closed_map _ (fun _ => rfl) _⟩, ?_⟩; (conv => whnf); exact ⟨_, _, _, _, h, hk, rfl, rfl⟩
   conv => whnf
   repeat (first | refine ACode.seq ?_ | (refine ACode.s_reg tys_ok ?_; conv => whnf) | refine ACode.s_block ?_ | refine ACode.s_scope ?_ | (refine ACode.s_cond ?_; conv => whnf) | (refine ACode.s_exit ?_; conv => whnf) | (refine ACode.s_ret ?_; conv => whnf) | (refine ACode.s_skip ?_; conv => whnf) | (refine ACode.s_label ?_; conv => whnf))
   have e2 := name_j hq
   refine ACall.of_m (symbol_m ts len i2 s_semi hl hi) hp (fun _ => rfl) rfl (fun j e k h hk => ?_) (fun _ i3 hq hp hi => ?_)
   ·conv => whnf
    refine ⟨⟨by simp, closed_map _ (fun _ => rfl) _⟩, ?_⟩; (conv => whnf); exact ⟨_, _, _, _, h, hk, rfl, rfl⟩
   conv => whnf
   repeat (first | refine ACode.seq ?_ | (refine ACode.s_reg tys_ok ?_; conv => whnf) | refine ACode.s_block ?_ | refine ACode.s_scope ?_ | (refine ACode.s_cond ?_; conv => whnf) | (refine ACode.s_exit ?_; conv => whnf) | (refine ACode.s_ret ?_; conv => whnf) | (refine ACode.s_skip ?_; conv => whnf) | (refine ACode.s_label ?_; conv => whnf))
   have e3 := expect_j hq
   refine ⟨rfl, ?_⟩
   conv => whnf
   refine ⟨⟨by simp, by simp; omega⟩, ?_⟩
   conv => whnf
   repeat (first | refine ACode.seq ?_ | (refine ACode.s_reg tys_ok ?_; conv => whnf) | refine ACode.s_block ?_ | refine ACode.s_scope ?_ | (refine ACode.s_cond ?_; conv => whnf) | (refine ACode.s_exit ?_; conv => whnf) | (refine ACode.s_ret ?_; conv => whnf) | (refine ACode.s_skip ?_; conv => whnf) | (refine ACode.s_label ?_; conv => whnf))
   refine ⟨(f, i3, { n with opers := n.opers ++ [x] }), ?_⟩
   conv => whnf
   repeat (refine And.intro ?_ ?_; (focus (first | rfl | (simp; done) | (simp [operA]; done))); conv => whnf)
   exact ⟨⟨hp, hi, by simp only; omega, by simp; omega⟩, by simp⟩
  ·have hp : p = .ok n i := by
    rw [hp]; cases f <;> simp [opersP, hs]
   repeat (first | refine ACode.seq ?_ | (refine ACode.s_reg tys_ok ?_; conv => whnf) | refine ACode.s_block ?_ | refine ACode.s_scope ?_ | (refine ACode.s_cond ?_; conv => whnf) | (refine ACode.s_exit ?_; conv => whnf) | (refine ACode.s_ret ?_; conv => whnf) | (refine ACode.s_skip ?_; conv => whnf) | (refine ACode.s_label ?_; conv => whnf))
   refine ⟨⟨by simp, closed_map _ (fun _ => rfl) _⟩, ?_⟩
   conv => whnf
   exact ⟨_, _, hp, hi, rfl, rfl⟩
end Go.Proofs.YtmhlneeboefkgaaGreatDoor
