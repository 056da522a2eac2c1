import Derived.Test.YtmhlneeboefkgaaGreatDoorN14
set_option linter.unusedVariables false
set_option linter.unusedSimpArgs false
namespace Go.Proofs.YtmhlneeboefkgaaGreatDoor
open Go.Av Go.Av.Net
theorem operName_spec (x : Bs) : Ctr Tryz.prog 43 [.agg [.str x]] (fun r => r = .str x) := by
 refine Ctr.of_body Tryz.func43 rfl tys_ok (by kernel_rfl) ?_
 conv => whnf
 repeat (first | refine ACode.seq ?_ | (refine ACode.s_reg tys_ok ?_; conv => whnf) | refine ACode.s_block ?_ | refine ACode.s_scope ?_ | (refine ACode.s_cond ?_; conv => whnf) | (refine ACode.s_exit ?_; conv => whnf) | (refine ACode.s_ret ?_; conv => whnf) | (refine ACode.s_skip ?_; conv => whnf) | (refine ACode.s_label ?_; conv => whnf))
theorem nameName_spec (x : Bs) : Ctr Tryz.prog 45 [.str x] (fun r => r = .str x) := by
 refine Ctr.of_body Tryz.func45 rfl tys_ok (by kernel_rfl) ?_
 conv => whnf
 repeat (first | refine ACode.seq ?_ | (refine ACode.s_reg tys_ok ?_; conv => whnf) | refine ACode.s_block ?_ | refine ACode.s_scope ?_ | (refine ACode.s_cond ?_; conv => whnf) | (refine ACode.s_exit ?_; conv => whnf) | (refine ACode.s_ret ?_; conv => whnf) | (refine ACode.s_skip ?_; conv => whnf) | (refine ACode.s_label ?_; conv => whnf))
theorem offName_spec (o : Off) : Ctr Tryz.prog 71 [offA o] (fun r => r = .str o.name) := by
 refine Ctr.of_body Tryz.func71 rfl tys_ok (by kernel_rfl) ?_
 conv => whnf
 repeat (first | refine ACode.seq ?_ | (refine ACode.s_reg tys_ok ?_; conv => whnf) | refine ACode.s_block ?_ | refine ACode.s_scope ?_ | (refine ACode.s_cond ?_; conv => whnf) | (refine ACode.s_exit ?_; conv => whnf) | (refine ACode.s_ret ?_; conv => whnf) | (refine ACode.s_skip ?_; conv => whnf) | (refine ACode.s_label ?_; conv => whnf))
theorem idx_step (x y : Bs) (l : List Bs) (k : Nat) (h : k < l.length) : (idxOf x (l.drop k)).map (· + k) = bif decide (l[k] = x) then some k else (idxOf x (l.drop (k + 1))).map (· + (k + 1)) := by
 rw [List.drop_eq_getElem_cons h]
 rw [show idxOf x (l[k] :: l.drop (k + 1)) = bif decide (l[k] = x) then some 0 else (idxOf x (l.drop (k + 1))).map (· + 1) from rfl]
 by_cases e : l[k] = x
 ·simp [e]
 ·rw [decide_eq_false e, cond_false, cond_false, Option.map_map]
  congr 1
  funext a
  simp only [Function.comp]
  omega
theorem idx_end (x : Bs) (l : List Bs) : (idxOf x (l.drop l.length)).map (· + l.length) = none := by
 rw [List.drop_length]; rfl
set_option maxRecDepth 20000 in
theorem refOper_m (ts : List Tok) (len i : Nat) (l : List Bs) (ht : TsOK ts) (hi : i ≤ ts.length) (hn : l.length ≤ 3000) : MCtr 42 [.ptr 4 0, .sl 1 (l.map operA), .fn 43 []] ts len i (refP (kts ts) l i) (fun k => .int .i64 k) := by
 have hl := ht.len
 intro v
 generalize hp : refP (kts ts) l i = p
 replace hp := hp.symm
 unfold refP at hp
 refine HCtr.of_body Tryz.func42 rfl tys_ok (by kernel_rfl) rfl ?_
 conv => whnf
 repeat (first | refine ACode.seq ?_ | (refine ACode.s_reg tys_ok ?_; conv => whnf) | refine ACode.s_block ?_ | refine ACode.s_scope ?_ | (refine ACode.s_cond ?_; conv => whnf) | (refine ACode.s_exit ?_; conv => whnf) | (refine ACode.s_ret ?_; conv => whnf) | (refine ACode.s_skip ?_; conv => whnf) | (refine ACode.s_label ?_; conv => whnf))
 refine ACall.of_m (name_m ts len i ht hi) hp (fun _ => rfl) rfl (fun j e k h hk => ?_) (fun x j hq hp hi => ?_)
 ·conv => whnf
  exact ⟨_, _, _, h, hk, rfl, rfl⟩
 conv => whnf
 repeat (first | refine ACode.seq ?_ | (refine ACode.s_reg tys_ok ?_; conv => whnf) | refine ACode.s_block ?_ | refine ACode.s_scope ?_ | (refine ACode.s_cond ?_; conv => whnf) | (refine ACode.s_exit ?_; conv => whnf) | (refine ACode.s_ret ?_; conv => whnf) | (refine ACode.s_skip ?_; conv => whnf) | (refine ACode.s_label ?_; conv => whnf))
 have hj := name_j hq
 refine ACode.loopD (fun k : Nat => mk 40 [(0, .ptr 4 0), (2, .fn 43 []), (6, .int .i64 0), (7, .str x), (12, .sl 1 (l.map operA)), (13, .int .i64 (l.map operA).length), (14, .int .i64 k)]) (fun _ => PQr ts len j v)
  (fun k => k ≤ l.length ∧ idxOf x l = (idxOf x (l.drop k)).map (· + k)) (fun k => l.length - k) (fun k hk => ⟨rfl, ?_⟩) ⟨0, ?_⟩ (fun _ => rfl) fun k hk => ?_
 ·(conv => whnf)
  exact ⟨rfl, trivial⟩
 ·conv => whnf
  repeat (refine And.intro ?_ ?_; (focus (first | rfl | (simp; done))); conv => whnf)
  simp
 ·obtain ⟨hkl, he⟩ := hk
  repeat (first | refine ACode.seq ?_ | (refine ACode.s_reg tys_ok ?_; conv => whnf) | refine ACode.s_block ?_ | refine ACode.s_scope ?_ | (refine ACode.s_cond ?_; conv => whnf) | (refine ACode.s_exit ?_; conv => whnf) | (refine ACode.s_ret ?_; conv => whnf) | (refine ACode.s_skip ?_; conv => whnf) | (refine ACode.s_label ?_; conv => whnf))
  refine ⟨fun hlt => ?_, fun hge => ?_⟩
  ·have hlt : k < l.length := by simpa using hlt
   rw [idx_step x x l k hlt] at he
   repeat (first | refine ACode.seq ?_ | (refine ACode.s_reg tys_ok ?_; conv => whnf) | refine ACode.s_block ?_ | refine ACode.s_scope ?_ | (refine ACode.s_cond ?_; conv => whnf) | (refine ACode.s_exit ?_; conv => whnf) | (refine ACode.s_ret ?_; conv => whnf) | (refine ACode.s_skip ?_; conv => whnf) | (refine ACode.s_label ?_; conv => whnf))
   refine ⟨by omega, operA l[k], by simp [hlt], ?_⟩
   conv => whnf
   repeat (first | refine ACode.seq ?_ | (refine ACode.s_reg tys_ok ?_; conv => whnf) | refine ACode.s_block ?_ | refine ACode.s_scope ?_ | (refine ACode.s_cond ?_; conv => whnf) | (refine ACode.s_exit ?_; conv => whnf) | (refine ACode.s_ret ?_; conv => whnf) | (refine ACode.s_skip ?_; conv => whnf) | (refine ACode.s_label ?_; conv => whnf))
   refine ACall.of_spec (operName_spec l[k]) rfl fun r hr => ?_
   subst hr
   conv => whnf
   repeat (first | refine ACode.seq ?_ | (refine ACode.s_reg tys_ok ?_; conv => whnf) | refine ACode.s_block ?_ | refine ACode.s_scope ?_ | (refine ACode.s_cond ?_; conv => whnf) | (refine ACode.s_exit ?_; conv => whnf) | (refine ACode.s_ret ?_; conv => whnf) | (refine ACode.s_skip ?_; conv => whnf) | (refine ACode.s_label ?_; conv => whnf))
   refine ⟨fun ht => ?_, fun hf => ?_⟩
   ·have ht : l[k] = x := by simpa using ht
    rw [he, decide_eq_true ht] at hp
    repeat (first | refine ACode.seq ?_ | (refine ACode.s_reg tys_ok ?_; conv => whnf) | refine ACode.s_block ?_ | refine ACode.s_scope ?_ | (refine ACode.s_cond ?_; conv => whnf) | (refine ACode.s_exit ?_; conv => whnf) | (refine ACode.s_ret ?_; conv => whnf) | (refine ACode.s_skip ?_; conv => whnf) | (refine ACode.s_label ?_; conv => whnf))
    exact ⟨_, _, hp, hi, rfl, rfl⟩
   ·have hf : ¬ l[k] = x := by simpa using hf
    rw [decide_eq_false hf, cond_false] at he
    repeat (first | refine ACode.seq ?_ | (refine ACode.s_reg tys_ok ?_; conv => whnf) | refine ACode.s_block ?_ | refine ACode.s_scope ?_ | (refine ACode.s_cond ?_; conv => whnf) | (refine ACode.s_exit ?_; conv => whnf) | (refine ACode.s_ret ?_; conv => whnf) | (refine ACode.s_skip ?_; conv => whnf) | (refine ACode.s_label ?_; conv => whnf))
    refine ⟨k + 1, ?_⟩
    conv => whnf
    repeat (refine And.intro ?_ ?_; (focus (first | rfl | (simp; done) | (rw [Wr64 _ (by omega) (by omega)]; omega; done))); conv => whnf)
    exact ⟨⟨by omega, he⟩, by omega⟩
  ·have hge : l.length ≤ k := by simp at hge; omega
   have : k = l.length := by omega
   subst this
   rw [he, idx_end] at hp
   repeat (first | refine ACode.seq ?_ | (refine ACode.s_reg tys_ok ?_; conv => whnf) | refine ACode.s_block ?_ | refine ACode.s_scope ?_ | (refine ACode.s_cond ?_; conv => whnf) | (refine ACode.s_exit ?_; conv => whnf) | (refine ACode.s_ret ?_; conv => whnf) | (refine ACode.s_skip ?_; conv => whnf) | (refine ACode.s_label ?_; conv => whnf))
   refine ACode.draw [14] tys_ok (by kernel_rfl) (by kernel_rfl) ?_
   conv => whnf
   have hil : i < ts.length := by omega
   rw [show Wr .i64 ((j : Int) - 1) = (i : Int) by rw [Wr64 _ (by omega) (by omega)]; omega]
   refine ⟨by omega, tokA ts[i], toksA_get _ _ hil, ?_⟩
   conv => whnf
   subst hj
   refine ⟨_, _, _, hp, by omega, ?_, rfl⟩
   unfold failA offs
   rw [Nat.add_sub_cancel, List.getElem?_eq_getElem hil]
set_option maxRecDepth 20000 in
theorem refName_m (ts : List Tok) (len i : Nat) (l : List Bs) (ht : TsOK ts) (hi : i ≤ ts.length) (hn : l.length ≤ 3000) : MCtr 44 [.ptr 4 0, .sl 1 (strs l), .fn 45 []] ts len i (refP (kts ts) l i) (fun k => .int .i64 k) := by
 have hl := ht.len
 intro v
 generalize hp : refP (kts ts) l i = p
 replace hp := hp.symm
 unfold refP at hp
 refine HCtr.of_body Tryz.func44 rfl tys_ok (by kernel_rfl) rfl ?_
 conv => whnf
 repeat (first | refine ACode.seq ?_ | (refine ACode.s_reg tys_ok ?_; conv => whnf) | refine ACode.s_block ?_ | refine ACode.s_scope ?_ | (refine ACode.s_cond ?_; conv => whnf) | (refine ACode.s_exit ?_; conv => whnf) | (refine ACode.s_ret ?_; conv => whnf) | (refine ACode.s_skip ?_; conv => whnf) | (refine ACode.s_label ?_; conv => whnf))
 refine ACall.of_m (name_m ts len i ht hi) hp (fun _ => rfl) rfl (fun j e k h hk => ?_) (fun x j hq hp hi => ?_)
 ·conv => whnf
  exact ⟨_, _, _, h, hk, rfl, rfl⟩
 conv => whnf
 repeat (first | refine ACode.seq ?_ | (refine ACode.s_reg tys_ok ?_; conv => whnf) | refine ACode.s_block ?_ | refine ACode.s_scope ?_ | (refine ACode.s_cond ?_; conv => whnf) | (refine ACode.s_exit ?_; conv => whnf) | (refine ACode.s_ret ?_; conv => whnf) | (refine ACode.s_skip ?_; conv => whnf) | (refine ACode.s_label ?_; conv => whnf))
 have hj := name_j hq
 refine ACode.loopD (fun k : Nat => mk 40 [(0, .ptr 4 0), (2, .fn 45 []), (6, .int .i64 0), (7, .str x), (12, .sl 1 (strs l)), (13, .int .i64 (strs l).length), (14, .int .i64 k)]) (fun _ => PQr ts len j v)
  (fun k => k ≤ l.length ∧ idxOf x l = (idxOf x (l.drop k)).map (· + k)) (fun k => l.length - k) (fun k hk => ⟨rfl, ?_⟩) ⟨0, ?_⟩ (fun _ => rfl) fun k hk => ?_
 ·(conv => whnf)
  exact ⟨rfl, trivial⟩
 ·conv => whnf
  repeat (refine And.intro ?_ ?_; (focus (first | rfl | (simp; done))); conv => whnf)
  simp
 ·obtain ⟨hkl, he⟩ := hk
  repeat (first | refine ACode.seq ?_ | (refine ACode.s_reg tys_ok ?_; conv => whnf) | refine ACode.s_block ?_ | refine ACode.s_scope ?_ | (refine ACode.s_cond ?_; conv => whnf) | (refine ACode.s_exit ?_; conv => whnf) | (refine ACode.s_ret ?_; conv => whnf) | (refine ACode.s_skip ?_; conv => whnf) | (refine ACode.s_label ?_; conv => whnf))
  refine ⟨fun hlt => ?_, fun hge => ?_⟩
  ·have hlt : k < l.length := by simpa using hlt
   rw [idx_step x x l k hlt] at he
   repeat (first | refine ACode.seq ?_ | (refine ACode.s_reg tys_ok ?_; conv => whnf) | refine ACode.s_block ?_ | refine ACode.s_scope ?_ | (refine ACode.s_cond ?_; conv => whnf) | (refine ACode.s_exit ?_; conv => whnf) | (refine ACode.s_ret ?_; conv => whnf) | (refine ACode.s_skip ?_; conv => whnf) | (refine ACode.s_label ?_; conv => whnf))
   refine ⟨by omega, .str l[k], strs_get _ _ hlt, ?_⟩
   conv => whnf
   repeat (first | refine ACode.seq ?_ | (refine ACode.s_reg tys_ok ?_; conv => whnf) | refine ACode.s_block ?_ | refine ACode.s_scope ?_ | (refine ACode.s_cond ?_; conv => whnf) | (refine ACode.s_exit ?_; conv => whnf) | (refine ACode.s_ret ?_; conv => whnf) | (refine ACode.s_skip ?_; conv => whnf) | (refine ACode.s_label ?_; conv => whnf))
   refine ACall.of_spec (nameName_spec l[k]) rfl fun r hr => ?_
   subst hr
   conv => whnf
   repeat (first | refine ACode.seq ?_ | (refine ACode.s_reg tys_ok ?_; conv => whnf) | refine ACode.s_block ?_ | refine ACode.s_scope ?_ | (refine ACode.s_cond ?_; conv => whnf) | (refine ACode.s_exit ?_; conv => whnf) | (refine ACode.s_ret ?_; conv => whnf) | (refine ACode.s_skip ?_; conv => whnf) | (refine ACode.s_label ?_; conv => whnf))
   refine ⟨fun ht => ?_, fun hf => ?_⟩
   ·have ht : l[k] = x := by simpa using ht
    rw [he, decide_eq_true ht] at hp
    repeat (first | refine ACode.seq ?_ | (refine ACode.s_reg tys_ok ?_; conv => whnf) | refine ACode.s_block ?_ | refine ACode.s_scope ?_ | (refine ACode.s_cond ?_; conv => whnf) | (refine ACode.s_exit ?_; conv => whnf) | (refine ACode.s_ret ?_; conv => whnf) | (refine ACode.s_skip ?_; conv => whnf) | (refine ACode.s_label ?_; conv => whnf))
    exact ⟨_, _, hp, hi, rfl, rfl⟩
   ·have hf : ¬ l[k] = x := by simpa using hf
    rw [decide_eq_false hf, cond_false] at he
    repeat (first | refine ACode.seq ?_ | (refine ACode.s_reg tys_ok ?_; conv => whnf) | refine ACode.s_block ?_ | refine ACode.s_scope ?_ | (refine ACode.s_cond ?_; conv => whnf) | (refine ACode.s_exit ?_; conv => whnf) | (refine ACode.s_ret ?_; conv => whnf) | (refine ACode.s_skip ?_; conv => whnf) | (refine ACode.s_label ?_; conv => whnf))
    refine ⟨k + 1, ?_⟩
    conv => whnf
    repeat (refine And.intro ?_ ?_; (focus (first | rfl | (simp; done) | (rw [Wr64 _ (by omega) (by omega)]; omega; done))); conv => whnf)
    exact ⟨⟨by omega, he⟩, by omega⟩
  ·have hge : l.length ≤ k := by simp at hge; omega
   have : k = l.length := by omega
   subst this
   rw [he, idx_end] at hp
   repeat (first | refine ACode.seq ?_ | (refine ACode.s_reg tys_ok ?_; conv => whnf) | refine ACode.s_block ?_ | refine ACode.s_scope ?_ | (refine ACode.s_cond ?_; conv => whnf) | (refine ACode.s_exit ?_; conv => whnf) | (refine ACode.s_ret ?_; conv => whnf) | (refine ACode.s_skip ?_; conv => whnf) | (refine ACode.s_label ?_; conv => whnf))
   refine ACode.draw [14] tys_ok (by kernel_rfl) (by kernel_rfl) ?_
   conv => whnf
   have hil : i < ts.length := by omega
   rw [show Wr .i64 ((j : Int) - 1) = (i : Int) by rw [Wr64 _ (by omega) (by omega)]; omega]
   refine ⟨by omega, tokA ts[i], toksA_get _ _ hil, ?_⟩
   conv => whnf
   subst hj
   refine ⟨_, _, _, hp, by omega, ?_, rfl⟩
   unfold failA offs
   rw [Nat.add_sub_cancel, List.getElem?_eq_getElem hil]
set_option maxRecDepth 20000 in
theorem refOff_m (ts : List Tok) (len i : Nat) (l : List Off) (ht : TsOK ts) (hi : i ≤ ts.length) (hn : l.length ≤ 3000) : MCtr 70 [.ptr 4 0, .sl 7 (l.map offA), .fn 71 []] ts len i (refP (kts ts) (l.map (·.name)) i) (fun k => .int .i64 k) := by
 have hl := ht.len
 intro v
 generalize hp : refP (kts ts) (l.map (·.name)) i = p
 replace hp := hp.symm
 unfold refP at hp
 refine HCtr.of_body Tryz.func70 rfl tys_ok (by kernel_rfl) rfl ?_
 conv => whnf
 repeat (first | refine ACode.seq ?_ | (refine ACode.s_reg tys_ok ?_; conv => whnf) | refine ACode.s_block ?_ | refine ACode.s_scope ?_ | (refine ACode.s_cond ?_; conv => whnf) | (refine ACode.s_exit ?_; conv => whnf) | (refine ACode.s_ret ?_; conv => whnf) | (refine ACode.s_skip ?_; conv => whnf) | (refine ACode.s_label ?_; conv => whnf))
 refine ACall.of_m (name_m ts len i ht hi) hp (fun _ => rfl) rfl (fun j e k h hk => ?_) (fun x j hq hp hi => ?_)
 ·conv => whnf
  exact ⟨_, _, _, h, hk, rfl, rfl⟩
 conv => whnf
 repeat (first | refine ACode.seq ?_ | (refine ACode.s_reg tys_ok ?_; conv => whnf) | refine ACode.s_block ?_ | refine ACode.s_scope ?_ | (refine ACode.s_cond ?_; conv => whnf) | (refine ACode.s_exit ?_; conv => whnf) | (refine ACode.s_ret ?_; conv => whnf) | (refine ACode.s_skip ?_; conv => whnf) | (refine ACode.s_label ?_; conv => whnf))
 have hj := name_j hq
 refine ACode.loopD (fun k : Nat => mk 40 [(0, .ptr 4 0), (2, .fn 71 []), (6, .int .i64 0), (7, .str x), (12, .sl 7 (l.map offA)), (13, .int .i64 (l.map offA).length), (14, .int .i64 k)]) (fun _ => PQr ts len j v)
  (fun k => k ≤ l.length ∧ idxOf x (l.map (·.name)) = (idxOf x ((l.map (·.name)).drop k)).map (· + k)) (fun k => l.length - k) (fun k hk => ⟨rfl, ?_⟩) ⟨0, ?_⟩ (fun _ => rfl) fun k hk => ?_
 ·(conv => whnf)
  exact ⟨rfl, trivial⟩
 ·conv => whnf
  repeat (refine And.intro ?_ ?_; (focus (first | rfl | (simp; done))); conv => whnf)
  simp
 ·obtain ⟨hkl, he⟩ := hk
  repeat (first | refine ACode.seq ?_ | (refine ACode.s_reg tys_ok ?_; conv => whnf) | refine ACode.s_block ?_ | refine ACode.s_scope ?_ | (refine ACode.s_cond ?_; conv => whnf) | (refine ACode.s_exit ?_; conv => whnf) | (refine ACode.s_ret ?_; conv => whnf) | (refine ACode.s_skip ?_; conv => whnf) | (refine ACode.s_label ?_; conv => whnf))
  refine ⟨fun hlt => ?_, fun hge => ?_⟩
  ·have hlt : k < l.length := by simpa using hlt
   rw [idx_step x x (l.map (·.name)) k (by simpa using hlt), List.getElem_map] at he
   repeat (first | refine ACode.seq ?_ | (refine ACode.s_reg tys_ok ?_; conv => whnf) | refine ACode.s_block ?_ | refine ACode.s_scope ?_ | (refine ACode.s_cond ?_; conv => whnf) | (refine ACode.s_exit ?_; conv => whnf) | (refine ACode.s_ret ?_; conv => whnf) | (refine ACode.s_skip ?_; conv => whnf) | (refine ACode.s_label ?_; conv => whnf))
   refine ⟨by omega, offA l[k], by simp [hlt], ?_⟩
   conv => whnf
   repeat (first | refine ACode.seq ?_ | (refine ACode.s_reg tys_ok ?_; conv => whnf) | refine ACode.s_block ?_ | refine ACode.s_scope ?_ | (refine ACode.s_cond ?_; conv => whnf) | (refine ACode.s_exit ?_; conv => whnf) | (refine ACode.s_ret ?_; conv => whnf) | (refine ACode.s_skip ?_; conv => whnf) | (refine ACode.s_label ?_; conv => whnf))
   refine ACall.of_spec (offName_spec l[k]) rfl fun r hr => ?_
   subst hr
   conv => whnf
   repeat (first | refine ACode.seq ?_ | (refine ACode.s_reg tys_ok ?_; conv => whnf) | refine ACode.s_block ?_ | refine ACode.s_scope ?_ | (refine ACode.s_cond ?_; conv => whnf) | (refine ACode.s_exit ?_; conv => whnf) | (refine ACode.s_ret ?_; conv => whnf) | (refine ACode.s_skip ?_; conv => whnf) | (refine ACode.s_label ?_; conv => whnf))
   refine ⟨fun ht => ?_, fun hf => ?_⟩
   ·have ht : l[k].name = x := by simpa using ht
    rw [he, decide_eq_true ht] at hp
    repeat (first | refine ACode.seq ?_ | (refine ACode.s_reg tys_ok ?_; conv => whnf) | refine ACode.s_block ?_ | refine ACode.s_scope ?_ | (refine ACode.s_cond ?_; conv => whnf) | (refine ACode.s_exit ?_; conv => whnf) | (refine ACode.s_ret ?_; conv => whnf) | (refine ACode.s_skip ?_; conv => whnf) | (refine ACode.s_label ?_; conv => whnf))
    exact ⟨_, _, hp, hi, rfl, rfl⟩
   ·have hf : ¬ l[k].name = x := by simpa using hf
    rw [decide_eq_false hf, cond_false] at he
    repeat (first | refine ACode.seq ?_ | (refine ACode.s_reg tys_ok ?_; conv => whnf) | refine ACode.s_block ?_ | refine ACode.s_scope ?_ | (refine ACode.s_cond ?_; conv => whnf) | (refine ACode.s_exit ?_; conv => whnf) | (refine ACode.s_ret ?_; conv => whnf) | (refine ACode.s_skip ?_; conv => whnf) | (refine ACode.s_label ?_; conv => whnf))
    refine ⟨k + 1, ?_⟩
    conv => whnf
    repeat (refine And.intro ?_ ?_; (focus (first | rfl | (simp; done) | (rw [Wr64 _ (by omega) (by omega)]; omega; done))); conv => whnf)
    exact ⟨⟨by omega, he⟩, by omega⟩
  ·have hge : l.length ≤ k := by simp at hge; omega
   have : k = l.length := by omega
   subst this
   rw [he, show l.length = (l.map (·.name)).length by simp, idx_end] at hp
   repeat (first | refine ACode.seq ?_ | (refine ACode.s_reg tys_ok ?_; conv => whnf) | refine ACode.s_block ?_ | refine ACode.s_scope ?_ | (refine ACode.s_cond ?_; conv => whnf) | (refine ACode.s_exit ?_; conv => whnf) | (refine ACode.s_ret ?_; conv => whnf) | (refine ACode.s_skip ?_; conv => whnf) | (refine ACode.s_label ?_; conv => whnf))
   refine ACode.draw [14] tys_ok (by kernel_rfl) (by kernel_rfl) ?_
   conv => whnf
   have hil : i < ts.length := by omega
   rw [show Wr .i64 ((j : Int) - 1) = (i : Int) by rw [Wr64 _ (by omega) (by omega)]; omega]
   refine ⟨by omega, tokA ts[i], toksA_get _ _ hil, ?_⟩
   conv => whnf
   subst hj
   refine ⟨_, _, _, hp, by omega, ?_, rfl⟩
   unfold failA offs
   rw [Nat.add_sub_cancel, List.getElem?_eq_getElem hil]
end Go.Proofs.YtmhlneeboefkgaaGreatDoor
