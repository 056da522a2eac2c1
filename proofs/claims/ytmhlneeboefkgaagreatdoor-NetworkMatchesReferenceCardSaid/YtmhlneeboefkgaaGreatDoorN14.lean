import Derived.Test.YtmhlneeboefkgaaGreatDoorN13
set_option linter.unusedVariables false
set_option linter.unusedSimpArgs false
namespace Go.Proofs.YtmhlneeboefkgaaGreatDoor
open Go.Av Go.Av.Net
theorem weekP_peek (ts : List Tok) (i : Nat) : weekP (kts ts) i = (peekP ts i).bind fun t i => bif decide (t.kind = 2) && isWeekB t.text then .ok (t.text.map fun b => decide (b.toNat = 49)) (i + 1) else .fail 90 i := by
 unfold weekP peekP
 rcases Nat.lt_or_ge i ts.length with h' | h'
 ·rw [kts_lt ts i h', List.getElem?_eq_getElem h']; rfl
 ·rw [kts_ge ts i h', List.getElem?_eq_none h']; rfl
set_option maxRecDepth 20000 in
theorem week_m (ts : List Tok) (len i : Nat)  (ht : TsOK ts) (hi : i ≤ ts.length) : MCtr 41 [.ptr 4 0] ts len i (weekP (kts ts) i) (fun l => .sl 1 (l.map .bool)) := by
 have hl := ht.len
 intro v
 generalize hp : weekP (kts ts) i = p
 replace hp := hp.symm
 refine HCtr.of_body Tryz.func41 rfl tys_ok (by kernel_rfl) rfl ?_
 conv => whnf
 repeat (first | refine ACode.seq ?_ | (refine ACode.s_reg tys_ok ?_; conv => whnf) | refine ACode.s_block ?_ | refine ACode.s_scope ?_ | (refine ACode.s_cond ?_; conv => whnf) | (refine ACode.s_exit ?_; conv => whnf) | (refine ACode.s_ret ?_; conv => whnf) | (refine ACode.s_skip ?_; conv => whnf) | (refine ACode.s_label ?_; conv => whnf))
 rw [weekP_peek] at hp
 refine ACall.of_m (peek_m ts len i hl hi) hp (fun _ => rfl) rfl (fun j e k h hk => ?_) (fun t i hq hp hi => ?_)
 ·conv => whnf
  exact ⟨_, _, _, h, hk, rfl, rfl⟩
 conv => whnf
 repeat (first | refine ACode.seq ?_ | (refine ACode.s_reg tys_ok ?_; conv => whnf) | refine ACode.s_block ?_ | refine ACode.s_scope ?_ | (refine ACode.s_cond ?_; conv => whnf) | (refine ACode.s_exit ?_; conv => whnf) | (refine ACode.s_ret ?_; conv => whnf) | (refine ACode.s_skip ?_; conv => whnf) | (refine ACode.s_label ?_; conv => whnf))
 obtain ⟨h, rfl, rfl⟩ := peek_ok hq
 refine ⟨fun hk => ?_, fun hk => ?_⟩
 ·have hk : ts[i].kind = 2 := by simpa using hk
  repeat (first | refine ACode.seq ?_ | (refine ACode.s_reg tys_ok ?_; conv => whnf) | refine ACode.s_block ?_ | refine ACode.s_scope ?_ | (refine ACode.s_cond ?_; conv => whnf) | (refine ACode.s_exit ?_; conv => whnf) | (refine ACode.s_ret ?_; conv => whnf) | (refine ACode.s_skip ?_; conv => whnf) | (refine ACode.s_label ?_; conv => whnf))
  refine ⟨fun h7 => ?_, fun h7 => ?_⟩
  ·have h7 : ¬ ts[i].text.length = 7 := by simp at h7; omega
   repeat (first | refine ACode.seq ?_ | (refine ACode.s_reg tys_ok ?_; conv => whnf) | refine ACode.s_block ?_ | refine ACode.s_scope ?_ | (refine ACode.s_cond ?_; conv => whnf) | (refine ACode.s_exit ?_; conv => whnf) | (refine ACode.s_ret ?_; conv => whnf) | (refine ACode.s_skip ?_; conv => whnf) | (refine ACode.s_label ?_; conv => whnf))
   refine ACall.of_wrong (p := p) ts len i hl (by omega) (by rw [if_pos h, hp]; simp [isWeekB, h7]) rfl (fun j e k h hk => ?_)
   ·conv => whnf
    exact ⟨_, _, _, h, hk, rfl, rfl⟩
  ·have h7 : ts[i].text.length = 7 := by simp at h7; omega
   repeat (first | refine ACode.seq ?_ | (refine ACode.s_reg tys_ok ?_; conv => whnf) | refine ACode.s_block ?_ | refine ACode.s_scope ?_ | (refine ACode.s_cond ?_; conv => whnf) | (refine ACode.s_exit ?_; conv => whnf) | (refine ACode.s_ret ?_; conv => whnf) | (refine ACode.s_skip ?_; conv => whnf) | (refine ACode.s_label ?_; conv => whnf))
   refine ⟨by decide, ?_⟩
   conv => whnf
   repeat (first | refine ACode.seq ?_ | (refine ACode.s_reg tys_ok ?_; conv => whnf) | refine ACode.s_block ?_ | refine ACode.s_scope ?_ | (refine ACode.s_cond ?_; conv => whnf) | (refine ACode.s_exit ?_; conv => whnf) | (refine ACode.s_ret ?_; conv => whnf) | (refine ACode.s_skip ?_; conv => whnf) | (refine ACode.s_label ?_; conv => whnf))
   have hw : isWeekB ts[i].text = ts[i].text.all (fun b => decide (b.toNat = 48) || decide (b.toNat = 49)) := by simp [isWeekB, h7]
   rw [hk] at hp
   simp only [decide_true, Bool.true_and, hw] at hp
   generalize hx : ts[i].text = x at *
   refine ACode.loopD (fun k : Nat => mk 51 [(0, .ptr 4 0), (4, .own 6 1 0 k), (23, .sl 1 (byts x)), (24, .int .i64 (byts x).length), (25, .int .i64 k)])
    (fun k => PQr ts len i v ++ [.cells [.int .i64 ts[i].kind, .str x, .int .i64 ts[i].pos], .arr 4 1 ((x.take k).map fun b => .bool (decide (b.toNat = 49)))])
    (fun k => k ≤ 7 ∧ (x.all (fun b => decide (b.toNat = 48) || decide (b.toNat = 49))) = (x.drop k).all (fun b => decide (b.toNat = 48) || decide (b.toNat = 49))) (fun k => 7 - k) (fun k hk => ⟨rfl, ?_⟩) ⟨0, ?_⟩ (fun _ => rfl) fun k hk => ?_
   ·(conv => whnf)
    refine ⟨rfl, ?_⟩
    (conv => whnf)
    refine ⟨rfl, ?_⟩
    (conv => whnf)
    refine ⟨closed_map _ (fun _ => rfl) _, ?_⟩
    trivial
   ·conv => whnf
    repeat (refine And.intro ?_ ?_; (focus (first | rfl | (simp; done))); conv => whnf)
    rfl
   ·obtain ⟨hk7, he⟩ := hk
    repeat (first | refine ACode.seq ?_ | (refine ACode.s_reg tys_ok ?_; conv => whnf) | refine ACode.s_block ?_ | refine ACode.s_scope ?_ | (refine ACode.s_cond ?_; conv => whnf) | (refine ACode.s_exit ?_; conv => whnf) | (refine ACode.s_ret ?_; conv => whnf) | (refine ACode.s_skip ?_; conv => whnf) | (refine ACode.s_label ?_; conv => whnf))
    refine ⟨fun hlt => ?_, fun hge => ?_⟩
    ·have hlt : k < x.length := by simpa using hlt
     rw [all_step _ x k hlt] at he
     repeat (first | refine ACode.seq ?_ | (refine ACode.s_reg tys_ok ?_; conv => whnf) | refine ACode.s_block ?_ | refine ACode.s_scope ?_ | (refine ACode.s_cond ?_; conv => whnf) | (refine ACode.s_exit ?_; conv => whnf) | (refine ACode.s_ret ?_; conv => whnf) | (refine ACode.s_skip ?_; conv => whnf) | (refine ACode.s_label ?_; conv => whnf))
     refine ⟨by omega, .int .u8 x[k].toNat, byts_get _ _ hlt, ?_⟩
     conv => whnf
     repeat (first | refine ACode.seq ?_ | (refine ACode.s_reg tys_ok ?_; conv => whnf) | refine ACode.s_block ?_ | refine ACode.s_scope ?_ | (refine ACode.s_cond ?_; conv => whnf) | (refine ACode.s_exit ?_; conv => whnf) | (refine ACode.s_ret ?_; conv => whnf) | (refine ACode.s_skip ?_; conv => whnf) | (refine ACode.s_label ?_; conv => whnf))
     repeat' (first | (refine And.intro (fun _ => ?_) (fun _ => ?_) <;> conv => whnf) | refine ACode.seq ?_ | (refine ACode.s_reg tys_ok ?_; conv => whnf) | refine ACode.s_block ?_ | refine ACode.s_scope ?_ | (refine ACode.s_cond ?_; conv => whnf) | (refine ACode.s_exit ?_; conv => whnf) | (refine ACode.s_ret ?_; conv => whnf) | (refine ACode.s_skip ?_; conv => whnf) | (refine ACode.s_label ?_; conv => whnf))
     all_goals first
      | (rename_i q1 q2
         have q1 : ¬ x[k].toNat = 48 := fun q => by simp [q] at q1
         have q2 : ¬ x[k].toNat = 49 := fun q => by simp [q] at q2
         rw [he, decide_eq_false q1, decide_eq_false q2] at hp
         refine ACall.of_wrong (p := p) ts len i hl (by omega) (by rw [if_pos h]; exact hp) rfl (fun j e k h hk => ?_)
         · conv => whnf
           exact ⟨_, _, _, h, hk, rfl, rfl⟩
         done)
      | (have e1 : (List.map (fun b => AV.bool (decide (b.toNat = 49))) (List.take k x) ++ [AV.bool (decide ((x[k].toNat : Int) = 49))]) = List.map (fun b => AV.bool (decide (b.toNat = 49))) (List.take (k + 1) x) := by
           rw [List.take_succ_eq_append_getElem hlt, List.map_append]
           congr 3
           rw [decide_eq_decide]; omega
         have e2 : decide (x[k].toNat = 48) = true ∨ decide (x[k].toNat = 49) = true := by
           rename_i q
           by_cases q1 : x[k].toNat = 48
           · exact .inl (decide_eq_true q1)
           · refine .inr (decide_eq_true ?_)
             simp at q
             omega
         have e3 : (decide (x[k].toNat = 48) || decide (x[k].toNat = 49)) = true := by rcases e2 with e | e <;> simp [e]
         rw [e3, Bool.true_and] at he
         refine ⟨rfl, ?_⟩
         conv => whnf
         refine ⟨⟨by simp; omega, by simp; omega⟩, ?_⟩
         conv => whnf
         repeat (first | refine ACode.seq ?_ | (refine ACode.s_reg tys_ok ?_; conv => whnf) | refine ACode.s_block ?_ | refine ACode.s_scope ?_ | (refine ACode.s_cond ?_; conv => whnf) | (refine ACode.s_exit ?_; conv => whnf) | (refine ACode.s_ret ?_; conv => whnf) | (refine ACode.s_skip ?_; conv => whnf) | (refine ACode.s_label ?_; conv => whnf))
         rw [e1]
         refine ⟨k + 1, ?_⟩
         conv => whnf
         repeat (refine And.intro ?_ ?_; (focus (first | rfl | (simp; done) | ((first | (rw [Wr64 _ (by omega) (by omega)]; omega) | (simp; omega)); done))); conv => whnf)
         exact ⟨⟨by omega, he⟩, by omega⟩)
    ·have hge : x.length ≤ k := by simp at hge; omega
     have : k = x.length := by omega
     subst this
     repeat (first | refine ACode.seq ?_ | (refine ACode.s_reg tys_ok ?_; conv => whnf) | refine ACode.s_block ?_ | refine ACode.s_scope ?_ | (refine ACode.s_cond ?_; conv => whnf) | (refine ACode.s_exit ?_; conv => whnf) | (refine ACode.s_ret ?_; conv => whnf) | (refine ACode.s_skip ?_; conv => whnf) | (refine ACode.s_label ?_; conv => whnf))
     refine ⟨⟨by simp, closed_map _ (fun _ => rfl) _⟩, ?_⟩
     conv => whnf
     rw [he, List.drop_length] at hp
     refine ⟨_, _, hp, h, ?_, ?_⟩
     ·rw [List.take_length]; show _ = AV.sl 1 (List.map AV.bool (List.map _ x)); rw [List.map_map]; rfl
     ·rw [Wr64 _ (by omega) (by omega)]; rfl
 ·repeat (first | refine ACode.seq ?_ | (refine ACode.s_reg tys_ok ?_; conv => whnf) | refine ACode.s_block ?_ | refine ACode.s_scope ?_ | (refine ACode.s_cond ?_; conv => whnf) | (refine ACode.s_exit ?_; conv => whnf) | (refine ACode.s_ret ?_; conv => whnf) | (refine ACode.s_skip ?_; conv => whnf) | (refine ACode.s_label ?_; conv => whnf))
  refine ACall.of_wrong (p := p) ts len i hl (by omega) (by rw [if_pos h]; simp_all) rfl (fun j e k h hk => ?_)
  ·conv => whnf
   exact ⟨_, _, _, h, hk, rfl, rfl⟩
end Go.Proofs.YtmhlneeboefkgaaGreatDoor
