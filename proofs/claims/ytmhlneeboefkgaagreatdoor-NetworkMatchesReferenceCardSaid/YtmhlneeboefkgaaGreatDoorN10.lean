import Derived.Test.YtmhlneeboefkgaaGreatDoorN9
set_option linter.unusedVariables false
set_option linter.unusedSimpArgs false
namespace Go.Proofs.YtmhlneeboefkgaaGreatDoor
open Go.Av Go.Av.Net
theorem kts_lt (ts : List Tok) (i : Nat) (h : i < ts.length) : (kts ts)[i]? = some (ts[i].kind, ts[i].text) := by
 unfold kts; rw [List.getElem?_map, List.getElem?_eq_getElem h]; rfl
theorem kts_ge (ts : List Tok) (i : Nat) (h : ts.length ≤ i) : (kts ts)[i]? = none := by
 unfold kts; rw [List.getElem?_map, List.getElem?_eq_none h]; rfl
set_option maxRecDepth 20000 in
theorem name_spec (ts : List Tok) (len i : Nat) (v : V6) (hl : ts.length ≤ 3000) (hi : i ≤ ts.length) (ht : ∀ t ∈ ts, t.text.length ≤ 8000) :
  HCtr Tryz.prog 38 [.ptr 4 0] (PQr ts len i v) (fun r H => ∃ x, nameP (kts ts) i = .ok x (i + 1) ∧ r = .str x ∧ H = PQr ts len (i + 1) v) (fun y H => ∃ e, nameP (kts ts) i = .fail e i ∧ y = failA ts len e i ∧ H = PQr ts len i v) := by
 refine HCtr.of_body Tryz.func38 rfl tys_ok (by kernel_rfl) rfl ?_
 conv => whnf
 repeat (first | refine ACode.seq ?_ | (refine ACode.s_reg tys_ok ?_; conv => whnf) | refine ACode.s_block ?_ | refine ACode.s_scope ?_ | (refine ACode.s_cond ?_; conv => whnf) | (refine ACode.s_exit ?_; conv => whnf) | (refine ACode.s_ret ?_; conv => whnf) | (refine ACode.s_skip ?_; conv => whnf) | (refine ACode.s_label ?_; conv => whnf))
 refine ACall.of_h (peek_spec ts len i v hl hi) rfl (hand_PQ ts len i v []) ?_ ?_
 ·rintro r H1 ⟨h, rfl, rfl⟩
  have hn : nameP (kts ts) i = bif decide (ts[i].kind = 1) && isNameB ts[i].text then .ok ts[i].text (i + 1) else .fail 90 i := by unfold nameP; rw [kts_lt ts i h]
  rw [hn]
  conv => whnf
  repeat (first | refine ACode.seq ?_ | (refine ACode.s_reg tys_ok ?_; conv => whnf) | refine ACode.s_block ?_ | refine ACode.s_scope ?_ | (refine ACode.s_cond ?_; conv => whnf) | (refine ACode.s_exit ?_; conv => whnf) | (refine ACode.s_ret ?_; conv => whnf) | (refine ACode.s_skip ?_; conv => whnf) | (refine ACode.s_label ?_; conv => whnf))
  refine ⟨fun hk => ?_, fun hk => ?_⟩
  ·have hk : ts[i].kind = 1 := by simpa using hk
   conv => whnf
   repeat (first | refine ACode.seq ?_ | (refine ACode.s_reg tys_ok ?_; conv => whnf) | refine ACode.s_block ?_ | refine ACode.s_scope ?_ | (refine ACode.s_cond ?_; conv => whnf) | (refine ACode.s_exit ?_; conv => whnf) | (refine ACode.s_ret ?_; conv => whnf) | (refine ACode.s_skip ?_; conv => whnf) | (refine ACode.s_label ?_; conv => whnf))
   refine ACall.of_spec (isName_spec ts[i].text (ht _ (List.getElem_mem h))) rfl fun r hr => ?_
   subst hr
   conv => whnf
   repeat (first | refine ACode.seq ?_ | (refine ACode.s_reg tys_ok ?_; conv => whnf) | refine ACode.s_block ?_ | refine ACode.s_scope ?_ | (refine ACode.s_cond ?_; conv => whnf) | (refine ACode.s_exit ?_; conv => whnf) | (refine ACode.s_ret ?_; conv => whnf) | (refine ACode.s_skip ?_; conv => whnf) | (refine ACode.s_label ?_; conv => whnf))
   refine ⟨fun hb => ?_, fun hb => ?_⟩
   ·have hb : isNameB ts[i].text = false := by simpa using hb
    conv => whnf
    repeat (first | refine ACode.seq ?_ | (refine ACode.s_reg tys_ok ?_; conv => whnf) | refine ACode.s_block ?_ | refine ACode.s_scope ?_ | (refine ACode.s_cond ?_; conv => whnf) | (refine ACode.s_exit ?_; conv => whnf) | (refine ACode.s_ret ?_; conv => whnf) | (refine ACode.s_skip ?_; conv => whnf) | (refine ACode.s_label ?_; conv => whnf))
    refine ACall.of_h (wrong_spec ts len i v hl hi) rfl (hand_PQ ts len i v [_]) (fun r H1 h => h.elim) ?_
    rintro r H1 ⟨rfl, rfl⟩
    conv => whnf
    repeat (first | refine ACode.seq ?_ | (refine ACode.s_reg tys_ok ?_; conv => whnf) | refine ACode.s_block ?_ | refine ACode.s_scope ?_ | (refine ACode.s_cond ?_; conv => whnf) | (refine ACode.s_exit ?_; conv => whnf) | (refine ACode.s_ret ?_; conv => whnf) | (refine ACode.s_skip ?_; conv => whnf) | (refine ACode.s_label ?_; conv => whnf))
    rw [if_pos h]
    exact ⟨90, by simp [hb], rfl, rfl⟩
   ·have hb : isNameB ts[i].text = true := by simpa using hb
    conv => whnf
    repeat (first | refine ACode.seq ?_ | (refine ACode.s_reg tys_ok ?_; conv => whnf) | refine ACode.s_block ?_ | refine ACode.s_scope ?_ | (refine ACode.s_cond ?_; conv => whnf) | (refine ACode.s_exit ?_; conv => whnf) | (refine ACode.s_ret ?_; conv => whnf) | (refine ACode.s_skip ?_; conv => whnf) | (refine ACode.s_label ?_; conv => whnf))
    refine ⟨ts[i].text, by simp [hk, hb], rfl, ?_⟩
    rw [Wr64 _ (by omega) (by omega)]
    rfl
  ·have hk : ¬ ts[i].kind = 1 := by simpa using hk
   conv => whnf
   repeat (first | refine ACode.seq ?_ | (refine ACode.s_reg tys_ok ?_; conv => whnf) | refine ACode.s_block ?_ | refine ACode.s_scope ?_ | (refine ACode.s_cond ?_; conv => whnf) | (refine ACode.s_exit ?_; conv => whnf) | (refine ACode.s_ret ?_; conv => whnf) | (refine ACode.s_skip ?_; conv => whnf) | (refine ACode.s_label ?_; conv => whnf))
   refine ACall.of_h (wrong_spec ts len i v hl hi) rfl (hand_PQ ts len i v [_]) (fun r H1 h => h.elim) ?_
   rintro r H1 ⟨rfl, rfl⟩
   conv => whnf
   repeat (first | refine ACode.seq ?_ | (refine ACode.s_reg tys_ok ?_; conv => whnf) | refine ACode.s_block ?_ | refine ACode.s_scope ?_ | (refine ACode.s_cond ?_; conv => whnf) | (refine ACode.s_exit ?_; conv => whnf) | (refine ACode.s_ret ?_; conv => whnf) | (refine ACode.s_skip ?_; conv => whnf) | (refine ACode.s_label ?_; conv => whnf))
   rw [if_pos h]
   exact ⟨90, by simp [hk], rfl, rfl⟩
 ·rintro r H1 ⟨h, rfl, rfl⟩
  conv => whnf
  repeat (first | refine ACode.seq ?_ | (refine ACode.s_reg tys_ok ?_; conv => whnf) | refine ACode.s_block ?_ | refine ACode.s_scope ?_ | (refine ACode.s_cond ?_; conv => whnf) | (refine ACode.s_exit ?_; conv => whnf) | (refine ACode.s_ret ?_; conv => whnf) | (refine ACode.s_skip ?_; conv => whnf) | (refine ACode.s_label ?_; conv => whnf))
  exact ⟨91, by unfold nameP; rw [kts_ge ts i h], rfl, rfl⟩
set_option maxRecDepth 20000 in
theorem code_spec (ts : List Tok) (len i : Nat) (v : V6) (hl : ts.length ≤ 3000) (hi : i ≤ ts.length) (ht : ∀ t ∈ ts, t.text.length ≤ 8000) :
  HCtr Tryz.prog 47 [.ptr 4 0] (PQr ts len i v) (fun r H => ∃ x, codeP (kts ts) i = .ok x (i + 1) ∧ r = .str x ∧ H = PQr ts len (i + 1) v) (fun y H => ∃ e, codeP (kts ts) i = .fail e i ∧ y = failA ts len e i ∧ H = PQr ts len i v) := by
 refine HCtr.of_body Tryz.func47 rfl tys_ok (by kernel_rfl) rfl ?_
 conv => whnf
 repeat (first | refine ACode.seq ?_ | (refine ACode.s_reg tys_ok ?_; conv => whnf) | refine ACode.s_block ?_ | refine ACode.s_scope ?_ | (refine ACode.s_cond ?_; conv => whnf) | (refine ACode.s_exit ?_; conv => whnf) | (refine ACode.s_ret ?_; conv => whnf) | (refine ACode.s_skip ?_; conv => whnf) | (refine ACode.s_label ?_; conv => whnf))
 refine ACall.of_h (peek_spec ts len i v hl hi) rfl (hand_PQ ts len i v []) ?_ ?_
 ·rintro r H1 ⟨h, rfl, rfl⟩
  have hn : codeP (kts ts) i = bif (decide (ts[i].kind = 1) || decide (ts[i].kind = 2)) && isCodeB ts[i].text then .ok ts[i].text (i + 1) else .fail 90 i := by unfold codeP; rw [kts_lt ts i h]
  rw [hn]
  conv => whnf
  repeat (first | refine ACode.seq ?_ | (refine ACode.s_reg tys_ok ?_; conv => whnf) | refine ACode.s_block ?_ | refine ACode.s_scope ?_ | (refine ACode.s_cond ?_; conv => whnf) | (refine ACode.s_exit ?_; conv => whnf) | (refine ACode.s_ret ?_; conv => whnf) | (refine ACode.s_skip ?_; conv => whnf) | (refine ACode.s_label ?_; conv => whnf))
  repeat' (first | (refine And.intro (fun _ => ?_) (fun _ => ?_) <;> conv => whnf) | (refine ACall.of_spec (isCode_spec ts[i].text (ht _ (List.getElem_mem h))) rfl fun r hr => ?_; subst hr; conv => whnf) | refine ACode.seq ?_ | (refine ACode.s_reg tys_ok ?_; conv => whnf) | refine ACode.s_block ?_ | refine ACode.s_scope ?_ | (refine ACode.s_cond ?_; conv => whnf) | (refine ACode.s_exit ?_; conv => whnf) | (refine ACode.s_ret ?_; conv => whnf) | (refine ACode.s_skip ?_; conv => whnf) | (refine ACode.s_label ?_; conv => whnf))
  all_goals first
   | (refine ACall.of_h (wrong_spec ts len i v hl hi) rfl (hand_PQ ts len i v [_]) (fun r H1 h => h.elim) ?_
      rintro r H1 ⟨rfl, rfl⟩
      conv => whnf
      repeat (first | refine ACode.seq ?_ | (refine ACode.s_reg tys_ok ?_; conv => whnf) | refine ACode.s_block ?_ | refine ACode.s_scope ?_ | (refine ACode.s_cond ?_; conv => whnf) | (refine ACode.s_exit ?_; conv => whnf) | (refine ACode.s_ret ?_; conv => whnf) | (refine ACode.s_skip ?_; conv => whnf) | (refine ACode.s_label ?_; conv => whnf))
      rw [if_pos h]
      exact ⟨90, by simp_all, rfl, rfl⟩)
   | (refine ⟨ts[i].text, by simp_all, rfl, ?_⟩
      rw [Wr64 _ (by omega) (by omega)]
      rfl)
 ·rintro r H1 ⟨h, rfl, rfl⟩
  conv => whnf
  repeat (first | refine ACode.seq ?_ | (refine ACode.s_reg tys_ok ?_; conv => whnf) | refine ACode.s_block ?_ | refine ACode.s_scope ?_ | (refine ACode.s_cond ?_; conv => whnf) | (refine ACode.s_exit ?_; conv => whnf) | (refine ACode.s_ret ?_; conv => whnf) | (refine ACode.s_skip ?_; conv => whnf) | (refine ACode.s_label ?_; conv => whnf))
  exact ⟨91, by unfold codeP; rw [kts_ge ts i h], rfl, rfl⟩
end Go.Proofs.YtmhlneeboefkgaaGreatDoor
