import Derived.Test.YtmhlneeboefkgaaGreatDoorN7
set_option linter.unusedVariables false
set_option linter.unusedSimpArgs false
namespace Go.Proofs.YtmhlneeboefkgaaGreatDoor
open Go.Av Go.Av.Net
theorem sees_lt (ts : List Tok) (k : Int) (x : Bs) (i : Nat) (h : i < ts.length) : seesP (kts ts) k x i = (decide (ts[i].kind = k) && decide (ts[i].text = x)) := by
 unfold seesP kts
 rw [List.getElem?_map, List.getElem?_eq_getElem h]
 rfl
theorem sees_ge (ts : List Tok) (k : Int) (x : Bs) (i : Nat) (h : ts.length ≤ i) : seesP (kts ts) k x i = false := by
 unfold seesP kts
 rw [List.getElem?_map, List.getElem?_eq_none h]
 rfl
theorem _root_.Go.Av.HCtr.lits {P : Go.Program} {f : Go.FuncId} {args : List AV} {H0 : List HO} {R' : Bool → List HO → Prop} {X : AV → List HO → Prop} (h : HCtr P f args H0 (fun r H => ∃ b, (r = .lit b ∨ r = .bool b) ∧ R' b H) X) :
  HCtr P f args H0 (fun r H => ∃ b, r = .bool b ∧ R' b H) X :=
 ⟨h.good, fun C mu w vs h1 h2 h3 => (h.out C mu w vs h1 h2 h3).mono fun e w' hp => by
  obtain ⟨r, v, H1, C', mu', ho, hp, hh, hr, rest⟩ := hp
  rcases ho with ⟨he, b, hb, hR⟩ | ⟨he, hX⟩
  ·refine ⟨.bool b, v, H1, C', mu', .inl ⟨he, b, rfl, hR⟩, hp, hh, ?_, rest⟩
   rcases hb with rfl | rfl <;> (unfold Rep at *; exact hr)
  ·exact ⟨r, v, H1, C', mu', .inr ⟨he, hX⟩, hp, hh, hr, rest⟩⟩
set_option maxRecDepth 20000 in
theorem has_spec (ts : List Tok) (len i : Nat) (v : V6) (x : Bs) (hl : ts.length ≤ 3000) (hi : i ≤ ts.length) :
  HCtr Tryz.prog 36 [.ptr 4 0, .str x] (PQr ts len i v) (fun r H => ∃ b, r = .bool b ∧ (b = seesP (kts ts) 1 x i ∧ H = PQr ts len i v)) (fun _ _ => False) := by
 refine HCtr.lits ?_
 refine HCtr.of_body Tryz.func36 rfl tys_ok (by kernel_rfl) rfl ?_
 conv => whnf
 repeat (first | refine ACode.seq ?_ | (refine ACode.s_reg tys_ok ?_; conv => whnf) | refine ACode.s_block ?_ | refine ACode.s_scope ?_ | (refine ACode.s_cond ?_; conv => whnf) | (refine ACode.s_exit ?_; conv => whnf) | (refine ACode.s_ret ?_; conv => whnf) | (refine ACode.s_skip ?_; conv => whnf) | (refine ACode.s_label ?_; conv => whnf))
 refine ACode.draw [] tys_ok (by kernel_rfl) (by kernel_rfl) ?_
 conv => whnf
 refine ⟨fun h => ?_, fun h => ?_⟩
 ·have h : i < ts.length := by simp at h; omega
  rw [sees_lt ts 1 x i h]
  conv => whnf
  repeat (first | refine ACode.seq ?_ | (refine ACode.s_reg tys_ok ?_; conv => whnf) | refine ACode.s_block ?_ | refine ACode.s_scope ?_ | (refine ACode.s_cond ?_; conv => whnf) | (refine ACode.s_exit ?_; conv => whnf) | (refine ACode.s_ret ?_; conv => whnf) | (refine ACode.s_skip ?_; conv => whnf) | (refine ACode.s_label ?_; conv => whnf))
  refine ⟨by omega, tokA ts[i], toksA_get _ _ h, ?_⟩
  conv => whnf
  refine ⟨fun hk => ?_, fun hk => ?_⟩
  ·rw [hk]
   conv => whnf
   repeat (first | refine ACode.seq ?_ | (refine ACode.s_reg tys_ok ?_; conv => whnf) | refine ACode.s_block ?_ | refine ACode.s_scope ?_ | (refine ACode.s_cond ?_; conv => whnf) | (refine ACode.s_exit ?_; conv => whnf) | (refine ACode.s_ret ?_; conv => whnf) | (refine ACode.s_skip ?_; conv => whnf) | (refine ACode.s_label ?_; conv => whnf))
   refine ⟨by omega, tokA ts[i], toksA_get _ _ h, ?_⟩
   conv => whnf
   refine ⟨fun ht => ?_, fun ht => ?_⟩
   ·conv => whnf
    repeat (first | refine ACode.seq ?_ | (refine ACode.s_reg tys_ok ?_; conv => whnf) | refine ACode.s_block ?_ | refine ACode.s_scope ?_ | (refine ACode.s_cond ?_; conv => whnf) | (refine ACode.s_exit ?_; conv => whnf) | (refine ACode.s_ret ?_; conv => whnf) | (refine ACode.s_skip ?_; conv => whnf) | (refine ACode.s_label ?_; conv => whnf))
    exact ⟨_, .inl rfl, by simpa using ht, rfl⟩
   ·conv => whnf
    repeat (first | refine ACode.seq ?_ | (refine ACode.s_reg tys_ok ?_; conv => whnf) | refine ACode.s_block ?_ | refine ACode.s_scope ?_ | (refine ACode.s_cond ?_; conv => whnf) | (refine ACode.s_exit ?_; conv => whnf) | (refine ACode.s_ret ?_; conv => whnf) | (refine ACode.s_skip ?_; conv => whnf) | (refine ACode.s_label ?_; conv => whnf))
    exact ⟨_, .inl rfl, by simpa using ht, rfl⟩
  ·rw [hk]
   conv => whnf
   repeat (first | refine ACode.seq ?_ | (refine ACode.s_reg tys_ok ?_; conv => whnf) | refine ACode.s_block ?_ | refine ACode.s_scope ?_ | (refine ACode.s_cond ?_; conv => whnf) | (refine ACode.s_exit ?_; conv => whnf) | (refine ACode.s_ret ?_; conv => whnf) | (refine ACode.s_skip ?_; conv => whnf) | (refine ACode.s_label ?_; conv => whnf))
   exact ⟨_, .inl rfl, rfl, rfl⟩
 ·have h : ts.length ≤ i := by simp at h; omega
  rw [sees_ge ts 1 x i h]
  conv => whnf
  repeat (first | refine ACode.seq ?_ | (refine ACode.s_reg tys_ok ?_; conv => whnf) | refine ACode.s_block ?_ | refine ACode.s_scope ?_ | (refine ACode.s_cond ?_; conv => whnf) | (refine ACode.s_exit ?_; conv => whnf) | (refine ACode.s_ret ?_; conv => whnf) | (refine ACode.s_skip ?_; conv => whnf) | (refine ACode.s_label ?_; conv => whnf))
  exact ⟨_, .inl rfl, rfl, rfl⟩
set_option maxRecDepth 20000 in
theorem hasSymbol_spec (ts : List Tok) (len i : Nat) (v : V6) (x : Bs) (hl : ts.length ≤ 3000) (hi : i ≤ ts.length) :
  HCtr Tryz.prog 48 [.ptr 4 0, .str x] (PQr ts len i v) (fun r H => ∃ b, r = .bool b ∧ (b = seesP (kts ts) 3 x i ∧ H = PQr ts len i v)) (fun _ _ => False) := by
 refine HCtr.lits ?_
 refine HCtr.of_body Tryz.func48 rfl tys_ok (by kernel_rfl) rfl ?_
 conv => whnf
 repeat (first | refine ACode.seq ?_ | (refine ACode.s_reg tys_ok ?_; conv => whnf) | refine ACode.s_block ?_ | refine ACode.s_scope ?_ | (refine ACode.s_cond ?_; conv => whnf) | (refine ACode.s_exit ?_; conv => whnf) | (refine ACode.s_ret ?_; conv => whnf) | (refine ACode.s_skip ?_; conv => whnf) | (refine ACode.s_label ?_; conv => whnf))
 refine ACode.draw [] tys_ok (by kernel_rfl) (by kernel_rfl) ?_
 conv => whnf
 refine ⟨fun h => ?_, fun h => ?_⟩
 ·have h : i < ts.length := by simp at h; omega
  rw [sees_lt ts 3 x i h]
  conv => whnf
  repeat (first | refine ACode.seq ?_ | (refine ACode.s_reg tys_ok ?_; conv => whnf) | refine ACode.s_block ?_ | refine ACode.s_scope ?_ | (refine ACode.s_cond ?_; conv => whnf) | (refine ACode.s_exit ?_; conv => whnf) | (refine ACode.s_ret ?_; conv => whnf) | (refine ACode.s_skip ?_; conv => whnf) | (refine ACode.s_label ?_; conv => whnf))
  refine ⟨by omega, tokA ts[i], toksA_get _ _ h, ?_⟩
  conv => whnf
  refine ⟨fun hk => ?_, fun hk => ?_⟩
  ·rw [hk]
   conv => whnf
   repeat (first | refine ACode.seq ?_ | (refine ACode.s_reg tys_ok ?_; conv => whnf) | refine ACode.s_block ?_ | refine ACode.s_scope ?_ | (refine ACode.s_cond ?_; conv => whnf) | (refine ACode.s_exit ?_; conv => whnf) | (refine ACode.s_ret ?_; conv => whnf) | (refine ACode.s_skip ?_; conv => whnf) | (refine ACode.s_label ?_; conv => whnf))
   refine ⟨by omega, tokA ts[i], toksA_get _ _ h, ?_⟩
   conv => whnf
   refine ⟨fun ht => ?_, fun ht => ?_⟩
   ·conv => whnf
    repeat (first | refine ACode.seq ?_ | (refine ACode.s_reg tys_ok ?_; conv => whnf) | refine ACode.s_block ?_ | refine ACode.s_scope ?_ | (refine ACode.s_cond ?_; conv => whnf) | (refine ACode.s_exit ?_; conv => whnf) | (refine ACode.s_ret ?_; conv => whnf) | (refine ACode.s_skip ?_; conv => whnf) | (refine ACode.s_label ?_; conv => whnf))
    exact ⟨_, .inl rfl, by simpa using ht, rfl⟩
   ·conv => whnf
    repeat (first | refine ACode.seq ?_ | (refine ACode.s_reg tys_ok ?_; conv => whnf) | refine ACode.s_block ?_ | refine ACode.s_scope ?_ | (refine ACode.s_cond ?_; conv => whnf) | (refine ACode.s_exit ?_; conv => whnf) | (refine ACode.s_ret ?_; conv => whnf) | (refine ACode.s_skip ?_; conv => whnf) | (refine ACode.s_label ?_; conv => whnf))
    exact ⟨_, .inl rfl, by simpa using ht, rfl⟩
  ·rw [hk]
   conv => whnf
   repeat (first | refine ACode.seq ?_ | (refine ACode.s_reg tys_ok ?_; conv => whnf) | refine ACode.s_block ?_ | refine ACode.s_scope ?_ | (refine ACode.s_cond ?_; conv => whnf) | (refine ACode.s_exit ?_; conv => whnf) | (refine ACode.s_ret ?_; conv => whnf) | (refine ACode.s_skip ?_; conv => whnf) | (refine ACode.s_label ?_; conv => whnf))
   exact ⟨_, .inl rfl, rfl, rfl⟩
 ·have h : ts.length ≤ i := by simp at h; omega
  rw [sees_ge ts 3 x i h]
  conv => whnf
  repeat (first | refine ACode.seq ?_ | (refine ACode.s_reg tys_ok ?_; conv => whnf) | refine ACode.s_block ?_ | refine ACode.s_scope ?_ | (refine ACode.s_cond ?_; conv => whnf) | (refine ACode.s_exit ?_; conv => whnf) | (refine ACode.s_ret ?_; conv => whnf) | (refine ACode.s_skip ?_; conv => whnf) | (refine ACode.s_label ?_; conv => whnf))
  exact ⟨_, .inl rfl, rfl, rfl⟩
set_option maxRecDepth 20000 in
theorem expect_spec (ts : List Tok) (len i : Nat) (v : V6) (k : Int) (x : Bs) (hl : ts.length ≤ 3000) (hi : i ≤ ts.length) :
  HCtr Tryz.prog 67 [.ptr 4 0, .agg [.int .i64 k, .str x, .int .i64 0]] (PQr ts len i v) (fun r H => r = .tuple [] ∧ seesP (kts ts) k x i = true ∧ H = PQr ts len (i + 1) v) (fun y H => seesP (kts ts) k x i = false ∧ y = failA ts len (if i < ts.length then 90 else 91) i ∧ H = PQr ts len i v) := by
 refine HCtr.of_body Tryz.func67 rfl tys_ok (by kernel_rfl) rfl ?_
 conv => whnf
 repeat (first | refine ACode.seq ?_ | (refine ACode.s_reg tys_ok ?_; conv => whnf) | refine ACode.s_block ?_ | refine ACode.s_scope ?_ | (refine ACode.s_cond ?_; conv => whnf) | (refine ACode.s_exit ?_; conv => whnf) | (refine ACode.s_ret ?_; conv => whnf) | (refine ACode.s_skip ?_; conv => whnf) | (refine ACode.s_label ?_; conv => whnf))
 refine ACall.of_h (peek_spec ts len i v hl hi) rfl (hand_PQ ts len i v [_]) ?_ ?_
 ·rintro r H1 ⟨h, rfl, rfl⟩
  conv => whnf
  repeat (first | refine ACode.seq ?_ | (refine ACode.s_reg tys_ok ?_; conv => whnf) | refine ACode.s_block ?_ | refine ACode.s_scope ?_ | (refine ACode.s_cond ?_; conv => whnf) | (refine ACode.s_exit ?_; conv => whnf) | (refine ACode.s_ret ?_; conv => whnf) | (refine ACode.s_skip ?_; conv => whnf) | (refine ACode.s_label ?_; conv => whnf))
  rw [sees_lt ts k x i h]
  refine ⟨fun hk => ?_, fun hk => ?_⟩
  ·have hk : ts[i].kind = k := by simpa using hk
   conv => whnf
   repeat (first | refine ACode.seq ?_ | (refine ACode.s_reg tys_ok ?_; conv => whnf) | refine ACode.s_block ?_ | refine ACode.s_scope ?_ | (refine ACode.s_cond ?_; conv => whnf) | (refine ACode.s_exit ?_; conv => whnf) | (refine ACode.s_ret ?_; conv => whnf) | (refine ACode.s_skip ?_; conv => whnf) | (refine ACode.s_label ?_; conv => whnf))
   refine ⟨fun ht => ?_, fun ht => ?_⟩
   ·have ht : ¬ ts[i].text = x := by simpa using ht
    conv => whnf
    repeat (first | refine ACode.seq ?_ | (refine ACode.s_reg tys_ok ?_; conv => whnf) | refine ACode.s_block ?_ | refine ACode.s_scope ?_ | (refine ACode.s_cond ?_; conv => whnf) | (refine ACode.s_exit ?_; conv => whnf) | (refine ACode.s_ret ?_; conv => whnf) | (refine ACode.s_skip ?_; conv => whnf) | (refine ACode.s_label ?_; conv => whnf))
    refine ACall.of_h (wrong_spec ts len i v hl hi) rfl (hand_PQ ts len i v [_, _]) (fun r H1 h => h.elim) ?_
    rintro r H1 ⟨rfl, rfl⟩
    conv => whnf
    repeat (first | refine ACode.seq ?_ | (refine ACode.s_reg tys_ok ?_; conv => whnf) | refine ACode.s_block ?_ | refine ACode.s_scope ?_ | (refine ACode.s_cond ?_; conv => whnf) | (refine ACode.s_exit ?_; conv => whnf) | (refine ACode.s_ret ?_; conv => whnf) | (refine ACode.s_skip ?_; conv => whnf) | (refine ACode.s_label ?_; conv => whnf))
    exact ⟨by simp [ht], rfl, rfl⟩
   ·have ht : ts[i].text = x := by simpa using ht
    conv => whnf
    repeat (first | refine ACode.seq ?_ | (refine ACode.s_reg tys_ok ?_; conv => whnf) | refine ACode.s_block ?_ | refine ACode.s_scope ?_ | (refine ACode.s_cond ?_; conv => whnf) | (refine ACode.s_exit ?_; conv => whnf) | (refine ACode.s_ret ?_; conv => whnf) | (refine ACode.s_skip ?_; conv => whnf) | (refine ACode.s_label ?_; conv => whnf))
    refine ⟨rfl, by simp [hk, ht], ?_⟩
    rw [Wr64 _ (by omega) (by omega)]
    rfl
  ·have hk : ¬ ts[i].kind = k := by simpa using hk
   conv => whnf
   repeat (first | refine ACode.seq ?_ | (refine ACode.s_reg tys_ok ?_; conv => whnf) | refine ACode.s_block ?_ | refine ACode.s_scope ?_ | (refine ACode.s_cond ?_; conv => whnf) | (refine ACode.s_exit ?_; conv => whnf) | (refine ACode.s_ret ?_; conv => whnf) | (refine ACode.s_skip ?_; conv => whnf) | (refine ACode.s_label ?_; conv => whnf))
   refine ACall.of_h (wrong_spec ts len i v hl hi) rfl (hand_PQ ts len i v [_, _]) (fun r H1 h => h.elim) ?_
   rintro r H1 ⟨rfl, rfl⟩
   conv => whnf
   repeat (first | refine ACode.seq ?_ | (refine ACode.s_reg tys_ok ?_; conv => whnf) | refine ACode.s_block ?_ | refine ACode.s_scope ?_ | (refine ACode.s_cond ?_; conv => whnf) | (refine ACode.s_exit ?_; conv => whnf) | (refine ACode.s_ret ?_; conv => whnf) | (refine ACode.s_skip ?_; conv => whnf) | (refine ACode.s_label ?_; conv => whnf))
   exact ⟨by simp [hk], rfl, rfl⟩
 ·rintro r H1 ⟨h, rfl, rfl⟩
  conv => whnf
  repeat (first | refine ACode.seq ?_ | (refine ACode.s_reg tys_ok ?_; conv => whnf) | refine ACode.s_block ?_ | refine ACode.s_scope ?_ | (refine ACode.s_cond ?_; conv => whnf) | (refine ACode.s_exit ?_; conv => whnf) | (refine ACode.s_ret ?_; conv => whnf) | (refine ACode.s_skip ?_; conv => whnf) | (refine ACode.s_label ?_; conv => whnf))
  rw [if_neg (by omega)]
  exact ⟨sees_ge _ _ _ _ h, rfl, rfl⟩
end Go.Proofs.YtmhlneeboefkgaaGreatDoor
