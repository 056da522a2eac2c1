import Derived.Test.YtmhlneeboefkgaaGreatDoorN8
set_option linter.unusedVariables false
set_option linter.unusedSimpArgs false
namespace Go.Proofs.YtmhlneeboefkgaaGreatDoor
open Go.Av Go.Av.Net
set_option maxRecDepth 20000 in
theorem word_spec (ts : List Tok) (len i : Nat) (v : V6) (x : Bs) (hl : ts.length ≤ 3000) (hi : i ≤ ts.length) :
  HCtr Tryz.prog 37 [.ptr 4 0, .str x] (PQr ts len i v) (fun r H => r = .tuple [] ∧ seesP (kts ts) 1 x i = true ∧ H = PQr ts len (i + 1) v) (fun y H => seesP (kts ts) 1 x i = false ∧ y = failA ts len (if i < ts.length then 90 else 91) i ∧ H = PQr ts len i v) := by
 refine HCtr.of_body Tryz.func37 rfl tys_ok (by kernel_rfl) rfl ?_
 conv => whnf
 repeat (first | refine ACode.seq ?_ | (refine ACode.s_reg tys_ok ?_; conv => whnf) | refine ACode.s_block ?_ | refine ACode.s_scope ?_ | (refine ACode.s_cond ?_; conv => whnf) | (refine ACode.s_exit ?_; conv => whnf) | (refine ACode.s_ret ?_; conv => whnf) | (refine ACode.s_skip ?_; conv => whnf) | (refine ACode.s_label ?_; conv => whnf))
 refine ACall.of_h (expect_spec ts len i v 1 x hl hi) rfl (hand_PQ ts len i v []) ?_ ?_
 ·rintro r H1 ⟨rfl, h, rfl⟩
  conv => whnf
  repeat (first | refine ACode.seq ?_ | (refine ACode.s_reg tys_ok ?_; conv => whnf) | refine ACode.s_block ?_ | refine ACode.s_scope ?_ | (refine ACode.s_cond ?_; conv => whnf) | (refine ACode.s_exit ?_; conv => whnf) | (refine ACode.s_ret ?_; conv => whnf) | (refine ACode.s_skip ?_; conv => whnf) | (refine ACode.s_label ?_; conv => whnf))
  exact ⟨rfl, h, rfl⟩
 ·rintro r H1 ⟨h, rfl, rfl⟩
  conv => whnf
  repeat (first | refine ACode.seq ?_ | (refine ACode.s_reg tys_ok ?_; conv => whnf) | refine ACode.s_block ?_ | refine ACode.s_scope ?_ | (refine ACode.s_cond ?_; conv => whnf) | (refine ACode.s_exit ?_; conv => whnf) | (refine ACode.s_ret ?_; conv => whnf) | (refine ACode.s_skip ?_; conv => whnf) | (refine ACode.s_label ?_; conv => whnf))
  exact ⟨h, rfl, rfl⟩
set_option maxRecDepth 20000 in
theorem symbol_spec (ts : List Tok) (len i : Nat) (v : V6) (x : Bs) (hl : ts.length ≤ 3000) (hi : i ≤ ts.length) :
  HCtr Tryz.prog 39 [.ptr 4 0, .str x] (PQr ts len i v) (fun r H => r = .tuple [] ∧ seesP (kts ts) 3 x i = true ∧ H = PQr ts len (i + 1) v) (fun y H => seesP (kts ts) 3 x i = false ∧ y = failA ts len (if i < ts.length then 90 else 91) i ∧ H = PQr ts len i v) := by
 refine HCtr.of_body Tryz.func39 rfl tys_ok (by kernel_rfl) rfl ?_
 conv => whnf
 repeat (first | refine ACode.seq ?_ | (refine ACode.s_reg tys_ok ?_; conv => whnf) | refine ACode.s_block ?_ | refine ACode.s_scope ?_ | (refine ACode.s_cond ?_; conv => whnf) | (refine ACode.s_exit ?_; conv => whnf) | (refine ACode.s_ret ?_; conv => whnf) | (refine ACode.s_skip ?_; conv => whnf) | (refine ACode.s_label ?_; conv => whnf))
 refine ACall.of_h (expect_spec ts len i v 3 x hl hi) rfl (hand_PQ ts len i v []) ?_ ?_
 ·rintro r H1 ⟨rfl, h, rfl⟩
  conv => whnf
  repeat (first | refine ACode.seq ?_ | (refine ACode.s_reg tys_ok ?_; conv => whnf) | refine ACode.s_block ?_ | refine ACode.s_scope ?_ | (refine ACode.s_cond ?_; conv => whnf) | (refine ACode.s_exit ?_; conv => whnf) | (refine ACode.s_ret ?_; conv => whnf) | (refine ACode.s_skip ?_; conv => whnf) | (refine ACode.s_label ?_; conv => whnf))
  exact ⟨rfl, h, rfl⟩
 ·rintro r H1 ⟨h, rfl, rfl⟩
  conv => whnf
  repeat (first | refine ACode.seq ?_ | (refine ACode.s_reg tys_ok ?_; conv => whnf) | refine ACode.s_block ?_ | refine ACode.s_scope ?_ | (refine ACode.s_cond ?_; conv => whnf) | (refine ACode.s_exit ?_; conv => whnf) | (refine ACode.s_ret ?_; conv => whnf) | (refine ACode.s_skip ?_; conv => whnf) | (refine ACode.s_label ?_; conv => whnf))
  exact ⟨h, rfl, rfl⟩
end Go.Proofs.YtmhlneeboefkgaaGreatDoor
