import Derived.Test.YtmhlneeboefkgaaGreatDoorR18
set_option linter.unusedVariables false
set_option linter.unusedSimpArgs false
namespace Go.Proofs.YtmhlneeboefkgaaGreatDoor
open Go.Av Go.Av.Net Pl
section
variable {ts : List Tok}
set_option maxRecDepth 20000 in
theorem line_r (ht : TsOK ts) (n : Nw) (r : Rs) (hr : r.at_ ≤ ts.length) (hn : n.lins.length ≤ 4000) (ho : n.offs.length ≤ 3000) :
  HCtr Tryz.prog 24 [.ptr 1 0, .ptr 2 0] (NQ ts r (linCs n n.lins.length) (linH n n.lins))
   (fun v H => v = .tuple [] ∧ H = NQ ts (linR ts n r).2 (linCs n (n.lins ++ [(linR ts n r).1]).length) (linH n (n.lins ++ [(linR ts n r).1]))) (fun _ _ => False) := by
 have hl := ht.len
 generalize hp : linR ts n r = p
 replace hp := hp.symm
 unfold linR at hp
 refine HCtr.of_body Tryz.func24 rfl tys_ok (by kernel_rfl) rfl ?_
 conv => whnf
 repeat (first | refine ACode.seq ?_ | (refine ACode.s_reg tys_ok ?_; conv => whnf) | refine ACode.s_block ?_ | refine ACode.s_scope ?_ | (refine ACode.s_cond ?_; conv => whnf) | (refine ACode.s_exit ?_; conv => whnf) | (refine ACode.s_ret ?_; conv => whnf) | (refine ACode.s_skip ?_; conv => whnf) | (refine ACode.s_label ?_; conv => whnf))
 refine ACall.of_rq (word_r hl w_line) (at_exp _ _) hr rfl (fun _ r hq hr => ?_)
 replace hp := hp.trans (RM.bind_eq hq)
 (conv => whnf)
 repeat (first | refine ACode.seq ?_ | (refine ACode.s_reg tys_ok ?_; conv => whnf) | refine ACode.s_block ?_ | refine ACode.s_scope ?_ | (refine ACode.s_cond ?_; conv => whnf) | (refine ACode.s_exit ?_; conv => whnf) | (refine ACode.s_ret ?_; conv => whnf) | (refine ACode.s_skip ?_; conv => whnf) | (refine ACode.s_label ?_; conv => whnf))
 refine ACall.of_rq (name_r ht) (at_name) hr rfl (fun name r hq hr => ?_)
 replace hp := hp.trans (RM.bind_eq hq)
 (conv => whnf)
 repeat (first | refine ACode.seq ?_ | (refine ACode.s_reg tys_ok ?_; conv => whnf) | refine ACode.s_block ?_ | refine ACode.s_scope ?_ | (refine ACode.s_cond ?_; conv => whnf) | (refine ACode.s_exit ?_; conv => whnf) | (refine ACode.s_ret ?_; conv => whnf) | (refine ACode.s_skip ?_; conv => whnf) | (refine ACode.s_label ?_; conv => whnf))
 refine ACall.of_rq (sign_r hl s_colon) (at_exp _ _) hr rfl (fun _ r hq hr => ?_)
 replace hp := hp.trans (RM.bind_eq hq)
 (conv => whnf)
 repeat (first | refine ACode.seq ?_ | (refine ACode.s_reg tys_ok ?_; conv => whnf) | refine ACode.s_block ?_ | refine ACode.s_scope ?_ | (refine ACode.s_cond ?_; conv => whnf) | (refine ACode.s_exit ?_; conv => whnf) | (refine ACode.s_ret ?_; conv => whnf) | (refine ACode.s_skip ?_; conv => whnf) | (refine ACode.s_label ?_; conv => whnf))
 refine ACall.of_h (offNames_r n (by omega)) rfl (by (conv => whnf); exact ⟨rfl, rfl, rfl, closed_map _ (fun _ => rfl) _, trivial⟩) ?_ (fun _ _ q => q.elim)
 rintro v H1 ⟨rfl, rfl⟩
 conv => whnf
 repeat (first | refine ACode.seq ?_ | (refine ACode.s_reg tys_ok ?_; conv => whnf) | refine ACode.s_block ?_ | refine ACode.s_scope ?_ | (refine ACode.s_cond ?_; conv => whnf) | (refine ACode.s_exit ?_; conv => whnf) | (refine ACode.s_ret ?_; conv => whnf) | (refine ACode.s_skip ?_; conv => whnf) | (refine ACode.s_label ?_; conv => whnf))
 refine ACall.of_rq (reference_r ht (n.offs.map (·.name)) (by simp; omega)) (at_ref _) hr rfl (fun from_ r hq hr => ?_)
 replace hp := hp.trans (RM.bind_eq hq)
 (conv => whnf)
 repeat (first | refine ACode.seq ?_ | (refine ACode.s_reg tys_ok ?_; conv => whnf) | refine ACode.s_block ?_ | refine ACode.s_scope ?_ | (refine ACode.s_cond ?_; conv => whnf) | (refine ACode.s_exit ?_; conv => whnf) | (refine ACode.s_ret ?_; conv => whnf) | (refine ACode.s_skip ?_; conv => whnf) | (refine ACode.s_label ?_; conv => whnf))
 refine ACall.of_rq (sign_r hl s_arrow) (at_exp _ _) hr rfl (fun _ r hq hr => ?_)
 replace hp := hp.trans (RM.bind_eq hq)
 (conv => whnf)
 repeat (first | refine ACode.seq ?_ | (refine ACode.s_reg tys_ok ?_; conv => whnf) | refine ACode.s_block ?_ | refine ACode.s_scope ?_ | (refine ACode.s_cond ?_; conv => whnf) | (refine ACode.s_exit ?_; conv => whnf) | (refine ACode.s_ret ?_; conv => whnf) | (refine ACode.s_skip ?_; conv => whnf) | (refine ACode.s_label ?_; conv => whnf))
 refine ACall.of_h (offNames_r n (by omega)) rfl (by (conv => whnf); exact ⟨rfl, rfl, rfl, closed_map _ (fun _ => rfl) _, trivial⟩) ?_ (fun _ _ q => q.elim)
 rintro v H1 ⟨rfl, rfl⟩
 conv => whnf
 repeat (first | refine ACode.seq ?_ | (refine ACode.s_reg tys_ok ?_; conv => whnf) | refine ACode.s_block ?_ | refine ACode.s_scope ?_ | (refine ACode.s_cond ?_; conv => whnf) | (refine ACode.s_exit ?_; conv => whnf) | (refine ACode.s_ret ?_; conv => whnf) | (refine ACode.s_skip ?_; conv => whnf) | (refine ACode.s_label ?_; conv => whnf))
 refine ACall.of_rq (reference_r ht (n.offs.map (·.name)) (by simp; omega)) (at_ref _) hr rfl (fun to_ r hq hr => ?_)
 replace hp := hp.trans (RM.bind_eq hq)
 (conv => whnf)
 repeat (first | refine ACode.seq ?_ | (refine ACode.s_reg tys_ok ?_; conv => whnf) | refine ACode.s_block ?_ | refine ACode.s_scope ?_ | (refine ACode.s_cond ?_; conv => whnf) | (refine ACode.s_exit ?_; conv => whnf) | (refine ACode.s_ret ?_; conv => whnf) | (refine ACode.s_skip ?_; conv => whnf) | (refine ACode.s_label ?_; conv => whnf))
 refine ACall.of_rq (word_r hl w_at) (at_exp _ _) hr rfl (fun _ r hq hr => ?_)
 replace hp := hp.trans (RM.bind_eq hq)
 (conv => whnf)
 repeat (first | refine ACode.seq ?_ | (refine ACode.s_reg tys_ok ?_; conv => whnf) | refine ACode.s_block ?_ | refine ACode.s_scope ?_ | (refine ACode.s_cond ?_; conv => whnf) | (refine ACode.s_exit ?_; conv => whnf) | (refine ACode.s_ret ?_; conv => whnf) | (refine ACode.s_skip ?_; conv => whnf) | (refine ACode.s_label ?_; conv => whnf))
 refine ACall.of_rq (number_r ht) (at_number) hr rfl (fun at_ r hq hr => ?_)
 replace hp := hp.trans (RM.bind_eq hq)
 (conv => whnf)
 repeat (first | refine ACode.seq ?_ | (refine ACode.s_reg tys_ok ?_; conv => whnf) | refine ACode.s_block ?_ | refine ACode.s_scope ?_ | (refine ACode.s_cond ?_; conv => whnf) | (refine ACode.s_exit ?_; conv => whnf) | (refine ACode.s_ret ?_; conv => whnf) | (refine ACode.s_skip ?_; conv => whnf) | (refine ACode.s_label ?_; conv => whnf))
 refine ACall.of_rq (word_r hl w_travel) (at_exp _ _) hr rfl (fun _ r hq hr => ?_)
 replace hp := hp.trans (RM.bind_eq hq)
 (conv => whnf)
 repeat (first | refine ACode.seq ?_ | (refine ACode.s_reg tys_ok ?_; conv => whnf) | refine ACode.s_block ?_ | refine ACode.s_scope ?_ | (refine ACode.s_cond ?_; conv => whnf) | (refine ACode.s_exit ?_; conv => whnf) | (refine ACode.s_ret ?_; conv => whnf) | (refine ACode.s_skip ?_; conv => whnf) | (refine ACode.s_label ?_; conv => whnf))
 refine ACall.of_rq (number_r ht) (at_number) hr rfl (fun travel r hq hr => ?_)
 replace hp := hp.trans (RM.bind_eq hq)
 (conv => whnf)
 repeat (first | refine ACode.seq ?_ | (refine ACode.s_reg tys_ok ?_; conv => whnf) | refine ACode.s_block ?_ | refine ACode.s_scope ?_ | (refine ACode.s_cond ?_; conv => whnf) | (refine ACode.s_exit ?_; conv => whnf) | (refine ACode.s_ret ?_; conv => whnf) | (refine ACode.s_skip ?_; conv => whnf) | (refine ACode.s_label ?_; conv => whnf))
 refine ACall.of_rq (word_r hl w_load) (at_exp _ _) hr rfl (fun _ r hq hr => ?_)
 replace hp := hp.trans (RM.bind_eq hq)
 (conv => whnf)
 repeat (first | refine ACode.seq ?_ | (refine ACode.s_reg tys_ok ?_; conv => whnf) | refine ACode.s_block ?_ | refine ACode.s_scope ?_ | (refine ACode.s_cond ?_; conv => whnf) | (refine ACode.s_exit ?_; conv => whnf) | (refine ACode.s_ret ?_; conv => whnf) | (refine ACode.s_skip ?_; conv => whnf) | (refine ACode.s_label ?_; conv => whnf))
 refine ACall.of_rq (number_r ht) (at_number) hr rfl (fun load r hq hr => ?_)
 replace hp := hp.trans (RM.bind_eq hq)
 (conv => whnf)
 repeat (first | refine ACode.seq ?_ | (refine ACode.s_reg tys_ok ?_; conv => whnf) | refine ACode.s_block ?_ | refine ACode.s_scope ?_ | (refine ACode.s_cond ?_; conv => whnf) | (refine ACode.s_exit ?_; conv => whnf) | (refine ACode.s_ret ?_; conv => whnf) | (refine ACode.s_skip ?_; conv => whnf) | (refine ACode.s_label ?_; conv => whnf))
 refine ACall.of_rq (sign_r hl s_semi) (at_exp _ _) hr rfl (fun _ r hq hr => ?_)
 replace hp := hp.trans (RM.bind_eq hq)
 (conv => whnf)
 repeat (first | refine ACode.seq ?_ | (refine ACode.s_reg tys_ok ?_; conv => whnf) | refine ACode.s_block ?_ | refine ACode.s_scope ?_ | (refine ACode.s_cond ?_; conv => whnf) | (refine ACode.s_exit ?_; conv => whnf) | (refine ACode.s_ret ?_; conv => whnf) | (refine ACode.s_skip ?_; conv => whnf) | (refine ACode.s_label ?_; conv => whnf))
 refine ACode.drawI [] [7, 10] tys_ok (by kernel_rfl) (by kernel_rfl) ?_
 conv => whnf
 refine ⟨rfl, ?_⟩
 conv => whnf
 refine ⟨⟨by simp, by simp; omega⟩, ?_⟩
 conv => whnf
 repeat (first | refine ACode.seq ?_ | (refine ACode.s_reg tys_ok ?_; conv => whnf) | refine ACode.s_block ?_ | refine ACode.s_scope ?_ | (refine ACode.s_cond ?_; conv => whnf) | (refine ACode.s_exit ?_; conv => whnf) | (refine ACode.s_ret ?_; conv => whnf) | (refine ACode.s_skip ?_; conv => whnf) | (refine ACode.s_label ?_; conv => whnf))
 rw [hp, RM.ret_at]
 refine ⟨fun e he => ?_, ?_⟩
 ·rcases List.mem_append.1 he with h | h
  ·exact closed_map _ (fun _ => rfl) _ e h
  ·rw [List.mem_singleton.1 h]; rfl
 (conv => whnf)
 refine ⟨rfl, ?_⟩
 simp [NQ, linA, linCs, linH, nilA]
end
end Go.Proofs.YtmhlneeboefkgaaGreatDoor
