import Derived.Test.YtmhlneeboefkgaaGreatDoorR19
set_option linter.unusedVariables false
set_option linter.unusedSimpArgs false
namespace Go.Proofs.YtmhlneeboefkgaaGreatDoor
open Go.Av Go.Av.Net Pl
section
variable {ts : List Tok}
theorem codesR_succ (f : Nat) (l : List Bs) (r : Rs) : codesR ts (f + 1) l r = bif decide (r.err = 0) && !seesR ts 3 s_semi r then ((codeR ts).bind fun c => codesR ts f (l ++ c)) r else (l, r) := rfl
theorem at_code : RAt ts (codeR ts) := at_item _ _
theorem item_step {α : Type} {z : α} {g : Tok → Option α} {r : Rs} (h : (itemR ts z g r).2.err = 0) : (itemR ts z g r).2.at_ = r.at_ + 1 := by
 have hf : (failR ts r).err ≠ 0 := by
  unfold failR
  cases he : decide (r.err = 0) with
  | false => simpa using he
  | true => simp only [cond_true]; split <;> simp
 unfold itemR at h ⊢
 cases hs : (bif decide (r.err = 0) then ts[r.at_]? else none) with
 | none => rw [hs] at h; exact absurd h hf
 | some t =>
  rw [hs] at h
  simp only at h ⊢
  cases hg : g t with
  | none => rw [hg] at h; exact absurd h hf
  | some a => rfl
set_option maxRecDepth 20000 in
theorem office_r (ht : TsOK ts) (n : Nw) (r : Rs) (hr : r.at_ ≤ ts.length) (hn : n.offs.length ≤ 4000) (ho : n.opers.length ≤ 3000) (ho2 : n.names.length ≤ 3000) :
  HCtr Tryz.prog 23 [.ptr 1 0, .ptr 2 0] (NQ ts r (offCs n n.offs.length) (offH n n.offs))
   (fun v H => v = .tuple [] ∧ H = NQ ts (offR ts n r).2 (offCs n (n.offs ++ [(offR ts n r).1]).length) (offH n (n.offs ++ [(offR ts n r).1]))) (fun _ _ => False) := by
 have hl := ht.len
 generalize hp : offR ts n r = p
 replace hp := hp.symm
 unfold offR at hp
 refine HCtr.of_body Tryz.func23 rfl tys_ok (by kernel_rfl) rfl ?_
 conv => whnf
 repeat (first | refine ACode.seq ?_ | (refine ACode.s_reg tys_ok ?_; conv => whnf) | refine ACode.s_block ?_ | refine ACode.s_scope ?_ | (refine ACode.s_cond ?_; conv => whnf) | (refine ACode.s_exit ?_; conv => whnf) | (refine ACode.s_ret ?_; conv => whnf) | (refine ACode.s_skip ?_; conv => whnf) | (refine ACode.s_label ?_; conv => whnf))
 refine ACall.of_rq (word_r hl w_office) (at_exp _ _) hr rfl (fun _ r hq hr => ?_)
 replace hp := hp.trans (RM.bind_eq hq)
 (conv => whnf)
 repeat (first | refine ACode.seq ?_ | (refine ACode.s_reg tys_ok ?_; conv => whnf) | refine ACode.s_block ?_ | refine ACode.s_scope ?_ | (refine ACode.s_cond ?_; conv => whnf) | (refine ACode.s_exit ?_; conv => whnf) | (refine ACode.s_ret ?_; conv => whnf) | (refine ACode.s_skip ?_; conv => whnf) | (refine ACode.s_label ?_; conv => whnf))
 refine ACall.of_rq (name_r ht) (at_name) hr rfl (fun name r hq hr => ?_)
 replace hp := hp.trans (RM.bind_eq hq)
 (conv => whnf)
 repeat (first | refine ACode.seq ?_ | (refine ACode.s_reg tys_ok ?_; conv => whnf) | refine ACode.s_block ?_ | refine ACode.s_scope ?_ | (refine ACode.s_cond ?_; conv => whnf) | (refine ACode.s_exit ?_; conv => whnf) | (refine ACode.s_ret ?_; conv => whnf) | (refine ACode.s_skip ?_; conv => whnf) | (refine ACode.s_label ?_; conv => whnf))
 refine ACall.of_rq (sign_r hl s_lb) (at_exp _ _) hr rfl (fun _ r hq hr => ?_)
 replace hp := hp.trans (RM.bind_eq hq)
 (conv => whnf)
 repeat (first | refine ACode.seq ?_ | (refine ACode.s_reg tys_ok ?_; conv => whnf) | refine ACode.s_block ?_ | refine ACode.s_scope ?_ | (refine ACode.s_cond ?_; conv => whnf) | (refine ACode.s_exit ?_; conv => whnf) | (refine ACode.s_ret ?_; conv => whnf) | (refine ACode.s_skip ?_; conv => whnf) | (refine ACode.s_label ?_; conv => whnf))
 refine ACall.of_rq (word_r hl w_operator) (at_exp _ _) hr rfl (fun _ r hq hr => ?_)
 replace hp := hp.trans (RM.bind_eq hq)
 (conv => whnf)
 repeat (first | refine ACode.seq ?_ | (refine ACode.s_reg tys_ok ?_; conv => whnf) | refine ACode.s_block ?_ | refine ACode.s_scope ?_ | (refine ACode.s_cond ?_; conv => whnf) | (refine ACode.s_exit ?_; conv => whnf) | (refine ACode.s_ret ?_; conv => whnf) | (refine ACode.s_skip ?_; conv => whnf) | (refine ACode.s_label ?_; conv => whnf))
 refine ACall.of_h (operNames_r n (by omega)) rfl (by (conv => whnf); exact ⟨rfl, rfl, rfl, closed_map _ (fun _ => rfl) _, trivial⟩) ?_ (fun _ _ q => q.elim)
 rintro v H1 ⟨rfl, rfl⟩
 conv => whnf
 repeat (first | refine ACode.seq ?_ | (refine ACode.s_reg tys_ok ?_; conv => whnf) | refine ACode.s_block ?_ | refine ACode.s_scope ?_ | (refine ACode.s_cond ?_; conv => whnf) | (refine ACode.s_exit ?_; conv => whnf) | (refine ACode.s_ret ?_; conv => whnf) | (refine ACode.s_skip ?_; conv => whnf) | (refine ACode.s_label ?_; conv => whnf))
 refine ACall.of_rq (reference_r ht n.opers ho) (at_ref _) hr rfl (fun oper r hq hr => ?_)
 replace hp := hp.trans (RM.bind_eq hq)
 (conv => whnf)
 repeat (first | refine ACode.seq ?_ | (refine ACode.s_reg tys_ok ?_; conv => whnf) | refine ACode.s_block ?_ | refine ACode.s_scope ?_ | (refine ACode.s_cond ?_; conv => whnf) | (refine ACode.s_exit ?_; conv => whnf) | (refine ACode.s_ret ?_; conv => whnf) | (refine ACode.s_skip ?_; conv => whnf) | (refine ACode.s_label ?_; conv => whnf))
 refine ACall.of_rq (sign_r hl s_semi) (at_exp _ _) hr rfl (fun _ r hq hr => ?_)
 replace hp := hp.trans (RM.bind_eq hq)
 (conv => whnf)
 repeat (first | refine ACode.seq ?_ | (refine ACode.s_reg tys_ok ?_; conv => whnf) | refine ACode.s_block ?_ | refine ACode.s_scope ?_ | (refine ACode.s_cond ?_; conv => whnf) | (refine ACode.s_exit ?_; conv => whnf) | (refine ACode.s_ret ?_; conv => whnf) | (refine ACode.s_skip ?_; conv => whnf) | (refine ACode.s_label ?_; conv => whnf))
 refine ACall.of_rq (word_r hl w_calendar) (at_exp _ _) hr rfl (fun _ r hq hr => ?_)
 replace hp := hp.trans (RM.bind_eq hq)
 (conv => whnf)
 repeat (first | refine ACode.seq ?_ | (refine ACode.s_reg tys_ok ?_; conv => whnf) | refine ACode.s_block ?_ | refine ACode.s_scope ?_ | (refine ACode.s_cond ?_; conv => whnf) | (refine ACode.s_exit ?_; conv => whnf) | (refine ACode.s_ret ?_; conv => whnf) | (refine ACode.s_skip ?_; conv => whnf) | (refine ACode.s_label ?_; conv => whnf))
 refine ACall.of_rq (reference_r ht n.names ho2) (at_ref _) hr rfl (fun cal r hq hr => ?_)
 replace hp := hp.trans (RM.bind_eq hq)
 (conv => whnf)
 repeat (first | refine ACode.seq ?_ | (refine ACode.s_reg tys_ok ?_; conv => whnf) | refine ACode.s_block ?_ | refine ACode.s_scope ?_ | (refine ACode.s_cond ?_; conv => whnf) | (refine ACode.s_exit ?_; conv => whnf) | (refine ACode.s_ret ?_; conv => whnf) | (refine ACode.s_skip ?_; conv => whnf) | (refine ACode.s_label ?_; conv => whnf))
 refine ACall.of_rq (sign_r hl s_semi) (at_exp _ _) hr rfl (fun _ r hq hr => ?_)
 replace hp := hp.trans (RM.bind_eq hq)
 (conv => whnf)
 repeat (first | refine ACode.seq ?_ | (refine ACode.s_reg tys_ok ?_; conv => whnf) | refine ACode.s_block ?_ | refine ACode.s_scope ?_ | (refine ACode.s_cond ?_; conv => whnf) | (refine ACode.s_exit ?_; conv => whnf) | (refine ACode.s_ret ?_; conv => whnf) | (refine ACode.s_skip ?_; conv => whnf) | (refine ACode.s_label ?_; conv => whnf))
 refine ACall.of_rq (after_r ht w_pockets) (at_after _) hr rfl (fun pockets r hq hr => ?_)
 replace hp := hp.trans (RM.bind_eq hq)
 (conv => whnf)
 repeat (first | refine ACode.seq ?_ | (refine ACode.s_reg tys_ok ?_; conv => whnf) | refine ACode.s_block ?_ | refine ACode.s_scope ?_ | (refine ACode.s_cond ?_; conv => whnf) | (refine ACode.s_exit ?_; conv => whnf) | (refine ACode.s_ret ?_; conv => whnf) | (refine ACode.s_skip ?_; conv => whnf) | (refine ACode.s_label ?_; conv => whnf))
 refine ACall.of_rq (after_r ht w_passes) (at_after _) hr rfl (fun passes r hq hr => ?_)
 replace hp := hp.trans (RM.bind_eq hq)
 (conv => whnf)
 repeat (first | refine ACode.seq ?_ | (refine ACode.s_reg tys_ok ?_; conv => whnf) | refine ACode.s_block ?_ | refine ACode.s_scope ?_ | (refine ACode.s_cond ?_; conv => whnf) | (refine ACode.s_exit ?_; conv => whnf) | (refine ACode.s_ret ?_; conv => whnf) | (refine ACode.s_skip ?_; conv => whnf) | (refine ACode.s_label ?_; conv => whnf))
 refine ACall.of_rq (after_r ht w_minutes) (at_after _) hr rfl (fun minutes r hq hr => ?_)
 replace hp := hp.trans (RM.bind_eq hq)
 (conv => whnf)
 repeat (first | refine ACode.seq ?_ | (refine ACode.s_reg tys_ok ?_; conv => whnf) | refine ACode.s_block ?_ | refine ACode.s_scope ?_ | (refine ACode.s_cond ?_; conv => whnf) | (refine ACode.s_exit ?_; conv => whnf) | (refine ACode.s_ret ?_; conv => whnf) | (refine ACode.s_skip ?_; conv => whnf) | (refine ACode.s_label ?_; conv => whnf))
 refine ACall.nilCell 7 6 9 1 rfl rfl ?_
 refine ACall.of_r r (sees_r 1 w_codes) hr rfl ?_
 (conv => whnf)
 repeat (first | refine ACode.seq ?_ | (refine ACode.s_reg tys_ok ?_; conv => whnf) | refine ACode.s_block ?_ | refine ACode.s_scope ?_ | (refine ACode.s_cond ?_; conv => whnf) | (refine ACode.s_exit ?_; conv => whnf) | (refine ACode.s_ret ?_; conv => whnf) | (refine ACode.s_skip ?_; conv => whnf) | (refine ACode.s_label ?_; conv => whnf))
 cases hs : seesR ts 1 w_codes r with
 | false =>
  have hp := hp.trans (RM.bind_eq (show codesAllR ts r = ([], r) by unfold codesAllR; rw [hs]; rfl))
  repeat (first | (refine no_br ?_ (fun _ => ?_); (focus (simp; done)); conv => whnf) | (refine yes_br ?_ (fun _ => ?_); (focus (simp; done)); conv => whnf) | refine ACode.seq ?_ | (refine ACode.s_reg tys_ok ?_; conv => whnf) | refine ACode.s_block ?_ | refine ACode.s_scope ?_ | (refine ACode.s_cond ?_; conv => whnf) | (refine ACode.s_exit ?_; conv => whnf) | (refine ACode.s_ret ?_; conv => whnf) | (refine ACode.s_skip ?_; conv => whnf) | (refine ACode.s_label ?_; conv => whnf))
  refine ACall.of_rq (sign_r hl s_rb) (at_exp _ _) hr rfl (fun _ r hq hr => ?_)
  replace hp := hp.trans (RM.bind_eq hq)
  (conv => whnf)
  repeat (first | refine ACode.seq ?_ | (refine ACode.s_reg tys_ok ?_; conv => whnf) | refine ACode.s_block ?_ | refine ACode.s_scope ?_ | (refine ACode.s_cond ?_; conv => whnf) | (refine ACode.s_exit ?_; conv => whnf) | (refine ACode.s_ret ?_; conv => whnf) | (refine ACode.s_skip ?_; conv => whnf) | (refine ACode.s_label ?_; conv => whnf))
  refine ACode.freeze 8 ?_
  conv => whnf
  refine ⟨by simp, ?_⟩
  conv => whnf
  repeat (refine ⟨(by first | rfl | (simp; done) : (_ : Nat) = _), ?_⟩; conv => whnf)
  refine ACode.drawI [] [7, 10] tys_ok (by kernel_rfl) (by kernel_rfl) ?_
  conv => whnf
  refine ⟨rfl, ?_⟩
  conv => whnf
  refine ⟨⟨by simp, by simp; omega⟩, ?_⟩
  conv => whnf
  repeat (first | refine ACode.seq ?_ | (refine ACode.s_reg tys_ok ?_; conv => whnf) | refine ACode.s_block ?_ | refine ACode.s_scope ?_ | (refine ACode.s_cond ?_; conv => whnf) | (refine ACode.s_exit ?_; conv => whnf) | (refine ACode.s_ret ?_; conv => whnf) | (refine ACode.s_skip ?_; conv => whnf) | (refine ACode.s_label ?_; conv => whnf))
  rw [hp, RM.ret_at]
  refine ⟨fun e he => ?_, ?_⟩
  ·rcases List.mem_append.1 he with h | h
   ·exact closed_map _ (fun _ => rfl) _ e h
   ·rw [List.mem_singleton.1 h]; rfl
  (conv => whnf)
  refine ⟨rfl, ?_⟩
  simp [NQ, offA, offCs, offH, nilA, strs]
 | true =>
  have h1 := sees_le (seesR_on hs).2
  have h2 := on_at hs
  have ew : Wr .i64 ((r.at_ : Int) + 1) = ((r.at_ + 1 : Nat) : Int) := by rw [Wr64 _ (by omega) (by omega)]; omega
  repeat (first | (refine no_br ?_ (fun _ => ?_); (focus (simp; done)); conv => whnf) | (refine yes_br ?_ (fun _ => ?_); (focus (simp; done)); conv => whnf) | refine ACode.seq ?_ | (refine ACode.s_reg tys_ok ?_; conv => whnf) | refine ACode.s_block ?_ | refine ACode.s_scope ?_ | (refine ACode.s_cond ?_; conv => whnf) | (refine ACode.s_exit ?_; conv => whnf) | (refine ACode.s_ret ?_; conv => whnf) | (refine ACode.s_skip ?_; conv => whnf) | (refine ACode.s_label ?_; conv => whnf))
  rw [ew]
  obtain ⟨R, hR, hp⟩ : ∃ R : List Bs → RM Off, R = (fun l => (expR ts 3 s_rb).bind fun _ => RM.ret ⟨name, oper, cal, pockets, passes, minutes, l⟩) ∧ p = ((codeR ts).bind fun c => (codesR ts (ts.length + 1) c).bind fun l => (expR ts 3 s_semi).bind fun _ => R l) r.on := ⟨_, rfl, by rw [hp]; unfold RM.bind codesAllR; rw [hs]; rfl⟩
  refine ACode.loopD (fun x : Bool × Nat × Rs × List Bs => mk 158 [(0, .ptr 1 0), (1, .ptr 2 0), (4, .ptr 7 0), (5, .bool x.1)]) (fun x => NQ ts x.2.2.1 (offCs n n.offs.length) (offH n n.offs) ++ [.cells [.str name, .int .i64 oper, .int .i64 cal, .int .i64 pockets, .int .i64 passes, .int .i64 minutes, .own 8 1 0 x.2.2.2.length], .arr 9 1 (strs x.2.2.2)])
   (fun x => x.2.2.1.at_ ≤ ts.length ∧ x.2.2.2.length ≤ x.2.2.1.at_ ∧ (x.2.2.1.err = 0 → ts.length < x.2.2.1.at_ + x.2.1) ∧ match x.1 with | true => x.2.2.1.err = 0 ∧ p = ((codeR ts).bind fun c => (codesR ts x.2.1 (x.2.2.2 ++ c)).bind fun l => (expR ts 3 s_semi).bind fun _ => R l) x.2.2.1 | false => p = ((codesR ts x.2.1 x.2.2.2).bind fun l => (expR ts 3 s_semi).bind fun _ => R l) x.2.2.1)
   (fun x => (bif x.1 then 1 else 0) + x.2.1) (fun x hx => ⟨rfl, ?_⟩) ⟨(true, ts.length + 1, r.on, []), ?_⟩ (fun _ => rfl) fun x hx => ?_
  ·(conv => whnf)
   refine ⟨rfl, ?_⟩
   (conv => whnf)
   refine ⟨rfl, ?_⟩
   (conv => whnf)
   refine ⟨closed_map _ (fun _ => rfl) _, ?_⟩
   (conv => whnf)
   refine ⟨rfl, ?_⟩
   (conv => whnf)
   exact ⟨closed_map _ (fun _ => rfl) _, trivial⟩
  ·conv => whnf
   repeat (refine And.intro ?_ ?_; (focus (first | rfl | (simp; done))); conv => whnf)
   exact ⟨h2, Nat.zero_le _, fun _ => by simp only; omega, (seesR_on hs).1, hp⟩
  ·obtain ⟨first, g, r, acc⟩ := x
   obtain ⟨hr, hacc, hf, hp⟩ := hx
   simp only at hr hacc hf hp
   refine ACode.seq ?_
   refine ACode.cutK (fun x : Nat × Rs × List Bs => mk 158 [(0, .ptr 1 0), (1, .ptr 2 0), (4, .ptr 7 0)]) (fun x => NQ ts x.2.1 (offCs n n.offs.length) (offH n n.offs) ++ [.cells [.str name, .int .i64 oper, .int .i64 cal, .int .i64 pockets, .int .i64 passes, .int .i64 minutes, .own 8 1 0 x.2.2.length], .arr 9 1 (strs x.2.2)])
    (fun x => x.2.1.at_ ≤ ts.length ∧ x.2.2.length ≤ x.2.1.at_ ∧ ts.length < x.2.1.at_ + 1 + x.1 ∧ x.2.1.err = 0 ∧ p = ((codeR ts).bind fun c => (codesR ts x.1 (x.2.2 ++ c)).bind fun l => (expR ts 3 s_semi).bind fun _ => R l) x.2.1 ∧ x.1 < (bif first then 1 else 0) + g) (fun x hx => ⟨rfl, ?_⟩) (fun _ => by simp [NQ, offH]) ?_ fun x hx => ?_
   ·(conv => whnf)
    refine ⟨rfl, ?_⟩
    (conv => whnf)
    refine ⟨rfl, ?_⟩
    (conv => whnf)
    refine ⟨closed_map _ (fun _ => rfl) _, ?_⟩
    (conv => whnf)
    refine ⟨rfl, ?_⟩
    (conv => whnf)
    exact ⟨closed_map _ (fun _ => rfl) _, trivial⟩
   ·cases first with
    | true =>
     obtain ⟨he, hp⟩ := hp
     repeat (first | (refine yes_br ?_ (fun _ => ?_); (focus (simp; done)); conv => whnf) | (refine no_br ?_ (fun _ => ?_); (focus (simp; done)); conv => whnf) | refine ACode.seq ?_ | (refine ACode.s_reg tys_ok ?_; conv => whnf) | refine ACode.s_block ?_ | refine ACode.s_scope ?_ | (refine ACode.s_cond ?_; conv => whnf) | (refine ACode.s_exit ?_; conv => whnf) | (refine ACode.s_ret ?_; conv => whnf) | (refine ACode.s_skip ?_; conv => whnf) | (refine ACode.s_label ?_; conv => whnf))
     refine ⟨(g, r, acc), ?_⟩
     conv => whnf
     repeat (refine And.intro ?_ ?_; (focus (first | rfl | (simp; done))); conv => whnf)
     exact ⟨hr, hacc, by have := hf he; simp only; omega, he, hp, by simp⟩
    | false =>
     simp only at hp
     by_cases he : r.err = 0
     ·have hf := hf he
      obtain ⟨g, rfl⟩ : ∃ k, g = k + 1 := ⟨g - 1, by omega⟩
      repeat (first | (refine yes_br ?_ (fun _ => ?_); (focus (simp; done)); conv => whnf) | (refine no_br ?_ (fun _ => ?_); (focus (simp; done)); conv => whnf) | (refine yes_br ?_ (fun _ => ?_); (focus (simp [he]; done)); conv => whnf) | (refine no_br ?_ (fun _ => ?_); (focus (simp [he]; done)); conv => whnf) | refine ACode.seq ?_ | (refine ACode.s_reg tys_ok ?_; conv => whnf) | refine ACode.s_block ?_ | refine ACode.s_scope ?_ | (refine ACode.s_cond ?_; conv => whnf) | (refine ACode.s_exit ?_; conv => whnf) | (refine ACode.s_ret ?_; conv => whnf) | (refine ACode.s_skip ?_; conv => whnf) | (refine ACode.s_label ?_; conv => whnf))
      refine ACall.of_r r (sees_r 3 s_semi) hr rfl ?_
      (conv => whnf)
      repeat (first | refine ACode.seq ?_ | (refine ACode.s_reg tys_ok ?_; conv => whnf) | refine ACode.s_block ?_ | refine ACode.s_scope ?_ | (refine ACode.s_cond ?_; conv => whnf) | (refine ACode.s_exit ?_; conv => whnf) | (refine ACode.s_ret ?_; conv => whnf) | (refine ACode.s_skip ?_; conv => whnf) | (refine ACode.s_label ?_; conv => whnf))
      cases hs2 : seesR ts 3 s_semi r with
      | true =>
       have hp := hp.trans (RM.bind_eq (show codesR ts (g + 1) acc r = (acc, r) by rw [codesR_succ, hs2]; simp))
       repeat (first | (refine yes_br ?_ (fun _ => ?_); (focus (simp; done)); conv => whnf) | (refine no_br ?_ (fun _ => ?_); (focus (simp; done)); conv => whnf) | refine ACode.seq ?_ | (refine ACode.s_reg tys_ok ?_; conv => whnf) | refine ACode.s_block ?_ | refine ACode.s_scope ?_ | (refine ACode.s_cond ?_; conv => whnf) | (refine ACode.s_exit ?_; conv => whnf) | (refine ACode.s_ret ?_; conv => whnf) | (refine ACode.s_skip ?_; conv => whnf) | (refine ACode.s_label ?_; conv => whnf))
       refine ACall.of_rq (sign_r hl s_semi) (at_exp _ _) hr rfl (fun _ r hq hr => ?_)
       replace hp := hp.trans (RM.bind_eq hq)
       (conv => whnf)
       repeat (first | refine ACode.seq ?_ | (refine ACode.s_reg tys_ok ?_; conv => whnf) | refine ACode.s_block ?_ | refine ACode.s_scope ?_ | (refine ACode.s_cond ?_; conv => whnf) | (refine ACode.s_exit ?_; conv => whnf) | (refine ACode.s_ret ?_; conv => whnf) | (refine ACode.s_skip ?_; conv => whnf) | (refine ACode.s_label ?_; conv => whnf))
       rw [hR] at hp
       refine ACall.of_rq (sign_r hl s_rb) (at_exp _ _) hr rfl (fun _ r hq hr => ?_)
       replace hp := hp.trans (RM.bind_eq hq)
       (conv => whnf)
       repeat (first | refine ACode.seq ?_ | (refine ACode.s_reg tys_ok ?_; conv => whnf) | refine ACode.s_block ?_ | refine ACode.s_scope ?_ | (refine ACode.s_cond ?_; conv => whnf) | (refine ACode.s_exit ?_; conv => whnf) | (refine ACode.s_ret ?_; conv => whnf) | (refine ACode.s_skip ?_; conv => whnf) | (refine ACode.s_label ?_; conv => whnf))
       refine ACode.freeze 8 ?_
       conv => whnf
       refine ⟨closed_map _ (fun _ => rfl) _, ?_⟩
       conv => whnf
       repeat (refine ⟨(by first | rfl | (simp; done) : (_ : Nat) = _), ?_⟩; conv => whnf)
       refine ACode.drawI [] [7, 10] tys_ok (by kernel_rfl) (by kernel_rfl) ?_
       conv => whnf
       refine ⟨rfl, ?_⟩
       conv => whnf
       refine ⟨⟨by simp, by simp; omega⟩, ?_⟩
       conv => whnf
       repeat (first | refine ACode.seq ?_ | (refine ACode.s_reg tys_ok ?_; conv => whnf) | refine ACode.s_block ?_ | refine ACode.s_scope ?_ | (refine ACode.s_cond ?_; conv => whnf) | (refine ACode.s_exit ?_; conv => whnf) | (refine ACode.s_ret ?_; conv => whnf) | (refine ACode.s_skip ?_; conv => whnf) | (refine ACode.s_label ?_; conv => whnf))
       rw [hp, RM.ret_at]
       refine ⟨fun e he => ?_, ?_⟩
       ·rcases List.mem_append.1 he with h | h
        ·exact closed_map _ (fun _ => rfl) _ e h
        ·rw [List.mem_singleton.1 h]; rfl
       (conv => whnf)
       refine ⟨rfl, ?_⟩
       simp [NQ, offA, offCs, offH, nilA, strs]
      | false =>
       have hp : p = ((codeR ts).bind fun c => (codesR ts g (acc ++ c)).bind fun l => (expR ts 3 s_semi).bind fun _ => R l) r := by
        rw [hp]; unfold RM.bind; rw [show codesR ts (g + 1) acc r = ((codeR ts).bind fun c => codesR ts g (acc ++ c)) r by rw [codesR_succ, hs2, decide_eq_true he]; rfl]; rfl
       repeat (first | (refine yes_br ?_ (fun _ => ?_); (focus (simp; done)); conv => whnf) | (refine no_br ?_ (fun _ => ?_); (focus (simp; done)); conv => whnf) | refine ACode.seq ?_ | (refine ACode.s_reg tys_ok ?_; conv => whnf) | refine ACode.s_block ?_ | refine ACode.s_scope ?_ | (refine ACode.s_cond ?_; conv => whnf) | (refine ACode.s_exit ?_; conv => whnf) | (refine ACode.s_ret ?_; conv => whnf) | (refine ACode.s_skip ?_; conv => whnf) | (refine ACode.s_label ?_; conv => whnf))
       refine ⟨(g, r, acc), ?_⟩
       conv => whnf
       repeat (refine And.intro ?_ ?_; (focus (first | rfl | (simp; done))); conv => whnf)
       exact ⟨hr, hacc, by simp only; omega, he, hp, by simp⟩
     ·have hp := hp.trans (RM.bind_eq (show codesR ts g acc r = (acc, r) by cases g with | zero => rfl | succ k => rw [codesR_succ, decide_eq_false he]; rfl))
      repeat (first | (refine yes_br ?_ (fun _ => ?_); (focus (simp; done)); conv => whnf) | (refine no_br ?_ (fun _ => ?_); (focus (simp; done)); conv => whnf) | (refine yes_br ?_ (fun _ => ?_); (focus (simp [he]; done)); conv => whnf) | (refine no_br ?_ (fun _ => ?_); (focus (simp [he]; done)); conv => whnf) | refine ACode.seq ?_ | (refine ACode.s_reg tys_ok ?_; conv => whnf) | refine ACode.s_block ?_ | refine ACode.s_scope ?_ | (refine ACode.s_cond ?_; conv => whnf) | (refine ACode.s_exit ?_; conv => whnf) | (refine ACode.s_ret ?_; conv => whnf) | (refine ACode.s_skip ?_; conv => whnf) | (refine ACode.s_label ?_; conv => whnf))
      refine ACall.of_rq (sign_r hl s_semi) (at_exp _ _) hr rfl (fun _ r hq hr => ?_)
      replace hp := hp.trans (RM.bind_eq hq)
      (conv => whnf)
      repeat (first | refine ACode.seq ?_ | (refine ACode.s_reg tys_ok ?_; conv => whnf) | refine ACode.s_block ?_ | refine ACode.s_scope ?_ | (refine ACode.s_cond ?_; conv => whnf) | (refine ACode.s_exit ?_; conv => whnf) | (refine ACode.s_ret ?_; conv => whnf) | (refine ACode.s_skip ?_; conv => whnf) | (refine ACode.s_label ?_; conv => whnf))
      rw [hR] at hp
      refine ACall.of_rq (sign_r hl s_rb) (at_exp _ _) hr rfl (fun _ r hq hr => ?_)
      replace hp := hp.trans (RM.bind_eq hq)
      (conv => whnf)
      repeat (first | refine ACode.seq ?_ | (refine ACode.s_reg tys_ok ?_; conv => whnf) | refine ACode.s_block ?_ | refine ACode.s_scope ?_ | (refine ACode.s_cond ?_; conv => whnf) | (refine ACode.s_exit ?_; conv => whnf) | (refine ACode.s_ret ?_; conv => whnf) | (refine ACode.s_skip ?_; conv => whnf) | (refine ACode.s_label ?_; conv => whnf))
      refine ACode.freeze 8 ?_
      conv => whnf
      refine ⟨closed_map _ (fun _ => rfl) _, ?_⟩
      conv => whnf
      repeat (refine ⟨(by first | rfl | (simp; done) : (_ : Nat) = _), ?_⟩; conv => whnf)
      refine ACode.drawI [] [7, 10] tys_ok (by kernel_rfl) (by kernel_rfl) ?_
      conv => whnf
      refine ⟨rfl, ?_⟩
      conv => whnf
      refine ⟨⟨by simp, by simp; omega⟩, ?_⟩
      conv => whnf
      repeat (first | refine ACode.seq ?_ | (refine ACode.s_reg tys_ok ?_; conv => whnf) | refine ACode.s_block ?_ | refine ACode.s_scope ?_ | (refine ACode.s_cond ?_; conv => whnf) | (refine ACode.s_exit ?_; conv => whnf) | (refine ACode.s_ret ?_; conv => whnf) | (refine ACode.s_skip ?_; conv => whnf) | (refine ACode.s_label ?_; conv => whnf))
      rw [hp, RM.ret_at]
      refine ⟨fun e he => ?_, ?_⟩
      ·rcases List.mem_append.1 he with h | h
       ·exact closed_map _ (fun _ => rfl) _ e h
       ·rw [List.mem_singleton.1 h]; rfl
      (conv => whnf)
      refine ⟨rfl, ?_⟩
      simp [NQ, offA, offCs, offH, nilA, strs]
   ·obtain ⟨g', r, acc⟩ := x
    obtain ⟨hr, hacc, hf, he, hp, hg⟩ := hx
    simp only at hr hacc hf he hp hg
    repeat (first | refine ACode.seq ?_ | (refine ACode.s_reg tys_ok ?_; conv => whnf) | refine ACode.s_block ?_ | refine ACode.s_scope ?_ | (refine ACode.s_cond ?_; conv => whnf) | (refine ACode.s_exit ?_; conv => whnf) | (refine ACode.s_ret ?_; conv => whnf) | (refine ACode.s_skip ?_; conv => whnf) | (refine ACode.s_label ?_; conv => whnf))
    refine ACode.draw [] tys_ok (by kernel_rfl) (by kernel_rfl) ?_
    conv => whnf
    have hfin : codeR ts r = ([], failR ts r) → ∃ j : Bool × Nat × Rs × List Bs, j = (false, g', failR ts r, acc) ∧ (failR ts r).at_ ≤ ts.length ∧ acc.length ≤ (failR ts r).at_ ∧ ((failR ts r).err = 0 → ts.length < (failR ts r).at_ + g') ∧ p = ((codesR ts g' acc).bind fun l => (expR ts 3 s_semi).bind fun _ => R l) (failR ts r) := by
     intro q
     have hq := hp.trans (RM.bind_eq q)
     simp only [List.append_nil] at hq
     have hne : (failR ts r).err ≠ 0 := by unfold failR; rw [decide_eq_true he]; simp only [cond_true]; split <;> simp
     have hat : (failR ts r).at_ = r.at_ := by unfold failR; rw [decide_eq_true he]; simp only [cond_true]; split <;> rfl
     exact ⟨_, rfl, by omega, by omega, fun q => absurd q hne, hq⟩
    by_cases hlt : r.at_ < ts.length
    ·have htl := (ht.tok _ (List.getElem_mem hlt)).1
     have ew : Wr .i64 ((r.at_ : Int) + 1) = ((r.at_ + 1 : Nat) : Int) := by rw [Wr64 _ (by omega) (by omega)]; omega
     have hno : ((decide (ts[r.at_].kind = 1) || decide (ts[r.at_].kind = 2)) && isCodeB ts[r.at_].text) = false → codeR ts r = ([], failR ts r) := fun q => item_no fun ⟨_, _, k⟩ => k (by rw [q]; rfl)
     have hyes : ((decide (ts[r.at_].kind = 1) || decide (ts[r.at_].kind = 2)) && isCodeB ts[r.at_].text) = true → codeR ts r = ([ts[r.at_].text], r.on) := fun q => item_ok he hlt (by rw [q]; rfl)
     by_cases hk1 : ts[r.at_].kind = 1
     ·cases hc : isCodeB ts[r.at_].text with
      | true =>
       have hg2 := hyes (by simp [hk1, hc])
       repeat (first | (refine yes_br ?_ (fun _ => ?_); (focus (simp; omega; done)); conv => whnf) | (refine no_br ?_ (fun _ => ?_); (focus (simp; omega; done)); conv => whnf) | (refine ⟨by omega, tokA ts[r.at_], (by exact toks_get ts _ hlt), ?_⟩; conv => whnf) | (refine yes_br ?_ (fun _ => ?_); (focus (simp [hk1]; done)); conv => whnf) | (refine no_br ?_ (fun _ => ?_); (focus (simp [hk1]; done)); conv => whnf) | (refine ⟨_, ⟨rCode_spec ts[r.at_].text (by omega), rfl⟩, ?_⟩; conv => whnf) | (refine no_br ?_ (fun _ => ?_); (focus (simp [hc]; done)); conv => whnf) | (refine yes_br ?_ (fun _ => ?_); (focus (simp [hc]; done)); conv => whnf) | refine ACode.seq ?_ | (refine ACode.s_reg tys_ok ?_; conv => whnf) | refine ACode.s_block ?_ | refine ACode.s_scope ?_ | (refine ACode.s_cond ?_; conv => whnf) | (refine ACode.s_exit ?_; conv => whnf) | (refine ACode.s_ret ?_; conv => whnf) | (refine ACode.s_skip ?_; conv => whnf) | (refine ACode.s_label ?_; conv => whnf))
       refine ACode.drawI [] [14, 16] tys_ok (by kernel_rfl) (by kernel_rfl) ?_
       conv => whnf
       repeat (first | (refine ⟨by omega, tokA ts[r.at_], (by exact toks_get ts _ hlt), ?_⟩; conv => whnf) | refine ACode.seq ?_ | (refine ACode.s_reg tys_ok ?_; conv => whnf) | refine ACode.s_block ?_ | refine ACode.s_scope ?_ | (refine ACode.s_cond ?_; conv => whnf) | (refine ACode.s_exit ?_; conv => whnf) | (refine ACode.s_ret ?_; conv => whnf) | (refine ACode.s_skip ?_; conv => whnf) | (refine ACode.s_label ?_; conv => whnf))
       refine ⟨rfl, ?_⟩
       conv => whnf
       refine ⟨⟨by simp [strs], by simp [strs]; omega⟩, ?_⟩
       conv => whnf
       repeat (first | refine ACode.seq ?_ | (refine ACode.s_reg tys_ok ?_; conv => whnf) | refine ACode.s_block ?_ | refine ACode.s_scope ?_ | (refine ACode.s_cond ?_; conv => whnf) | (refine ACode.s_exit ?_; conv => whnf) | (refine ACode.s_ret ?_; conv => whnf) | (refine ACode.s_skip ?_; conv => whnf) | (refine ACode.s_label ?_; conv => whnf))
       refine ⟨(false, g', r.on, acc ++ [ts[r.at_].text]), ?_⟩
       conv => whnf
       repeat (refine And.intro ?_ ?_; (focus (first | rfl | (simp; done) | ((first | (rw [ew]; rfl) | (simp [strs, NQ, ew, Rs.on])); done))); conv => whnf)
       exact ⟨⟨by simp only [Rs.on]; omega, by simp [Rs.on]; omega, fun _ => by simp only [Rs.on]; omega, hp.trans (RM.bind_eq hg2)⟩, by simp only [cond_false]; omega⟩
      | false =>
       have hg2 := hno (by simp [hk1, hc])
       repeat (first | (refine yes_br ?_ (fun _ => ?_); (focus (simp; omega; done)); conv => whnf) | (refine no_br ?_ (fun _ => ?_); (focus (simp; omega; done)); conv => whnf) | (refine ⟨by omega, tokA ts[r.at_], (by exact toks_get ts _ hlt), ?_⟩; conv => whnf) | (refine yes_br ?_ (fun _ => ?_); (focus (simp [hk1]; done)); conv => whnf) | (refine no_br ?_ (fun _ => ?_); (focus (simp [hk1]; done)); conv => whnf) | (refine ⟨_, ⟨rCode_spec ts[r.at_].text (by omega), rfl⟩, ?_⟩; conv => whnf) | (refine no_br ?_ (fun _ => ?_); (focus (simp [hc]; done)); conv => whnf) | (refine yes_br ?_ (fun _ => ?_); (focus (simp [hc]; done)); conv => whnf) | refine ACode.seq ?_ | (refine ACode.s_reg tys_ok ?_; conv => whnf) | refine ACode.s_block ?_ | refine ACode.s_scope ?_ | (refine ACode.s_cond ?_; conv => whnf) | (refine ACode.s_exit ?_; conv => whnf) | (refine ACode.s_ret ?_; conv => whnf) | (refine ACode.s_skip ?_; conv => whnf) | (refine ACode.s_label ?_; conv => whnf))
       refine ACall.of_r r (fail_r hl) hr rfl ?_
       (conv => whnf)
       repeat (first | refine ACode.seq ?_ | (refine ACode.s_reg tys_ok ?_; conv => whnf) | refine ACode.s_block ?_ | refine ACode.s_scope ?_ | (refine ACode.s_cond ?_; conv => whnf) | (refine ACode.s_exit ?_; conv => whnf) | (refine ACode.s_ret ?_; conv => whnf) | (refine ACode.s_skip ?_; conv => whnf) | (refine ACode.s_label ?_; conv => whnf))
       obtain ⟨j, rfl, f1, f2, f3, f4⟩ := hfin hg2
       refine ⟨(false, g', failR ts r, acc), ?_⟩
       conv => whnf
       repeat (refine And.intro ?_ ?_; (focus (first | rfl | (simp; done))); conv => whnf)
       exact ⟨⟨f1, f2, f3, f4⟩, by simp only [cond_false]; omega⟩
     ·by_cases hk2 : ts[r.at_].kind = 2
      ·cases hc : isCodeB ts[r.at_].text with
       | true =>
        have hg2 := hyes (by simp [hk2, hc])
        repeat (first | (refine yes_br ?_ (fun _ => ?_); (focus (simp; omega; done)); conv => whnf) | (refine no_br ?_ (fun _ => ?_); (focus (simp; omega; done)); conv => whnf) | (refine ⟨by omega, tokA ts[r.at_], (by exact toks_get ts _ hlt), ?_⟩; conv => whnf) | (refine yes_br ?_ (fun _ => ?_); (focus (simp [hk1]; done)); conv => whnf) | (refine no_br ?_ (fun _ => ?_); (focus (simp [hk1]; done)); conv => whnf) | (refine yes_br ?_ (fun _ => ?_); (focus (simp [hk2]; done)); conv => whnf) | (refine no_br ?_ (fun _ => ?_); (focus (simp [hk2]; done)); conv => whnf) | (refine ⟨_, ⟨rCode_spec ts[r.at_].text (by omega), rfl⟩, ?_⟩; conv => whnf) | (refine no_br ?_ (fun _ => ?_); (focus (simp [hc]; done)); conv => whnf) | (refine yes_br ?_ (fun _ => ?_); (focus (simp [hc]; done)); conv => whnf) | refine ACode.seq ?_ | (refine ACode.s_reg tys_ok ?_; conv => whnf) | refine ACode.s_block ?_ | refine ACode.s_scope ?_ | (refine ACode.s_cond ?_; conv => whnf) | (refine ACode.s_exit ?_; conv => whnf) | (refine ACode.s_ret ?_; conv => whnf) | (refine ACode.s_skip ?_; conv => whnf) | (refine ACode.s_label ?_; conv => whnf))
        refine ACode.drawI [] [14, 16] tys_ok (by kernel_rfl) (by kernel_rfl) ?_
        conv => whnf
        repeat (first | (refine ⟨by omega, tokA ts[r.at_], (by exact toks_get ts _ hlt), ?_⟩; conv => whnf) | refine ACode.seq ?_ | (refine ACode.s_reg tys_ok ?_; conv => whnf) | refine ACode.s_block ?_ | refine ACode.s_scope ?_ | (refine ACode.s_cond ?_; conv => whnf) | (refine ACode.s_exit ?_; conv => whnf) | (refine ACode.s_ret ?_; conv => whnf) | (refine ACode.s_skip ?_; conv => whnf) | (refine ACode.s_label ?_; conv => whnf))
        refine ⟨rfl, ?_⟩
        conv => whnf
        refine ⟨⟨by simp [strs], by simp [strs]; omega⟩, ?_⟩
        conv => whnf
        repeat (first | refine ACode.seq ?_ | (refine ACode.s_reg tys_ok ?_; conv => whnf) | refine ACode.s_block ?_ | refine ACode.s_scope ?_ | (refine ACode.s_cond ?_; conv => whnf) | (refine ACode.s_exit ?_; conv => whnf) | (refine ACode.s_ret ?_; conv => whnf) | (refine ACode.s_skip ?_; conv => whnf) | (refine ACode.s_label ?_; conv => whnf))
        refine ⟨(false, g', r.on, acc ++ [ts[r.at_].text]), ?_⟩
        conv => whnf
        repeat (refine And.intro ?_ ?_; (focus (first | rfl | (simp; done) | ((first | (rw [ew]; rfl) | (simp [strs, NQ, ew, Rs.on])); done))); conv => whnf)
        exact ⟨⟨by simp only [Rs.on]; omega, by simp [Rs.on]; omega, fun _ => by simp only [Rs.on]; omega, hp.trans (RM.bind_eq hg2)⟩, by simp only [cond_false]; omega⟩
       | false =>
        have hg2 := hno (by simp [hk2, hc])
        repeat (first | (refine yes_br ?_ (fun _ => ?_); (focus (simp; omega; done)); conv => whnf) | (refine no_br ?_ (fun _ => ?_); (focus (simp; omega; done)); conv => whnf) | (refine ⟨by omega, tokA ts[r.at_], (by exact toks_get ts _ hlt), ?_⟩; conv => whnf) | (refine yes_br ?_ (fun _ => ?_); (focus (simp [hk1]; done)); conv => whnf) | (refine no_br ?_ (fun _ => ?_); (focus (simp [hk1]; done)); conv => whnf) | (refine yes_br ?_ (fun _ => ?_); (focus (simp [hk2]; done)); conv => whnf) | (refine no_br ?_ (fun _ => ?_); (focus (simp [hk2]; done)); conv => whnf) | (refine ⟨_, ⟨rCode_spec ts[r.at_].text (by omega), rfl⟩, ?_⟩; conv => whnf) | (refine no_br ?_ (fun _ => ?_); (focus (simp [hc]; done)); conv => whnf) | (refine yes_br ?_ (fun _ => ?_); (focus (simp [hc]; done)); conv => whnf) | refine ACode.seq ?_ | (refine ACode.s_reg tys_ok ?_; conv => whnf) | refine ACode.s_block ?_ | refine ACode.s_scope ?_ | (refine ACode.s_cond ?_; conv => whnf) | (refine ACode.s_exit ?_; conv => whnf) | (refine ACode.s_ret ?_; conv => whnf) | (refine ACode.s_skip ?_; conv => whnf) | (refine ACode.s_label ?_; conv => whnf))
        refine ACall.of_r r (fail_r hl) hr rfl ?_
        (conv => whnf)
        repeat (first | refine ACode.seq ?_ | (refine ACode.s_reg tys_ok ?_; conv => whnf) | refine ACode.s_block ?_ | refine ACode.s_scope ?_ | (refine ACode.s_cond ?_; conv => whnf) | (refine ACode.s_exit ?_; conv => whnf) | (refine ACode.s_ret ?_; conv => whnf) | (refine ACode.s_skip ?_; conv => whnf) | (refine ACode.s_label ?_; conv => whnf))
        obtain ⟨j, rfl, f1, f2, f3, f4⟩ := hfin hg2
        refine ⟨(false, g', failR ts r, acc), ?_⟩
        conv => whnf
        repeat (refine And.intro ?_ ?_; (focus (first | rfl | (simp; done))); conv => whnf)
        exact ⟨⟨f1, f2, f3, f4⟩, by simp only [cond_false]; omega⟩
      ·have hg2 := hno (by simp [hk1, hk2])
       repeat (first | (refine yes_br ?_ (fun _ => ?_); (focus (simp; omega; done)); conv => whnf) | (refine no_br ?_ (fun _ => ?_); (focus (simp; omega; done)); conv => whnf) | (refine ⟨by omega, tokA ts[r.at_], (by exact toks_get ts _ hlt), ?_⟩; conv => whnf) | (refine yes_br ?_ (fun _ => ?_); (focus (simp [hk1]; done)); conv => whnf) | (refine no_br ?_ (fun _ => ?_); (focus (simp [hk1]; done)); conv => whnf) | (refine yes_br ?_ (fun _ => ?_); (focus (simp [hk2]; done)); conv => whnf) | (refine no_br ?_ (fun _ => ?_); (focus (simp [hk2]; done)); conv => whnf) | refine ACode.seq ?_ | (refine ACode.s_reg tys_ok ?_; conv => whnf) | refine ACode.s_block ?_ | refine ACode.s_scope ?_ | (refine ACode.s_cond ?_; conv => whnf) | (refine ACode.s_exit ?_; conv => whnf) | (refine ACode.s_ret ?_; conv => whnf) | (refine ACode.s_skip ?_; conv => whnf) | (refine ACode.s_label ?_; conv => whnf))
       refine ACall.of_r r (fail_r hl) hr rfl ?_
       (conv => whnf)
       repeat (first | refine ACode.seq ?_ | (refine ACode.s_reg tys_ok ?_; conv => whnf) | refine ACode.s_block ?_ | refine ACode.s_scope ?_ | (refine ACode.s_cond ?_; conv => whnf) | (refine ACode.s_exit ?_; conv => whnf) | (refine ACode.s_ret ?_; conv => whnf) | (refine ACode.s_skip ?_; conv => whnf) | (refine ACode.s_label ?_; conv => whnf))
       obtain ⟨j, rfl, f1, f2, f3, f4⟩ := hfin hg2
       refine ⟨(false, g', failR ts r, acc), ?_⟩
       conv => whnf
       repeat (refine And.intro ?_ ?_; (focus (first | rfl | (simp; done))); conv => whnf)
       exact ⟨⟨f1, f2, f3, f4⟩, by simp only [cond_false]; omega⟩
    ·have hg2 : codeR ts r = ([], failR ts r) := item_no fun ⟨_, q, _⟩ => hlt q
     repeat (first | (refine yes_br ?_ (fun _ => ?_); (focus (simp; omega; done)); conv => whnf) | (refine no_br ?_ (fun _ => ?_); (focus (simp; omega; done)); conv => whnf) | refine ACode.seq ?_ | (refine ACode.s_reg tys_ok ?_; conv => whnf) | refine ACode.s_block ?_ | refine ACode.s_scope ?_ | (refine ACode.s_cond ?_; conv => whnf) | (refine ACode.s_exit ?_; conv => whnf) | (refine ACode.s_ret ?_; conv => whnf) | (refine ACode.s_skip ?_; conv => whnf) | (refine ACode.s_label ?_; conv => whnf))
     refine ACall.of_r r (fail_r hl) hr rfl ?_
     (conv => whnf)
     repeat (first | refine ACode.seq ?_ | (refine ACode.s_reg tys_ok ?_; conv => whnf) | refine ACode.s_block ?_ | refine ACode.s_scope ?_ | (refine ACode.s_cond ?_; conv => whnf) | (refine ACode.s_exit ?_; conv => whnf) | (refine ACode.s_ret ?_; conv => whnf) | (refine ACode.s_skip ?_; conv => whnf) | (refine ACode.s_label ?_; conv => whnf))
     obtain ⟨j, rfl, f1, f2, f3, f4⟩ := hfin hg2
     refine ⟨(false, g', failR ts r, acc), ?_⟩
     conv => whnf
     repeat (refine And.intro ?_ ?_; (focus (first | rfl | (simp; done))); conv => whnf)
     exact ⟨⟨f1, f2, f3, f4⟩, by simp only [cond_false]; omega⟩
end
end Go.Proofs.YtmhlneeboefkgaaGreatDoor
