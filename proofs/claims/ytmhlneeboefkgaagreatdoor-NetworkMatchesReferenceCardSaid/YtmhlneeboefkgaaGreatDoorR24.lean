import Derived.Test.YtmhlneeboefkgaaGreatDoorR23
import Derived.Test.YtmhlneeboefkgaaGreatDoorKf
set_option linter.unusedVariables false
set_option linter.unusedSimpArgs false
namespace Go.Proofs.YtmhlneeboefkgaaGreatDoor
open Go.Av Go.Av.Net Pl
set_option maxRecDepth 20000 in
set_option maxHeartbeats 40000000 in
theorem rparse_spec (s : Bs) (hs : s.length ≤ 9223372036854775807) : Ctr Tryz.prog 6 [.str s] (fun r => r = resP0 (parseP s)) := by
 refine Ctr.of_body Tryz.func6 rfl tys_ok (by kernel_rfl) ?_
 conv => whnf
 repeat (first | refine ACode.seq ?_ | (refine ACode.s_reg tys_ok ?_; conv => whnf) | refine ACode.s_block ?_ | refine ACode.s_scope ?_ | (refine ACode.s_cond ?_; conv => whnf) | (refine ACode.s_exit ?_; conv => whnf) | (refine ACode.s_ret ?_; conv => whnf) | (refine ACode.s_skip ?_; conv => whnf) | (refine ACode.s_label ?_; conv => whnf))
 refine ACall.of_spec (rLex_spec s hs) rfl fun r hr => ?_
 subst hr
 conv => whnf
 repeat (first | refine ACode.seq ?_ | (refine ACode.s_reg tys_ok ?_; conv => whnf) | refine ACode.s_block ?_ | refine ACode.s_scope ?_ | (refine ACode.s_cond ?_; conv => whnf) | (refine ACode.s_exit ?_; conv => whnf) | (refine ACode.s_ret ?_; conv => whnf) | (refine ACode.s_skip ?_; conv => whnf) | (refine ACode.s_label ?_; conv => whnf))
 cases hL : lexP s with
 | err e q =>
  obtain ⟨h1, h2⟩ := lexP_err hL
  have hP : parseP s = .err e q := by unfold parseP; rw [hL]
  have he : ¬ e = 0 := by rcases h2 with rfl | rfl <;> simp
  rw [hP]
  conv => whnf
  repeat (first | refine ACode.seq ?_ | (refine ACode.s_reg tys_ok ?_; conv => whnf) | refine ACode.s_block ?_ | refine ACode.s_scope ?_ | (refine ACode.s_cond ?_; conv => whnf) | (refine ACode.s_exit ?_; conv => whnf) | (refine ACode.s_ret ?_; conv => whnf) | (refine ACode.s_skip ?_; conv => whnf) | (refine ACode.s_label ?_; conv => whnf))
  repeat (first | (refine yes_br ?_ (fun _ => ?_); (focus (simp [he]; done)); conv => whnf) | (refine no_br ?_ (fun _ => ?_); (focus (simp [he]; done)); conv => whnf) | refine ACode.seq ?_ | (refine ACode.s_reg tys_ok ?_; conv => whnf) | refine ACode.s_block ?_ | refine ACode.s_scope ?_ | (refine ACode.s_cond ?_; conv => whnf) | (refine ACode.s_exit ?_; conv => whnf) | (refine ACode.s_ret ?_; conv => whnf) | (refine ACode.s_skip ?_; conv => whnf) | (refine ACode.s_label ?_; conv => whnf))
  refine ⟨3, ?_⟩
  (conv => whnf)
  refine ⟨1, ?_⟩
  (conv => whnf)
  refine ⟨1, ?_⟩
  (conv => whnf)
  refine ⟨7, ?_⟩
  (conv => whnf)
  refine ⟨6, ?_⟩
  (conv => whnf)
  refine ⟨3, ?_⟩
  rfl
 | ok ts =>
  obtain ⟨ht, h8, hpos⟩ := lexP_ok hL
  have hl := ht.len
  have hP := parse_R hL
  have hpl := parse_Rplace hL
  rw [hP]
  obtain ⟨r, hr0⟩ : ∃ r : Rs, r = ⟨0, 0, 0⟩ := ⟨_, rfl⟩
  rw [← hr0] at hpl ⊢
  generalize hp : netR ts r = p at hpl ⊢
  replace hp := hp.symm
  unfold netR at hp
  conv => whnf
  repeat (first | refine ACode.seq ?_ | (refine ACode.s_reg tys_ok ?_; conv => whnf) | refine ACode.s_block ?_ | refine ACode.s_scope ?_ | (refine ACode.s_cond ?_; conv => whnf) | (refine ACode.s_exit ?_; conv => whnf) | (refine ACode.s_ret ?_; conv => whnf) | (refine ACode.s_skip ?_; conv => whnf) | (refine ACode.s_label ?_; conv => whnf))
  repeat (first | (refine yes_br ?_ (fun _ => ?_); (focus (simp; done)); conv => whnf) | (refine no_br ?_ (fun _ => ?_); (focus (simp; done)); conv => whnf) | refine ACode.seq ?_ | (refine ACode.s_reg tys_ok ?_; conv => whnf) | refine ACode.s_block ?_ | refine ACode.s_scope ?_ | (refine ACode.s_cond ?_; conv => whnf) | (refine ACode.s_exit ?_; conv => whnf) | (refine ACode.s_ret ?_; conv => whnf) | (refine ACode.s_skip ?_; conv => whnf) | (refine ACode.s_label ?_; conv => whnf))
  refine ACode.nilCell 2 0 43 3 rfl rfl ?_
  refine ACode.nilCell 2 1 9 1 rfl rfl ?_
  obtain ⟨R, hR, hp⟩ : ∃ R : Nw → RM Nw, R = _ ∧ p = ((secR ts w_calendar (calW ts) ts.length nw0).bind R) r := ⟨_, rfl, hp⟩
  refine ACode.loopD (fun x : Nat × Rs × List Cal × List Bs => mk 96 [(0, .str s), (2, .ptr 0 0), (5, .sl 3 (toksA ts)), (8, .ptr 1 0), (9, .ptr 2 0)]) (fun x => .cells net0 :: rC ts x.2.1 :: .cells (calCs x.2.2.1.length x.2.2.2.length) :: calH x.2.2.1 x.2.2.2)
   (fun x => p = ((secR ts w_calendar (calW ts) x.1 ⟨x.2.2.1, x.2.2.2, [], [], [], []⟩).bind R) x.2.1 ∧ x.2.1.at_ ≤ ts.length ∧ (x.2.1.err = 0 → ts.length ≤ x.2.1.at_ + x.1) ∧ x.2.2.1.length + x.1 = ts.length ∧ x.2.2.2.length + x.1 = ts.length) (fun x => x.1)
   (fun x hx => ⟨rfl, ?_⟩) ⟨(ts.length, r, [], []), ?_⟩ (fun _ => rfl) fun x hx => ?_
  ·(conv => whnf)
   refine ⟨rfl, ?_⟩
   (conv => whnf)
   refine ⟨rfl, ?_⟩
   (conv => whnf)
   refine ⟨rfl, ?_⟩
   (conv => whnf)
   refine ⟨closed_map _ (fun _ => rfl) _, ?_⟩
   (conv => whnf)
   exact ⟨closed_map _ (fun _ => rfl) _, trivial⟩
  ·conv => whnf
   repeat (refine And.intro ?_ ?_; (focus (first | rfl | (simp; done))); conv => whnf)
   exact ⟨by rw [hr0]; rfl, hp, by rw [hr0]; exact Nat.zero_le _, fun _ => Nat.le_add_left _ _, Nat.zero_add _, Nat.zero_add _⟩
  ·obtain ⟨f, r, cals, names⟩ := x
   obtain ⟨hp, hr, hf, hc1, hc2⟩ := hx
   simp only at hp hr hf hc1 hc2
   repeat (first | refine ACode.seq ?_ | (refine ACode.s_reg tys_ok ?_; conv => whnf) | refine ACode.s_block ?_ | refine ACode.s_scope ?_ | (refine ACode.s_cond ?_; conv => whnf) | (refine ACode.s_exit ?_; conv => whnf) | (refine ACode.s_ret ?_; conv => whnf) | (refine ACode.s_skip ?_; conv => whnf) | (refine ACode.s_label ?_; conv => whnf))
   refine ACall.of_r r (sees_r 1 w_calendar) hr rfl ?_
   (conv => whnf)
   repeat (first | refine ACode.seq ?_ | (refine ACode.s_reg tys_ok ?_; conv => whnf) | refine ACode.s_block ?_ | refine ACode.s_scope ?_ | (refine ACode.s_cond ?_; conv => whnf) | (refine ACode.s_exit ?_; conv => whnf) | (refine ACode.s_ret ?_; conv => whnf) | (refine ACode.s_skip ?_; conv => whnf) | (refine ACode.s_label ?_; conv => whnf))
   cases hs1 : seesR ts 1 w_calendar r with
   | true =>
    have h1 := sees_le (seesR_on hs1).2
    have h3 := hf (seesR_on hs1).1
    obtain ⟨f, rfl⟩ : ∃ k, f = k + 1 := ⟨f - 1, by omega⟩
    obtain ⟨a1, a2⟩ := adv_cal hs1
    replace hp := hp.trans (secR_yes hs1 (show calW ts _ r = (⟨cals ++ [(calR ts r).1.2], names ++ [(calR ts r).1.1], [], [], [], []⟩, (calR ts r).2) from rfl))
    repeat (first | (refine no_br ?_ (fun _ => ?_); (focus (simp; done)); conv => whnf) | (refine yes_br ?_ (fun _ => ?_); (focus (simp; done)); conv => whnf) | refine ACode.seq ?_ | (refine ACode.s_reg tys_ok ?_; conv => whnf) | refine ACode.s_block ?_ | refine ACode.s_scope ?_ | (refine ACode.s_cond ?_; conv => whnf) | (refine ACode.s_exit ?_; conv => whnf) | (refine ACode.s_ret ?_; conv => whnf) | (refine ACode.s_skip ?_; conv => whnf) | (refine ACode.s_label ?_; conv => whnf))
    refine ACall.of_h (calendar_r ht cals names r hr (by omega) (by omega)) rfl (by (conv => whnf); exact ⟨rfl, rfl, rfl, rfl, rfl, closed_map _ (fun _ => rfl) _, rfl, closed_map _ (fun _ => rfl) _, trivial⟩) ?_ (fun _ _ q => q.elim)
    rintro v H1 ⟨rfl, rfl⟩
    conv => whnf
    repeat (first | refine ACode.seq ?_ | (refine ACode.s_reg tys_ok ?_; conv => whnf) | refine ACode.s_block ?_ | refine ACode.s_scope ?_ | (refine ACode.s_cond ?_; conv => whnf) | (refine ACode.s_exit ?_; conv => whnf) | (refine ACode.s_ret ?_; conv => whnf) | (refine ACode.s_skip ?_; conv => whnf) | (refine ACode.s_label ?_; conv => whnf))
    refine ⟨(f, (calR ts r).2, cals ++ [(calR ts r).1.2], names ++ [(calR ts r).1.1]), ?_⟩
    conv => whnf
    repeat (refine And.intro ?_ ?_; (focus (first | rfl | (simp; done))); conv => whnf)
    exact ⟨⟨hp, a2, fun _ => by simp only; omega, by simp; omega, by simp; omega⟩, Nat.lt_succ_self _⟩
   | false =>
    have hp := hp.trans (RM.bind_eq (secR_no hs1))
    rw [hR] at hp
    clear hR
    repeat (first | (refine no_br ?_ (fun _ => ?_); (focus (simp; done)); conv => whnf) | (refine yes_br ?_ (fun _ => ?_); (focus (simp; done)); conv => whnf) | refine ACode.seq ?_ | (refine ACode.s_reg tys_ok ?_; conv => whnf) | refine ACode.s_block ?_ | refine ACode.s_scope ?_ | (refine ACode.s_cond ?_; conv => whnf) | (refine ACode.s_exit ?_; conv => whnf) | (refine ACode.s_ret ?_; conv => whnf) | (refine ACode.s_skip ?_; conv => whnf) | (refine ACode.s_label ?_; conv => whnf))
    refine ACode.freeze 3 ?_
    conv => whnf
    refine ⟨closed_map _ (fun _ => rfl) _, ?_⟩
    conv => whnf
    repeat (refine ⟨(by first | rfl | (simp; done) : (_ : Nat) = _), ?_⟩; conv => whnf)
    refine ACode.freeze 4 ?_
    conv => whnf
    refine ⟨closed_map _ (fun _ => rfl) _, ?_⟩
    conv => whnf
    repeat (refine ⟨(by first | rfl | (simp; done) : (_ : Nat) = _), ?_⟩; conv => whnf)
    refine ACode.nilCell 2 2 65 1 rfl rfl ?_
    obtain ⟨R, hR, hp⟩ : ∃ R : Nw → RM Nw, R = _ ∧ p = ((secR ts w_operator (operW ts) ts.length ⟨cals, names, [], [], [], []⟩).bind R) r := ⟨_, rfl, hp⟩
    have hcl : cals.length ≤ 3000 ∧ names.length ≤ 3000 := by omega
    clear hf hc1 hc2 hs1
    refine ACode.loopD (fun x : Nat × Rs × List Bs => mk 96 [(0, .str s), (2, .ptr 0 0), (5, .sl 3 (toksA ts)), (8, .ptr 1 0), (9, .ptr 2 0)]) (fun x => [.cells net0, rC ts x.2.1, .cells [.sl 3 (cals.map calA), .sl 1 (strs names), .own 5 1 0 x.2.2.length, nilA, nilA, nilA], .dead, .dead, .arr 65 1 (x.2.2.map operA)])
     (fun x => p = ((secR ts w_operator (operW ts) x.1 ⟨cals, names, x.2.2, [], [], []⟩).bind R) x.2.1 ∧ x.2.1.at_ ≤ ts.length ∧ (x.2.1.err = 0 → ts.length ≤ x.2.1.at_ + x.1) ∧ x.2.2.length + x.1 = ts.length) (fun x => x.1)
     (fun x hx => ⟨rfl, ?_⟩) ⟨(ts.length, r, []), ?_⟩ (fun _ => rfl) fun x hx => ?_
    ·(conv => whnf)
     refine ⟨rfl, ?_⟩
     (conv => whnf)
     refine ⟨rfl, ?_⟩
     (conv => whnf)
     refine ⟨rfl, ?_⟩
     (conv => whnf)
     exact ⟨closed_map _ (fun _ => rfl) _, trivial⟩
    ·conv => whnf
     repeat (refine And.intro ?_ ?_; (focus (first | rfl | (simp; done))); conv => whnf)
     exact ⟨hp, hr, fun _ => Nat.le_add_left _ _, Nat.zero_add _⟩
    ·obtain ⟨f, r, opers⟩ := x
     obtain ⟨hp, hr, hf, hc1⟩ := hx
     simp only at hp hr hf hc1
     repeat (first | refine ACode.seq ?_ | (refine ACode.s_reg tys_ok ?_; conv => whnf) | refine ACode.s_block ?_ | refine ACode.s_scope ?_ | (refine ACode.s_cond ?_; conv => whnf) | (refine ACode.s_exit ?_; conv => whnf) | (refine ACode.s_ret ?_; conv => whnf) | (refine ACode.s_skip ?_; conv => whnf) | (refine ACode.s_label ?_; conv => whnf))
     refine ACall.of_r r (sees_r 1 w_operator) hr rfl ?_
     (conv => whnf)
     repeat (first | refine ACode.seq ?_ | (refine ACode.s_reg tys_ok ?_; conv => whnf) | refine ACode.s_block ?_ | refine ACode.s_scope ?_ | (refine ACode.s_cond ?_; conv => whnf) | (refine ACode.s_exit ?_; conv => whnf) | (refine ACode.s_ret ?_; conv => whnf) | (refine ACode.s_skip ?_; conv => whnf) | (refine ACode.s_label ?_; conv => whnf))
     cases hs1 : seesR ts 1 w_operator r with
     | true =>
      have h1 := sees_le (seesR_on hs1).2
      have h2 := on_at hs1
      have h3 := hf (seesR_on hs1).1
      have ew : Wr .i64 ((r.at_ : Int) + 1) = ((r.at_ + 1 : Nat) : Int) := by rw [Wr64 _ (by omega) (by omega)]; omega
      obtain ⟨f, rfl⟩ : ∃ k, f = k + 1 := ⟨f - 1, by omega⟩
      obtain ⟨a1, a2⟩ := adv_oper hs1
      replace hp := hp.trans (secR_yes hs1 (show operW ts _ r = (⟨cals, names, opers ++ [(operR ts r).1], [], [], []⟩, (operR ts r).2) from rfl))
      repeat (first | (refine no_br ?_ (fun _ => ?_); (focus (simp; done)); conv => whnf) | (refine yes_br ?_ (fun _ => ?_); (focus (simp; done)); conv => whnf) | refine ACode.seq ?_ | (refine ACode.s_reg tys_ok ?_; conv => whnf) | refine ACode.s_block ?_ | refine ACode.s_scope ?_ | (refine ACode.s_cond ?_; conv => whnf) | (refine ACode.s_exit ?_; conv => whnf) | (refine ACode.s_ret ?_; conv => whnf) | (refine ACode.s_skip ?_; conv => whnf) | (refine ACode.s_label ?_; conv => whnf))
      rw [ew]
      refine ACode.drawAll (.one 0 (.one 1 (.one 2 (.one 3 (.one 4 (.one 5 (.one 6 (.one 7 (.one 8 .done .none) .none) .none) .none) .none) .none) .none) (.one 2 (.one 1 (.one 3 (.one 4 (.one 5 (.one 6 (.one 7 (.one 8 .done .none) .none) .none) .none) .none) .none) (.one 3 (.one 1 (.one 4 (.one 5 (.one 6 (.one 7 (.one 8 .done .none) .none) .none) .none) .none) (.one 4 (.one 1 (.one 5 (.one 6 (.one 7 (.one 8 .done .none) .none) .none) .none) (.one 5 (.one 1 (.one 6 (.one 7 (.one 8 .done .none) .none) .none) .none) .none)) .none)) .none)) .none)) (.one 2 (.one 0 (.one 1 (.one 3 (.one 4 (.one 5 (.one 6 (.one 7 (.one 8 .done .none) .none) .none) .none) .none) .none) (.one 3 (.one 1 (.one 4 (.one 5 (.one 6 (.one 7 (.one 8 .done .none) .none) .none) .none) .none) (.one 4 (.one 1 (.one 5 (.one 6 (.one 7 (.one 8 .done .none) .none) .none) .none) (.one 5 (.one 1 (.one 6 (.one 7 (.one 8 .done .none) .none) .none) .none) .none)) .none)) .none)) (.one 3 (.one 0 (.one 1 (.one 4 (.one 5 (.one 6 (.one 7 (.one 8 .done .none) .none) .none) .none) .none) (.one 4 (.one 1 (.one 5 (.one 6 (.one 7 (.one 8 .done .none) .none) .none) .none) (.one 5 (.one 1 (.one 6 (.one 7 (.one 8 .done .none) .none) .none) .none) .none)) .none)) (.one 4 (.one 0 (.one 1 (.one 5 (.one 6 (.one 7 (.one 8 .done .none) .none) .none) .none) (.one 5 (.one 1 (.one 6 (.one 7 (.one 8 .done .none) .none) .none) .none) .none)) (.one 5 (.one 0 (.one 1 (.one 6 (.one 7 (.one 8 .done .none) .none) .none) .none) .none) .none)) .none)) .none)) .none)) tys_ok (by kernel_rfl) (by kernel_rfl) ?_
      repeat' (first | exact True.intro | (refine EnF.step ?_; conv => whnf) | (refine And.intro ?_ ?_ <;> conv => whnf) | (refine ACall.of_rq (r := r.on) (name_r ht) at_name h2 rfl (fun name r2 hq hr2 => ?_); conv => whnf) | (show (_ : Nat) = _; first | rfl | (simp; done) | (simp; omega)) | (show (_ : Nat) ≤ _; simp; omega))
      all_goals (
       repeat (first | refine ACode.seq ?_ | (refine ACode.s_reg tys_ok ?_; conv => whnf) | refine ACode.s_block ?_ | refine ACode.s_scope ?_ | (refine ACode.s_cond ?_; conv => whnf) | (refine ACode.s_exit ?_; conv => whnf) | (refine ACode.s_ret ?_; conv => whnf) | (refine ACode.s_skip ?_; conv => whnf) | (refine ACode.s_label ?_; conv => whnf))
       refine ACall.of_rq (sign_r hl s_semi) (at_exp _ _) hr2 rfl (fun _ r3 hq3 hr3 => ?_)
       have hop : operR ts r = (name, r3) := by unfold operR RM.bind RM.ret; rw [hq]; simp only; rw [hq3]
       rw [hop] at hp a1 a2
       (conv => whnf)
       repeat (first | refine ACode.seq ?_ | (refine ACode.s_reg tys_ok ?_; conv => whnf) | refine ACode.s_block ?_ | refine ACode.s_scope ?_ | (refine ACode.s_cond ?_; conv => whnf) | (refine ACode.s_exit ?_; conv => whnf) | (refine ACode.s_ret ?_; conv => whnf) | (refine ACode.s_skip ?_; conv => whnf) | (refine ACode.s_label ?_; conv => whnf))
       refine ⟨(f, r3, opers ++ [name]), ?_⟩
       conv => whnf
       repeat (refine And.intro ?_ ?_; (focus (first | rfl | (simp; done) | (simp [operA, nilA]; done))); conv => whnf)
       exact ⟨⟨hp, a2, fun _ => by simp only at a1 ⊢; omega, by simp; omega⟩, Nat.lt_succ_self _⟩)
     | false =>
      have hp := hp.trans (RM.bind_eq (secR_no hs1))
      rw [hR] at hp
      clear hR
      repeat (first | (refine no_br ?_ (fun _ => ?_); (focus (simp; done)); conv => whnf) | (refine yes_br ?_ (fun _ => ?_); (focus (simp; done)); conv => whnf) | refine ACode.seq ?_ | (refine ACode.s_reg tys_ok ?_; conv => whnf) | refine ACode.s_block ?_ | refine ACode.s_scope ?_ | (refine ACode.s_cond ?_; conv => whnf) | (refine ACode.s_exit ?_; conv => whnf) | (refine ACode.s_ret ?_; conv => whnf) | (refine ACode.s_skip ?_; conv => whnf) | (refine ACode.s_label ?_; conv => whnf))
      refine ACode.freeze 5 ?_
      conv => whnf
      refine ⟨closed_map _ (fun _ => rfl) _, ?_⟩
      conv => whnf
      repeat (refine ⟨(by first | rfl | (simp; done) : (_ : Nat) = _), ?_⟩; conv => whnf)
      refine ACode.nilCell 2 3 45 7 rfl rfl ?_
      obtain ⟨R, hR, hp⟩ : ∃ R : Nw → RM Nw, R = _ ∧ p = ((secR ts w_office (offW ts) ts.length ⟨cals, names, opers, [], [], []⟩).bind R) r := ⟨_, rfl, hp⟩
      have hol : opers.length ≤ 3000 := by omega
      clear hf hc1 hs1
      refine ACode.loopD (fun x : Nat × Rs × List Off => mk 96 [(0, .str s), (2, .ptr 0 0), (5, .sl 3 (toksA ts)), (8, .ptr 1 0), (9, .ptr 2 0)]) (fun x => .cells net0 :: rC ts x.2.1 :: .cells (offCs ⟨cals, names, opers, x.2.2, [], []⟩ x.2.2.length) :: offH ⟨cals, names, opers, x.2.2, [], []⟩ x.2.2)
       (fun x => p = ((secR ts w_office (offW ts) x.1 ⟨cals, names, opers, x.2.2, [], []⟩).bind R) x.2.1 ∧ x.2.1.at_ ≤ ts.length ∧ (x.2.1.err = 0 → ts.length ≤ x.2.1.at_ + x.1) ∧ x.2.2.length + x.1 = ts.length) (fun x => x.1)
       (fun x hx => ⟨rfl, ?_⟩) ⟨(ts.length, r, []), ?_⟩ (fun _ => rfl) fun x hx => ?_
      ·(conv => whnf)
       refine ⟨rfl, ?_⟩
       (conv => whnf)
       refine ⟨rfl, ?_⟩
       (conv => whnf)
       refine ⟨rfl, ?_⟩
       (conv => whnf)
       exact ⟨closed_map _ (fun _ => rfl) _, trivial⟩
      ·conv => whnf
       repeat (refine And.intro ?_ ?_; (focus (first | rfl | (simp; done))); conv => whnf)
       exact ⟨hp, hr, fun _ => Nat.le_add_left _ _, Nat.zero_add _⟩
      ·obtain ⟨f, r, offs⟩ := x
       obtain ⟨hp, hr, hf, hc1⟩ := hx
       simp only at hp hr hf hc1
       repeat (first | refine ACode.seq ?_ | (refine ACode.s_reg tys_ok ?_; conv => whnf) | refine ACode.s_block ?_ | refine ACode.s_scope ?_ | (refine ACode.s_cond ?_; conv => whnf) | (refine ACode.s_exit ?_; conv => whnf) | (refine ACode.s_ret ?_; conv => whnf) | (refine ACode.s_skip ?_; conv => whnf) | (refine ACode.s_label ?_; conv => whnf))
       refine ACall.of_r r (sees_r 1 w_office) hr rfl ?_
       (conv => whnf)
       repeat (first | refine ACode.seq ?_ | (refine ACode.s_reg tys_ok ?_; conv => whnf) | refine ACode.s_block ?_ | refine ACode.s_scope ?_ | (refine ACode.s_cond ?_; conv => whnf) | (refine ACode.s_exit ?_; conv => whnf) | (refine ACode.s_ret ?_; conv => whnf) | (refine ACode.s_skip ?_; conv => whnf) | (refine ACode.s_label ?_; conv => whnf))
       cases hs1 : seesR ts 1 w_office r with
       | true =>
        have h1 := sees_le (seesR_on hs1).2
        have h3 := hf (seesR_on hs1).1
        obtain ⟨f, rfl⟩ : ∃ k, f = k + 1 := ⟨f - 1, by omega⟩
        obtain ⟨a1, a2⟩ := adv_off ⟨cals, names, opers, offs, [], []⟩ hs1
        replace hp := hp.trans (secR_yes hs1 (show offW ts _ r = (⟨cals, names, opers, offs ++ [(offR ts ⟨cals, names, opers, offs, [], []⟩ r).1], [], []⟩, (offR ts ⟨cals, names, opers, offs, [], []⟩ r).2) from rfl))
        repeat (first | (refine no_br ?_ (fun _ => ?_); (focus (simp; done)); conv => whnf) | (refine yes_br ?_ (fun _ => ?_); (focus (simp; done)); conv => whnf) | refine ACode.seq ?_ | (refine ACode.s_reg tys_ok ?_; conv => whnf) | refine ACode.s_block ?_ | refine ACode.s_scope ?_ | (refine ACode.s_cond ?_; conv => whnf) | (refine ACode.s_exit ?_; conv => whnf) | (refine ACode.s_ret ?_; conv => whnf) | (refine ACode.s_skip ?_; conv => whnf) | (refine ACode.s_label ?_; conv => whnf))
        refine ACall.of_h (office_r ht ⟨cals, names, opers, offs, [], []⟩ r hr (by simp only; omega) (by simp only; omega) (by simp only; omega)) rfl (by (conv => whnf); exact ⟨rfl, rfl, rfl, rfl, rfl, closed_map _ (fun _ => rfl) _, trivial⟩) ?_ (fun _ _ q => q.elim)
        rintro v H1 ⟨rfl, rfl⟩
        conv => whnf
        repeat (first | refine ACode.seq ?_ | (refine ACode.s_reg tys_ok ?_; conv => whnf) | refine ACode.s_block ?_ | refine ACode.s_scope ?_ | (refine ACode.s_cond ?_; conv => whnf) | (refine ACode.s_exit ?_; conv => whnf) | (refine ACode.s_ret ?_; conv => whnf) | (refine ACode.s_skip ?_; conv => whnf) | (refine ACode.s_label ?_; conv => whnf))
        refine ⟨(f, (offR ts ⟨cals, names, opers, offs, [], []⟩ r).2, offs ++ [(offR ts ⟨cals, names, opers, offs, [], []⟩ r).1]), ?_⟩
        conv => whnf
        repeat (refine And.intro ?_ ?_; (focus (first | rfl | (simp; done))); conv => whnf)
        exact ⟨⟨hp, a2, fun _ => by simp only; omega, by simp; omega⟩, Nat.lt_succ_self _⟩
       | false =>
        have hp := hp.trans (RM.bind_eq (secR_no hs1))
        rw [hR] at hp
        clear hR
        repeat (first | (refine no_br ?_ (fun _ => ?_); (focus (simp; done)); conv => whnf) | (refine yes_br ?_ (fun _ => ?_); (focus (simp; done)); conv => whnf) | refine ACode.seq ?_ | (refine ACode.s_reg tys_ok ?_; conv => whnf) | refine ACode.s_block ?_ | refine ACode.s_scope ?_ | (refine ACode.s_cond ?_; conv => whnf) | (refine ACode.s_exit ?_; conv => whnf) | (refine ACode.s_ret ?_; conv => whnf) | (refine ACode.s_skip ?_; conv => whnf) | (refine ACode.s_label ?_; conv => whnf))
        refine ACode.freeze 6 ?_
        conv => whnf
        refine ⟨closed_map _ (fun _ => rfl) _, ?_⟩
        conv => whnf
        repeat (refine ⟨(by first | rfl | (simp; done) : (_ : Nat) = _), ?_⟩; conv => whnf)
        refine ACode.nilCell 2 4 47 6 rfl rfl ?_
        obtain ⟨R, hR, hp⟩ : ∃ R : Nw → RM Nw, R = _ ∧ p = ((secR ts w_line (linW ts) ts.length ⟨cals, names, opers, offs, [], []⟩).bind R) r := ⟨_, rfl, hp⟩
        have hfl : offs.length ≤ 3000 := by omega
        clear hf hc1 hs1
        refine ACode.loopD (fun x : Nat × Rs × List Lin => mk 96 [(0, .str s), (2, .ptr 0 0), (5, .sl 3 (toksA ts)), (8, .ptr 1 0), (9, .ptr 2 0)]) (fun x => .cells net0 :: rC ts x.2.1 :: .cells (linCs ⟨cals, names, opers, offs, x.2.2, []⟩ x.2.2.length) :: linH ⟨cals, names, opers, offs, x.2.2, []⟩ x.2.2)
         (fun x => p = ((secR ts w_line (linW ts) x.1 ⟨cals, names, opers, offs, x.2.2, []⟩).bind R) x.2.1 ∧ x.2.1.at_ ≤ ts.length ∧ (x.2.1.err = 0 → ts.length ≤ x.2.1.at_ + x.1) ∧ x.2.2.length + x.1 = ts.length) (fun x => x.1)
         (fun x hx => ⟨rfl, ?_⟩) ⟨(ts.length, r, []), ?_⟩ (fun _ => rfl) fun x hx => ?_
        ·(conv => whnf)
         refine ⟨rfl, ?_⟩
         (conv => whnf)
         refine ⟨rfl, ?_⟩
         (conv => whnf)
         refine ⟨rfl, ?_⟩
         (conv => whnf)
         exact ⟨closed_map _ (fun _ => rfl) _, trivial⟩
        ·conv => whnf
         repeat (refine And.intro ?_ ?_; (focus (first | rfl | (simp; done))); conv => whnf)
         exact ⟨hp, hr, fun _ => Nat.le_add_left _ _, Nat.zero_add _⟩
        ·obtain ⟨f, r, lins⟩ := x
         obtain ⟨hp, hr, hf, hc1⟩ := hx
         simp only at hp hr hf hc1
         repeat (first | refine ACode.seq ?_ | (refine ACode.s_reg tys_ok ?_; conv => whnf) | refine ACode.s_block ?_ | refine ACode.s_scope ?_ | (refine ACode.s_cond ?_; conv => whnf) | (refine ACode.s_exit ?_; conv => whnf) | (refine ACode.s_ret ?_; conv => whnf) | (refine ACode.s_skip ?_; conv => whnf) | (refine ACode.s_label ?_; conv => whnf))
         refine ACall.of_r r (sees_r 1 w_line) hr rfl ?_
         (conv => whnf)
         repeat (first | refine ACode.seq ?_ | (refine ACode.s_reg tys_ok ?_; conv => whnf) | refine ACode.s_block ?_ | refine ACode.s_scope ?_ | (refine ACode.s_cond ?_; conv => whnf) | (refine ACode.s_exit ?_; conv => whnf) | (refine ACode.s_ret ?_; conv => whnf) | (refine ACode.s_skip ?_; conv => whnf) | (refine ACode.s_label ?_; conv => whnf))
         cases hs1 : seesR ts 1 w_line r with
         | true =>
          have h1 := sees_le (seesR_on hs1).2
          have h3 := hf (seesR_on hs1).1
          obtain ⟨f, rfl⟩ : ∃ k, f = k + 1 := ⟨f - 1, by omega⟩
          obtain ⟨a1, a2⟩ := adv_lin ⟨cals, names, opers, offs, lins, []⟩ hs1
          replace hp := hp.trans (secR_yes hs1 (show linW ts _ r = (⟨cals, names, opers, offs, lins ++ [(linR ts ⟨cals, names, opers, offs, lins, []⟩ r).1], []⟩, (linR ts ⟨cals, names, opers, offs, lins, []⟩ r).2) from rfl))
          repeat (first | (refine no_br ?_ (fun _ => ?_); (focus (simp; done)); conv => whnf) | (refine yes_br ?_ (fun _ => ?_); (focus (simp; done)); conv => whnf) | refine ACode.seq ?_ | (refine ACode.s_reg tys_ok ?_; conv => whnf) | refine ACode.s_block ?_ | refine ACode.s_scope ?_ | (refine ACode.s_cond ?_; conv => whnf) | (refine ACode.s_exit ?_; conv => whnf) | (refine ACode.s_ret ?_; conv => whnf) | (refine ACode.s_skip ?_; conv => whnf) | (refine ACode.s_label ?_; conv => whnf))
          refine ACall.of_h (line_r ht ⟨cals, names, opers, offs, lins, []⟩ r hr (by simp only; omega) (by simp only; omega)) rfl (by (conv => whnf); exact ⟨rfl, rfl, rfl, rfl, rfl, closed_map _ (fun _ => rfl) _, trivial⟩) ?_ (fun _ _ q => q.elim)
          rintro v H1 ⟨rfl, rfl⟩
          conv => whnf
          repeat (first | refine ACode.seq ?_ | (refine ACode.s_reg tys_ok ?_; conv => whnf) | refine ACode.s_block ?_ | refine ACode.s_scope ?_ | (refine ACode.s_cond ?_; conv => whnf) | (refine ACode.s_exit ?_; conv => whnf) | (refine ACode.s_ret ?_; conv => whnf) | (refine ACode.s_skip ?_; conv => whnf) | (refine ACode.s_label ?_; conv => whnf))
          refine ⟨(f, (linR ts ⟨cals, names, opers, offs, lins, []⟩ r).2, lins ++ [(linR ts ⟨cals, names, opers, offs, lins, []⟩ r).1]), ?_⟩
          conv => whnf
          repeat (refine And.intro ?_ ?_; (focus (first | rfl | (simp; done))); conv => whnf)
          exact ⟨⟨hp, a2, fun _ => by simp only; omega, by simp; omega⟩, Nat.lt_succ_self _⟩
         | false =>
          have hp := hp.trans (RM.bind_eq (secR_no hs1))
          rw [hR] at hp
          clear hR
          repeat (first | (refine no_br ?_ (fun _ => ?_); (focus (simp; done)); conv => whnf) | (refine yes_br ?_ (fun _ => ?_); (focus (simp; done)); conv => whnf) | refine ACode.seq ?_ | (refine ACode.s_reg tys_ok ?_; conv => whnf) | refine ACode.s_block ?_ | refine ACode.s_scope ?_ | (refine ACode.s_cond ?_; conv => whnf) | (refine ACode.s_exit ?_; conv => whnf) | (refine ACode.s_ret ?_; conv => whnf) | (refine ACode.s_skip ?_; conv => whnf) | (refine ACode.s_label ?_; conv => whnf))
          refine ACode.freeze 7 ?_
          conv => whnf
          refine ⟨closed_map _ (fun _ => rfl) _, ?_⟩
          conv => whnf
          repeat (refine ⟨(by first | rfl | (simp; done) : (_ : Nat) = _), ?_⟩; conv => whnf)
          refine ACode.nilCell 2 5 49 3 rfl rfl ?_
          obtain ⟨R, hR, hp⟩ : ∃ R : Nw → RM Nw, R = _ ∧ p = ((secR ts w_class (clsW ts) ts.length ⟨cals, names, opers, offs, lins, []⟩).bind R) r := ⟨_, rfl, hp⟩
          have hll : lins.length ≤ 3000 := by omega
          clear hf hc1 hs1
          refine ACode.loopD (fun x : Nat × Rs × List Cls => mk 96 [(0, .str s), (2, .ptr 0 0), (5, .sl 3 (toksA ts)), (8, .ptr 1 0), (9, .ptr 2 0)]) (fun x => .cells net0 :: rC ts x.2.1 :: .cells (clsCs ⟨cals, names, opers, offs, lins, x.2.2⟩ x.2.2.length) :: clsH ⟨cals, names, opers, offs, lins, x.2.2⟩ x.2.2)
           (fun x => p = ((secR ts w_class (clsW ts) x.1 ⟨cals, names, opers, offs, lins, x.2.2⟩).bind R) x.2.1 ∧ x.2.1.at_ ≤ ts.length ∧ (x.2.1.err = 0 → ts.length ≤ x.2.1.at_ + x.1) ∧ x.2.2.length + x.1 = ts.length) (fun x => x.1)
           (fun x hx => ⟨rfl, ?_⟩) ⟨(ts.length, r, []), ?_⟩ (fun _ => rfl) fun x hx => ?_
          ·(conv => whnf)
           refine ⟨rfl, ?_⟩
           (conv => whnf)
           refine ⟨rfl, ?_⟩
           (conv => whnf)
           refine ⟨rfl, ?_⟩
           (conv => whnf)
           exact ⟨closed_map _ (fun _ => rfl) _, trivial⟩
          ·conv => whnf
           repeat (refine And.intro ?_ ?_; (focus (first | rfl | (simp; done))); conv => whnf)
           exact ⟨hp, hr, fun _ => Nat.le_add_left _ _, Nat.zero_add _⟩
          ·obtain ⟨f, r, clss⟩ := x
           obtain ⟨hp, hr, hf, hc1⟩ := hx
           simp only at hp hr hf hc1
           repeat (first | refine ACode.seq ?_ | (refine ACode.s_reg tys_ok ?_; conv => whnf) | refine ACode.s_block ?_ | refine ACode.s_scope ?_ | (refine ACode.s_cond ?_; conv => whnf) | (refine ACode.s_exit ?_; conv => whnf) | (refine ACode.s_ret ?_; conv => whnf) | (refine ACode.s_skip ?_; conv => whnf) | (refine ACode.s_label ?_; conv => whnf))
           refine ACall.of_r r (sees_r 1 w_class) hr rfl ?_
           (conv => whnf)
           repeat (first | refine ACode.seq ?_ | (refine ACode.s_reg tys_ok ?_; conv => whnf) | refine ACode.s_block ?_ | refine ACode.s_scope ?_ | (refine ACode.s_cond ?_; conv => whnf) | (refine ACode.s_exit ?_; conv => whnf) | (refine ACode.s_ret ?_; conv => whnf) | (refine ACode.s_skip ?_; conv => whnf) | (refine ACode.s_label ?_; conv => whnf))
           cases hs1 : seesR ts 1 w_class r with
           | true =>
            have h1 := sees_le (seesR_on hs1).2
            have h3 := hf (seesR_on hs1).1
            obtain ⟨f, rfl⟩ : ∃ k, f = k + 1 := ⟨f - 1, by omega⟩
            obtain ⟨a1, a2⟩ := adv_cls hs1
            replace hp := hp.trans (secR_yes hs1 (show clsW ts _ r = (⟨cals, names, opers, offs, lins, clss ++ [(clsR ts r).1]⟩, (clsR ts r).2) from rfl))
            repeat (first | (refine no_br ?_ (fun _ => ?_); (focus (simp; done)); conv => whnf) | (refine yes_br ?_ (fun _ => ?_); (focus (simp; done)); conv => whnf) | refine ACode.seq ?_ | (refine ACode.s_reg tys_ok ?_; conv => whnf) | refine ACode.s_block ?_ | refine ACode.s_scope ?_ | (refine ACode.s_cond ?_; conv => whnf) | (refine ACode.s_exit ?_; conv => whnf) | (refine ACode.s_ret ?_; conv => whnf) | (refine ACode.s_skip ?_; conv => whnf) | (refine ACode.s_label ?_; conv => whnf))
            refine ACall.of_h (class_r ht ⟨cals, names, opers, offs, lins, clss⟩ r hr (by simp only; omega)) rfl (by (conv => whnf); exact ⟨rfl, rfl, rfl, rfl, rfl, closed_map _ (fun _ => rfl) _, trivial⟩) ?_ (fun _ _ q => q.elim)
            rintro v H1 ⟨rfl, rfl⟩
            conv => whnf
            repeat (first | refine ACode.seq ?_ | (refine ACode.s_reg tys_ok ?_; conv => whnf) | refine ACode.s_block ?_ | refine ACode.s_scope ?_ | (refine ACode.s_cond ?_; conv => whnf) | (refine ACode.s_exit ?_; conv => whnf) | (refine ACode.s_ret ?_; conv => whnf) | (refine ACode.s_skip ?_; conv => whnf) | (refine ACode.s_label ?_; conv => whnf))
            refine ⟨(f, (clsR ts r).2, clss ++ [(clsR ts r).1]), ?_⟩
            conv => whnf
            repeat (refine And.intro ?_ ?_; (focus (first | rfl | (simp; done))); conv => whnf)
            exact ⟨⟨hp, a2, fun _ => by simp only; omega, by simp; omega⟩, Nat.lt_succ_self _⟩
           | false =>
            have hp := hp.trans (RM.bind_eq (secR_no hs1))
            rw [hR] at hp
            clear hR
            repeat (first | (refine no_br ?_ (fun _ => ?_); (focus (simp; done)); conv => whnf) | (refine yes_br ?_ (fun _ => ?_); (focus (simp; done)); conv => whnf) | refine ACode.seq ?_ | (refine ACode.s_reg tys_ok ?_; conv => whnf) | refine ACode.s_block ?_ | refine ACode.s_scope ?_ | (refine ACode.s_cond ?_; conv => whnf) | (refine ACode.s_exit ?_; conv => whnf) | (refine ACode.s_ret ?_; conv => whnf) | (refine ACode.s_skip ?_; conv => whnf) | (refine ACode.s_label ?_; conv => whnf))
            simp only at hp
            refine ⟨fun hlt => ?_, fun hge => ?_⟩
            ·have hlt : r.at_ < ts.length := by simpa using hlt
             have hp : p = (⟨cals, names, opers, offs, lins, clss⟩, failR ts r) := by rw [hp]; unfold finR; rw [decide_eq_true hlt]; rfl
             rw [hp] at hpl ⊢
             simp only at hpl ⊢
             repeat (first | refine ACode.seq ?_ | (refine ACode.s_reg tys_ok ?_; conv => whnf) | refine ACode.s_block ?_ | refine ACode.s_scope ?_ | (refine ACode.s_cond ?_; conv => whnf) | (refine ACode.s_exit ?_; conv => whnf) | (refine ACode.s_ret ?_; conv => whnf) | (refine ACode.s_skip ?_; conv => whnf) | (refine ACode.s_label ?_; conv => whnf))
             refine ACall.of_r r (fail_r hl) hr rfl ?_
             (conv => whnf)
             repeat (first | refine ACode.seq ?_ | (refine ACode.s_reg tys_ok ?_; conv => whnf) | refine ACode.s_block ?_ | refine ACode.s_scope ?_ | (refine ACode.s_cond ?_; conv => whnf) | (refine ACode.s_exit ?_; conv => whnf) | (refine ACode.s_ret ?_; conv => whnf) | (refine ACode.s_skip ?_; conv => whnf) | (refine ACode.s_label ?_; conv => whnf))
             by_cases h91 : (failR ts r).err = 91
             ·have h0 : ¬ (failR ts r).err = 0 := by omega
              rw [decide_eq_false h0, decide_eq_true h91]
              simp only [cond_false, cond_true]
              repeat (first | (refine yes_br ?_ (fun _ => ?_); (focus (simp [h91]; done)); conv => whnf) | (refine no_br ?_ (fun _ => ?_); (focus (simp [h91]; done)); conv => whnf) | refine ACode.seq ?_ | (refine ACode.s_reg tys_ok ?_; conv => whnf) | refine ACode.s_block ?_ | refine ACode.s_scope ?_ | (refine ACode.s_cond ?_; conv => whnf) | (refine ACode.s_exit ?_; conv => whnf) | (refine ACode.s_ret ?_; conv => whnf) | (refine ACode.s_skip ?_; conv => whnf) | (refine ACode.s_label ?_; conv => whnf))
              refine ACode.graphE [([false, false, false, false, false, false, false, false, false, false], [0, 1, 5]), ([true, false, false, false, false, false, false, false, false, false], [1, 5, 7]), ([false, true, false, false, false, false, false, false, false, false], [0, 2, 5]), ([false, false, false, false, false, true, false, false, false, false], [0, 1, 6]), ([true, true, false, false, false, false, false, false, false, false], [2, 5, 7]), ([true, false, false, false, false, true, false, false, false, false], [1, 6, 7]), ([true, false, false, false, false, false, false, true, false, false], [1, 5]), ([false, true, true, false, false, false, false, false, false, false], [0, 3, 5]), ([false, true, false, false, false, true, false, false, false, false], [0, 2, 6]), ([false, false, false, false, false, true, true, false, false, false], [0, 1]), ([true, true, true, false, false, false, false, false, false, false], [3, 5, 7]), ([true, true, false, false, false, true, false, false, false, false], [2, 6, 7]), ([true, true, false, false, false, false, false, true, false, false], [2, 5]), ([true, false, false, false, false, true, true, false, false, false], [1, 7]), ([true, false, false, false, false, true, false, true, false, false], [1, 6]), ([false, true, true, true, false, false, false, false, false, false], [0, 4, 5]), ([false, true, true, false, false, true, false, false, false, false], [0, 3, 6]), ([false, true, false, false, false, true, true, false, false, false], [0, 2]), ([true, true, true, true, false, false, false, false, false, false], [4, 5, 7]), ([true, true, true, false, false, true, false, false, false, false], [3, 6, 7]), ([true, true, true, false, false, false, false, true, false, false], [3, 5]), ([true, true, false, false, false, true, true, false, false, false], [2, 7]), ([true, true, false, false, false, true, false, true, false, false], [2, 6]), ([true, false, false, false, false, true, true, true, false, false], [1]), ([false, true, true, true, true, false, false, false, false, false], [0, 5]), ([false, true, true, true, false, true, false, false, false, false], [0, 4, 6]), ([false, true, true, false, false, true, true, false, false, false], [0, 3]), ([true, true, true, true, true, false, false, false, false, false], [5, 7]), ([true, true, true, true, false, true, false, false, false, false], [4, 6, 7]), ([true, true, true, true, false, false, false, true, false, false], [4, 5]), ([true, true, true, false, false, true, true, false, false, false], [3, 7]), ([true, true, true, false, false, true, false, true, false, false], [3, 6]), ([true, true, false, false, false, true, true, true, false, false], [2]), ([false, true, true, true, true, true, false, false, false, false], [0, 6]), ([false, true, true, true, false, true, true, false, false, false], [0, 4]), ([true, true, true, true, true, true, false, false, false, false], [6, 7]), ([true, true, true, true, true, false, false, true, false, false], [5, 8]), ([true, true, true, true, false, true, true, false, false, false], [4, 7]), ([true, true, true, true, false, true, false, true, false, false], [4, 6]), ([true, true, true, false, false, true, true, true, false, false], [3]), ([false, true, true, true, true, true, true, false, false, false], [0]), ([true, true, true, true, true, true, true, false, false, false], [7]), ([true, true, true, true, true, true, false, true, false, false], [6, 8]), ([true, true, true, true, true, false, false, true, true, false], [5]), ([true, true, true, true, false, true, true, true, false, false], [4]), ([true, true, true, true, true, true, true, true, false, false], [8]), ([true, true, true, true, true, true, false, true, true, false], [6]), ([true, true, true, true, true, true, true, true, true, false], [9]), ([true, true, true, true, true, true, true, true, true, true], [])] [(0, 74, .agg [.raw (.slice none 0 0), .raw (.slice none 0 0), .raw (.slice none 0 0), .raw (.slice none 0 0), .raw (.slice none 0 0), .raw (.slice none 0 0)]), (1, 75, .ptr 1 0), (2, 76, .ptr 1 0), (3, 77, .ptr 1 2), (4, 78, .int .i64 (failR ts r).err), (5, 79, .str s), (6, 80, .int .i64 s.length), (8, 3, .int .i64 (failR ts r).err), (9, 4, .int .i64 s.length)] tys_ok (by kernel_rfl) (by kernel_rfl) rfl ?_
              repeat' (first | exact True.intro | (refine GN.mk ?_; conv => whnf) | (refine And.intro ?_ ?_ <;> conv => whnf) | (show (_ : List AV) = _; rfl) | (show (_ : List HO) = _; rfl))
              repeat (first | refine ACode.seq ?_ | (refine ACode.s_reg tys_ok ?_; conv => whnf) | refine ACode.s_block ?_ | refine ACode.s_scope ?_ | (refine ACode.s_cond ?_; conv => whnf) | (refine ACode.s_exit ?_; conv => whnf) | (refine ACode.s_ret ?_; conv => whnf) | (refine ACode.s_skip ?_; conv => whnf) | (refine ACode.s_label ?_; conv => whnf))
              refine ⟨3, ?_⟩
              (conv => whnf)
              refine ⟨1, ?_⟩
              (conv => whnf)
              refine ⟨1, ?_⟩
              (conv => whnf)
              refine ⟨7, ?_⟩
              (conv => whnf)
              refine ⟨6, ?_⟩
              (conv => whnf)
              refine ⟨3, ?_⟩
              rfl
             ·by_cases h0 : (failR ts r).err = 0
              ·rw [decide_eq_true h0]
               simp only [cond_true]
               repeat (first | (refine yes_br ?_ (fun _ => ?_); (focus (simp [h91]; done)); conv => whnf) | (refine no_br ?_ (fun _ => ?_); (focus (simp [h91]; done)); conv => whnf) | (refine yes_br ?_ (fun _ => ?_); (focus (simp [h0]; done)); conv => whnf) | (refine no_br ?_ (fun _ => ?_); (focus (simp [h0]; done)); conv => whnf) | refine ACode.seq ?_ | (refine ACode.s_reg tys_ok ?_; conv => whnf) | refine ACode.s_block ?_ | refine ACode.s_scope ?_ | (refine ACode.s_cond ?_; conv => whnf) | (refine ACode.s_exit ?_; conv => whnf) | (refine ACode.s_ret ?_; conv => whnf) | (refine ACode.s_skip ?_; conv => whnf) | (refine ACode.s_label ?_; conv => whnf))
               refine ⟨⟨by simp, closed_map _ (fun _ => rfl) _⟩, ?_⟩
               conv => whnf
               rfl
              ·have hpl := hpl h0 h91
               rw [decide_eq_false h0, decide_eq_false h91]
               simp only [cond_false]
               repeat (first | (refine yes_br ?_ (fun _ => ?_); (focus (simp [h91]; done)); conv => whnf) | (refine no_br ?_ (fun _ => ?_); (focus (simp [h91]; done)); conv => whnf) | (refine yes_br ?_ (fun _ => ?_); (focus (simp [h0]; done)); conv => whnf) | (refine no_br ?_ (fun _ => ?_); (focus (simp [h0]; done)); conv => whnf) | refine ACode.seq ?_ | (refine ACode.s_reg tys_ok ?_; conv => whnf) | refine ACode.s_block ?_ | refine ACode.s_scope ?_ | (refine ACode.s_cond ?_; conv => whnf) | (refine ACode.s_exit ?_; conv => whnf) | (refine ACode.s_ret ?_; conv => whnf) | (refine ACode.s_skip ?_; conv => whnf) | (refine ACode.s_label ?_; conv => whnf))
               refine ACode.graphE [([false, false, false, false, false, false, false, false, false, false, false, false], [0, 1, 5]), ([true, false, false, false, false, false, false, false, false, false, false, false], [1, 5, 9]), ([false, true, false, false, false, false, false, false, false, false, false, false], [0, 2, 5]), ([false, false, false, false, false, true, false, false, false, false, false, false], [0, 1, 6]), ([true, true, false, false, false, false, false, false, false, false, false, false], [2, 5, 9]), ([true, false, false, false, false, true, false, false, false, false, false, false], [1, 6, 9]), ([true, false, false, false, false, false, false, false, false, true, false, false], [1, 5]), ([false, true, true, false, false, false, false, false, false, false, false, false], [0, 3, 5]), ([false, true, false, false, false, true, false, false, false, false, false, false], [0, 2, 6]), ([false, false, false, false, false, true, true, false, false, false, false, false], [0, 1, 7]), ([true, true, true, false, false, false, false, false, false, false, false, false], [3, 5, 9]), ([true, true, false, false, false, true, false, false, false, false, false, false], [2, 6, 9]), ([true, true, false, false, false, false, false, false, false, true, false, false], [2, 5]), ([true, false, false, false, false, true, true, false, false, false, false, false], [1, 7, 9]), ([true, false, false, false, false, true, false, false, false, true, false, false], [1, 6]), ([false, true, true, true, false, false, false, false, false, false, false, false], [0, 4, 5]), ([false, true, true, false, false, true, false, false, false, false, false, false], [0, 3, 6]), ([false, true, false, false, false, true, true, false, false, false, false, false], [0, 2, 7]), ([false, false, false, false, false, true, true, true, false, false, false, false], [0, 1, 8]), ([true, true, true, true, false, false, false, false, false, false, false, false], [4, 5, 9]), ([true, true, true, false, false, true, false, false, false, false, false, false], [3, 6, 9]), ([true, true, true, false, false, false, false, false, false, true, false, false], [3, 5]), ([true, true, false, false, false, true, true, false, false, false, false, false], [2, 7, 9]), ([true, true, false, false, false, true, false, false, false, true, false, false], [2, 6]), ([true, false, false, false, false, true, true, true, false, false, false, false], [1, 8, 9]), ([true, false, false, false, false, true, true, false, false, true, false, false], [1, 7]), ([false, true, true, true, true, false, false, false, false, false, false, false], [0, 5]), ([false, true, true, true, false, true, false, false, false, false, false, false], [0, 4, 6]), ([false, true, true, false, false, true, true, false, false, false, false, false], [0, 3, 7]), ([false, true, false, false, false, true, true, true, false, false, false, false], [0, 2, 8]), ([false, false, false, false, false, true, true, true, true, false, false, false], [0, 1]), ([true, true, true, true, true, false, false, false, false, false, false, false], [5, 9]), ([true, true, true, true, false, true, false, false, false, false, false, false], [4, 6, 9]), ([true, true, true, true, false, false, false, false, false, true, false, false], [4, 5]), ([true, true, true, false, false, true, true, false, false, false, false, false], [3, 7, 9]), ([true, true, true, false, false, true, false, false, false, true, false, false], [3, 6]), ([true, true, false, false, false, true, true, true, false, false, false, false], [2, 8, 9]), ([true, true, false, false, false, true, true, false, false, true, false, false], [2, 7]), ([true, false, false, false, false, true, true, true, true, false, false, false], [1, 9]), ([true, false, false, false, false, true, true, true, false, true, false, false], [1, 8]), ([false, true, true, true, true, true, false, false, false, false, false, false], [0, 6]), ([false, true, true, true, false, true, true, false, false, false, false, false], [0, 4, 7]), ([false, true, true, false, false, true, true, true, false, false, false, false], [0, 3, 8]), ([false, true, false, false, false, true, true, true, true, false, false, false], [0, 2]), ([true, true, true, true, true, true, false, false, false, false, false, false], [6, 9]), ([true, true, true, true, true, false, false, false, false, true, false, false], [5, 10]), ([true, true, true, true, false, true, true, false, false, false, false, false], [4, 7, 9]), ([true, true, true, true, false, true, false, false, false, true, false, false], [4, 6]), ([true, true, true, false, false, true, true, true, false, false, false, false], [3, 8, 9]), ([true, true, true, false, false, true, true, false, false, true, false, false], [3, 7]), ([true, true, false, false, false, true, true, true, true, false, false, false], [2, 9]), ([true, true, false, false, false, true, true, true, false, true, false, false], [2, 8]), ([true, false, false, false, false, true, true, true, true, true, false, false], [1]), ([false, true, true, true, true, true, true, false, false, false, false, false], [0, 7]), ([false, true, true, true, false, true, true, true, false, false, false, false], [0, 4, 8]), ([false, true, true, false, false, true, true, true, true, false, false, false], [0, 3]), ([true, true, true, true, true, true, true, false, false, false, false, false], [7, 9]), ([true, true, true, true, true, true, false, false, false, true, false, false], [6, 10]), ([true, true, true, true, true, false, false, false, false, true, true, false], [5]), ([true, true, true, true, false, true, true, true, false, false, false, false], [4, 8, 9]), ([true, true, true, true, false, true, true, false, false, true, false, false], [4, 7]), ([true, true, true, false, false, true, true, true, true, false, false, false], [3, 9]), ([true, true, true, false, false, true, true, true, false, true, false, false], [3, 8]), ([true, true, false, false, false, true, true, true, true, true, false, false], [2]), ([false, true, true, true, true, true, true, true, false, false, false, false], [0, 8]), ([false, true, true, true, false, true, true, true, true, false, false, false], [0, 4]), ([true, true, true, true, true, true, true, true, false, false, false, false], [8, 9]), ([true, true, true, true, true, true, true, false, false, true, false, false], [7, 10]), ([true, true, true, true, true, true, false, false, false, true, true, false], [6]), ([true, true, true, true, false, true, true, true, true, false, false, false], [4, 9]), ([true, true, true, true, false, true, true, true, false, true, false, false], [4, 8]), ([true, true, true, false, false, true, true, true, true, true, false, false], [3]), ([false, true, true, true, true, true, true, true, true, false, false, false], [0]), ([true, true, true, true, true, true, true, true, true, false, false, false], [9]), ([true, true, true, true, true, true, true, true, false, true, false, false], [8, 10]), ([true, true, true, true, true, true, true, false, false, true, true, false], [7]), ([true, true, true, true, false, true, true, true, true, true, false, false], [4]), ([true, true, true, true, true, true, true, true, true, true, false, false], [10]), ([true, true, true, true, true, true, true, true, false, true, true, false], [8]), ([true, true, true, true, true, true, true, true, true, true, true, false], [11]), ([true, true, true, true, true, true, true, true, true, true, true, true], [])] [(0, 86, .agg [.raw (.slice none 0 0), .raw (.slice none 0 0), .raw (.slice none 0 0), .raw (.slice none 0 0), .raw (.slice none 0 0), .raw (.slice none 0 0)]), (1, 87, .ptr 1 0), (2, 88, .ptr 1 0), (3, 89, .ptr 1 2), (4, 90, .int .i64 (failR ts r).err), (5, 91, .ptr 1 0), (6, 92, .ptr 1 0), (7, 93, .ptr 1 3), (8, 94, .int .i64 (failR ts r).place), (10, 3, .int .i64 (failR ts r).err), (11, 4, .int .i64 (failR ts r).place)] tys_ok (by kernel_rfl) (by kernel_rfl) rfl ?_
               repeat' (first | exact True.intro | (refine GN.mk ?_; conv => whnf) | (refine And.intro ?_ ?_ <;> conv => whnf) | (show (_ : List AV) = _; rfl) | (show (_ : List HO) = _; rfl))
               repeat (first | refine ACode.seq ?_ | (refine ACode.s_reg tys_ok ?_; conv => whnf) | refine ACode.s_block ?_ | refine ACode.s_scope ?_ | (refine ACode.s_cond ?_; conv => whnf) | (refine ACode.s_exit ?_; conv => whnf) | (refine ACode.s_ret ?_; conv => whnf) | (refine ACode.s_skip ?_; conv => whnf) | (refine ACode.s_label ?_; conv => whnf))
               refine ⟨3, ?_⟩
               (conv => whnf)
               refine ⟨1, ?_⟩
               (conv => whnf)
               refine ⟨1, ?_⟩
               (conv => whnf)
               refine ⟨7, ?_⟩
               (conv => whnf)
               refine ⟨6, ?_⟩
               (conv => whnf)
               refine ⟨3, ?_⟩
               show _ = AV.tuple [_, _, .int .i64 (((failR ts r).place.toNat : Nat) : Int)]
               rw [Int.toNat_of_nonneg hpl]
               rfl
            ·have hge : ¬ r.at_ < ts.length := by simpa using hge
             have hp : p = (⟨cals, names, opers, offs, lins, clss⟩, r) := by rw [hp]; unfold finR; rw [decide_eq_false hge]; rfl
             rw [hp] at hpl ⊢
             simp only at hpl ⊢
             repeat (first | refine ACode.seq ?_ | (refine ACode.s_reg tys_ok ?_; conv => whnf) | refine ACode.s_block ?_ | refine ACode.s_scope ?_ | (refine ACode.s_cond ?_; conv => whnf) | (refine ACode.s_exit ?_; conv => whnf) | (refine ACode.s_ret ?_; conv => whnf) | (refine ACode.s_skip ?_; conv => whnf) | (refine ACode.s_label ?_; conv => whnf))
             by_cases h91 : r.err = 91
             ·have h0 : ¬ r.err = 0 := by omega
              rw [decide_eq_false h0, decide_eq_true h91]
              simp only [cond_false, cond_true]
              repeat (first | (refine yes_br ?_ (fun _ => ?_); (focus (simp [h91]; done)); conv => whnf) | (refine no_br ?_ (fun _ => ?_); (focus (simp [h91]; done)); conv => whnf) | refine ACode.seq ?_ | (refine ACode.s_reg tys_ok ?_; conv => whnf) | refine ACode.s_block ?_ | refine ACode.s_scope ?_ | (refine ACode.s_cond ?_; conv => whnf) | (refine ACode.s_exit ?_; conv => whnf) | (refine ACode.s_ret ?_; conv => whnf) | (refine ACode.s_skip ?_; conv => whnf) | (refine ACode.s_label ?_; conv => whnf))
              refine ACode.graphE [([false, false, false, false, false, false, false, false, false, false], [0, 1, 5]), ([true, false, false, false, false, false, false, false, false, false], [1, 5, 7]), ([false, true, false, false, false, false, false, false, false, false], [0, 2, 5]), ([false, false, false, false, false, true, false, false, false, false], [0, 1, 6]), ([true, true, false, false, false, false, false, false, false, false], [2, 5, 7]), ([true, false, false, false, false, true, false, false, false, false], [1, 6, 7]), ([true, false, false, false, false, false, false, true, false, false], [1, 5]), ([false, true, true, false, false, false, false, false, false, false], [0, 3, 5]), ([false, true, false, false, false, true, false, false, false, false], [0, 2, 6]), ([false, false, false, false, false, true, true, false, false, false], [0, 1]), ([true, true, true, false, false, false, false, false, false, false], [3, 5, 7]), ([true, true, false, false, false, true, false, false, false, false], [2, 6, 7]), ([true, true, false, false, false, false, false, true, false, false], [2, 5]), ([true, false, false, false, false, true, true, false, false, false], [1, 7]), ([true, false, false, false, false, true, false, true, false, false], [1, 6]), ([false, true, true, true, false, false, false, false, false, false], [0, 4, 5]), ([false, true, true, false, false, true, false, false, false, false], [0, 3, 6]), ([false, true, false, false, false, true, true, false, false, false], [0, 2]), ([true, true, true, true, false, false, false, false, false, false], [4, 5, 7]), ([true, true, true, false, false, true, false, false, false, false], [3, 6, 7]), ([true, true, true, false, false, false, false, true, false, false], [3, 5]), ([true, true, false, false, false, true, true, false, false, false], [2, 7]), ([true, true, false, false, false, true, false, true, false, false], [2, 6]), ([true, false, false, false, false, true, true, true, false, false], [1]), ([false, true, true, true, true, false, false, false, false, false], [0, 5]), ([false, true, true, true, false, true, false, false, false, false], [0, 4, 6]), ([false, true, true, false, false, true, true, false, false, false], [0, 3]), ([true, true, true, true, true, false, false, false, false, false], [5, 7]), ([true, true, true, true, false, true, false, false, false, false], [4, 6, 7]), ([true, true, true, true, false, false, false, true, false, false], [4, 5]), ([true, true, true, false, false, true, true, false, false, false], [3, 7]), ([true, true, true, false, false, true, false, true, false, false], [3, 6]), ([true, true, false, false, false, true, true, true, false, false], [2]), ([false, true, true, true, true, true, false, false, false, false], [0, 6]), ([false, true, true, true, false, true, true, false, false, false], [0, 4]), ([true, true, true, true, true, true, false, false, false, false], [6, 7]), ([true, true, true, true, true, false, false, true, false, false], [5, 8]), ([true, true, true, true, false, true, true, false, false, false], [4, 7]), ([true, true, true, true, false, true, false, true, false, false], [4, 6]), ([true, true, true, false, false, true, true, true, false, false], [3]), ([false, true, true, true, true, true, true, false, false, false], [0]), ([true, true, true, true, true, true, true, false, false, false], [7]), ([true, true, true, true, true, true, false, true, false, false], [6, 8]), ([true, true, true, true, true, false, false, true, true, false], [5]), ([true, true, true, true, false, true, true, true, false, false], [4]), ([true, true, true, true, true, true, true, true, false, false], [8]), ([true, true, true, true, true, true, false, true, true, false], [6]), ([true, true, true, true, true, true, true, true, true, false], [9]), ([true, true, true, true, true, true, true, true, true, true], [])] [(0, 74, .agg [.raw (.slice none 0 0), .raw (.slice none 0 0), .raw (.slice none 0 0), .raw (.slice none 0 0), .raw (.slice none 0 0), .raw (.slice none 0 0)]), (1, 75, .ptr 1 0), (2, 76, .ptr 1 0), (3, 77, .ptr 1 2), (4, 78, .int .i64 r.err), (5, 79, .str s), (6, 80, .int .i64 s.length), (8, 3, .int .i64 r.err), (9, 4, .int .i64 s.length)] tys_ok (by kernel_rfl) (by kernel_rfl) rfl ?_
              repeat' (first | exact True.intro | (refine GN.mk ?_; conv => whnf) | (refine And.intro ?_ ?_ <;> conv => whnf) | (show (_ : List AV) = _; rfl) | (show (_ : List HO) = _; rfl))
              repeat (first | refine ACode.seq ?_ | (refine ACode.s_reg tys_ok ?_; conv => whnf) | refine ACode.s_block ?_ | refine ACode.s_scope ?_ | (refine ACode.s_cond ?_; conv => whnf) | (refine ACode.s_exit ?_; conv => whnf) | (refine ACode.s_ret ?_; conv => whnf) | (refine ACode.s_skip ?_; conv => whnf) | (refine ACode.s_label ?_; conv => whnf))
              refine ⟨3, ?_⟩
              (conv => whnf)
              refine ⟨1, ?_⟩
              (conv => whnf)
              refine ⟨1, ?_⟩
              (conv => whnf)
              refine ⟨7, ?_⟩
              (conv => whnf)
              refine ⟨6, ?_⟩
              (conv => whnf)
              refine ⟨3, ?_⟩
              rfl
             ·by_cases h0 : r.err = 0
              ·rw [decide_eq_true h0]
               simp only [cond_true]
               repeat (first | (refine yes_br ?_ (fun _ => ?_); (focus (simp [h91]; done)); conv => whnf) | (refine no_br ?_ (fun _ => ?_); (focus (simp [h91]; done)); conv => whnf) | (refine yes_br ?_ (fun _ => ?_); (focus (simp [h0]; done)); conv => whnf) | (refine no_br ?_ (fun _ => ?_); (focus (simp [h0]; done)); conv => whnf) | refine ACode.seq ?_ | (refine ACode.s_reg tys_ok ?_; conv => whnf) | refine ACode.s_block ?_ | refine ACode.s_scope ?_ | (refine ACode.s_cond ?_; conv => whnf) | (refine ACode.s_exit ?_; conv => whnf) | (refine ACode.s_ret ?_; conv => whnf) | (refine ACode.s_skip ?_; conv => whnf) | (refine ACode.s_label ?_; conv => whnf))
               refine ⟨⟨by simp, closed_map _ (fun _ => rfl) _⟩, ?_⟩
               conv => whnf
               rfl
              ·have hpl := hpl h0 h91
               rw [decide_eq_false h0, decide_eq_false h91]
               simp only [cond_false]
               repeat (first | (refine yes_br ?_ (fun _ => ?_); (focus (simp [h91]; done)); conv => whnf) | (refine no_br ?_ (fun _ => ?_); (focus (simp [h91]; done)); conv => whnf) | (refine yes_br ?_ (fun _ => ?_); (focus (simp [h0]; done)); conv => whnf) | (refine no_br ?_ (fun _ => ?_); (focus (simp [h0]; done)); conv => whnf) | refine ACode.seq ?_ | (refine ACode.s_reg tys_ok ?_; conv => whnf) | refine ACode.s_block ?_ | refine ACode.s_scope ?_ | (refine ACode.s_cond ?_; conv => whnf) | (refine ACode.s_exit ?_; conv => whnf) | (refine ACode.s_ret ?_; conv => whnf) | (refine ACode.s_skip ?_; conv => whnf) | (refine ACode.s_label ?_; conv => whnf))
               refine ACode.graphE [([false, false, false, false, false, false, false, false, false, false, false, false], [0, 1, 5]), ([true, false, false, false, false, false, false, false, false, false, false, false], [1, 5, 9]), ([false, true, false, false, false, false, false, false, false, false, false, false], [0, 2, 5]), ([false, false, false, false, false, true, false, false, false, false, false, false], [0, 1, 6]), ([true, true, false, false, false, false, false, false, false, false, false, false], [2, 5, 9]), ([true, false, false, false, false, true, false, false, false, false, false, false], [1, 6, 9]), ([true, false, false, false, false, false, false, false, false, true, false, false], [1, 5]), ([false, true, true, false, false, false, false, false, false, false, false, false], [0, 3, 5]), ([false, true, false, false, false, true, false, false, false, false, false, false], [0, 2, 6]), ([false, false, false, false, false, true, true, false, false, false, false, false], [0, 1, 7]), ([true, true, true, false, false, false, false, false, false, false, false, false], [3, 5, 9]), ([true, true, false, false, false, true, false, false, false, false, false, false], [2, 6, 9]), ([true, true, false, false, false, false, false, false, false, true, false, false], [2, 5]), ([true, false, false, false, false, true, true, false, false, false, false, false], [1, 7, 9]), ([true, false, false, false, false, true, false, false, false, true, false, false], [1, 6]), ([false, true, true, true, false, false, false, false, false, false, false, false], [0, 4, 5]), ([false, true, true, false, false, true, false, false, false, false, false, false], [0, 3, 6]), ([false, true, false, false, false, true, true, false, false, false, false, false], [0, 2, 7]), ([false, false, false, false, false, true, true, true, false, false, false, false], [0, 1, 8]), ([true, true, true, true, false, false, false, false, false, false, false, false], [4, 5, 9]), ([true, true, true, false, false, true, false, false, false, false, false, false], [3, 6, 9]), ([true, true, true, false, false, false, false, false, false, true, false, false], [3, 5]), ([true, true, false, false, false, true, true, false, false, false, false, false], [2, 7, 9]), ([true, true, false, false, false, true, false, false, false, true, false, false], [2, 6]), ([true, false, false, false, false, true, true, true, false, false, false, false], [1, 8, 9]), ([true, false, false, false, false, true, true, false, false, true, false, false], [1, 7]), ([false, true, true, true, true, false, false, false, false, false, false, false], [0, 5]), ([false, true, true, true, false, true, false, false, false, false, false, false], [0, 4, 6]), ([false, true, true, false, false, true, true, false, false, false, false, false], [0, 3, 7]), ([false, true, false, false, false, true, true, true, false, false, false, false], [0, 2, 8]), ([false, false, false, false, false, true, true, true, true, false, false, false], [0, 1]), ([true, true, true, true, true, false, false, false, false, false, false, false], [5, 9]), ([true, true, true, true, false, true, false, false, false, false, false, false], [4, 6, 9]), ([true, true, true, true, false, false, false, false, false, true, false, false], [4, 5]), ([true, true, true, false, false, true, true, false, false, false, false, false], [3, 7, 9]), ([true, true, true, false, false, true, false, false, false, true, false, false], [3, 6]), ([true, true, false, false, false, true, true, true, false, false, false, false], [2, 8, 9]), ([true, true, false, false, false, true, true, false, false, true, false, false], [2, 7]), ([true, false, false, false, false, true, true, true, true, false, false, false], [1, 9]), ([true, false, false, false, false, true, true, true, false, true, false, false], [1, 8]), ([false, true, true, true, true, true, false, false, false, false, false, false], [0, 6]), ([false, true, true, true, false, true, true, false, false, false, false, false], [0, 4, 7]), ([false, true, true, false, false, true, true, true, false, false, false, false], [0, 3, 8]), ([false, true, false, false, false, true, true, true, true, false, false, false], [0, 2]), ([true, true, true, true, true, true, false, false, false, false, false, false], [6, 9]), ([true, true, true, true, true, false, false, false, false, true, false, false], [5, 10]), ([true, true, true, true, false, true, true, false, false, false, false, false], [4, 7, 9]), ([true, true, true, true, false, true, false, false, false, true, false, false], [4, 6]), ([true, true, true, false, false, true, true, true, false, false, false, false], [3, 8, 9]), ([true, true, true, false, false, true, true, false, false, true, false, false], [3, 7]), ([true, true, false, false, false, true, true, true, true, false, false, false], [2, 9]), ([true, true, false, false, false, true, true, true, false, true, false, false], [2, 8]), ([true, false, false, false, false, true, true, true, true, true, false, false], [1]), ([false, true, true, true, true, true, true, false, false, false, false, false], [0, 7]), ([false, true, true, true, false, true, true, true, false, false, false, false], [0, 4, 8]), ([false, true, true, false, false, true, true, true, true, false, false, false], [0, 3]), ([true, true, true, true, true, true, true, false, false, false, false, false], [7, 9]), ([true, true, true, true, true, true, false, false, false, true, false, false], [6, 10]), ([true, true, true, true, true, false, false, false, false, true, true, false], [5]), ([true, true, true, true, false, true, true, true, false, false, false, false], [4, 8, 9]), ([true, true, true, true, false, true, true, false, false, true, false, false], [4, 7]), ([true, true, true, false, false, true, true, true, true, false, false, false], [3, 9]), ([true, true, true, false, false, true, true, true, false, true, false, false], [3, 8]), ([true, true, false, false, false, true, true, true, true, true, false, false], [2]), ([false, true, true, true, true, true, true, true, false, false, false, false], [0, 8]), ([false, true, true, true, false, true, true, true, true, false, false, false], [0, 4]), ([true, true, true, true, true, true, true, true, false, false, false, false], [8, 9]), ([true, true, true, true, true, true, true, false, false, true, false, false], [7, 10]), ([true, true, true, true, true, true, false, false, false, true, true, false], [6]), ([true, true, true, true, false, true, true, true, true, false, false, false], [4, 9]), ([true, true, true, true, false, true, true, true, false, true, false, false], [4, 8]), ([true, true, true, false, false, true, true, true, true, true, false, false], [3]), ([false, true, true, true, true, true, true, true, true, false, false, false], [0]), ([true, true, true, true, true, true, true, true, true, false, false, false], [9]), ([true, true, true, true, true, true, true, true, false, true, false, false], [8, 10]), ([true, true, true, true, true, true, true, false, false, true, true, false], [7]), ([true, true, true, true, false, true, true, true, true, true, false, false], [4]), ([true, true, true, true, true, true, true, true, true, true, false, false], [10]), ([true, true, true, true, true, true, true, true, false, true, true, false], [8]), ([true, true, true, true, true, true, true, true, true, true, true, false], [11]), ([true, true, true, true, true, true, true, true, true, true, true, true], [])] [(0, 86, .agg [.raw (.slice none 0 0), .raw (.slice none 0 0), .raw (.slice none 0 0), .raw (.slice none 0 0), .raw (.slice none 0 0), .raw (.slice none 0 0)]), (1, 87, .ptr 1 0), (2, 88, .ptr 1 0), (3, 89, .ptr 1 2), (4, 90, .int .i64 r.err), (5, 91, .ptr 1 0), (6, 92, .ptr 1 0), (7, 93, .ptr 1 3), (8, 94, .int .i64 r.place), (10, 3, .int .i64 r.err), (11, 4, .int .i64 r.place)] tys_ok (by kernel_rfl) (by kernel_rfl) rfl ?_
               repeat' (first | exact True.intro | (refine GN.mk ?_; conv => whnf) | (refine And.intro ?_ ?_ <;> conv => whnf) | (show (_ : List AV) = _; rfl) | (show (_ : List HO) = _; rfl))
               repeat (first | refine ACode.seq ?_ | (refine ACode.s_reg tys_ok ?_; conv => whnf) | refine ACode.s_block ?_ | refine ACode.s_scope ?_ | (refine ACode.s_cond ?_; conv => whnf) | (refine ACode.s_exit ?_; conv => whnf) | (refine ACode.s_ret ?_; conv => whnf) | (refine ACode.s_skip ?_; conv => whnf) | (refine ACode.s_label ?_; conv => whnf))
               refine ⟨3, ?_⟩
               (conv => whnf)
               refine ⟨1, ?_⟩
               (conv => whnf)
               refine ⟨1, ?_⟩
               (conv => whnf)
               refine ⟨7, ?_⟩
               (conv => whnf)
               refine ⟨6, ?_⟩
               (conv => whnf)
               refine ⟨3, ?_⟩
               show _ = AV.tuple [_, _, .int .i64 ((r.place.toNat : Nat) : Int)]
               rw [Int.toNat_of_nonneg hpl]
               rfl
end Go.Proofs.YtmhlneeboefkgaaGreatDoor
