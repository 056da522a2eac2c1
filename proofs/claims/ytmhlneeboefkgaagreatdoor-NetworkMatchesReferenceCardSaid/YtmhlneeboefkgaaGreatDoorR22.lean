import Derived.Test.YtmhlneeboefkgaaGreatDoorR21
import Derived.Test.YtmhlneeboefkgaaGreatDoorKf
set_option linter.unusedVariables false
set_option linter.unusedSimpArgs false
namespace Go.Proofs.YtmhlneeboefkgaaGreatDoor
open Go.Av Go.Av.Net Pl
section
variable {ts : List Tok}
/-- The reader never goes back. -/
def RMo {α : Type} (m : RM α) : Prop := ∀ r : Rs, r.at_ ≤ (m r).2.at_
theorem RMo.bind {α β : Type} {m : RM α} {g : α → RM β} (h : RMo m) (hg : ∀ a, RMo (g a)) : RMo (m.bind g) := fun r => Nat.le_trans (h r) (hg _ _)
theorem RMo.ret {α : Type} (a : α) : RMo (RM.ret a) := fun r => Nat.le_refl _
theorem fail_same (r : Rs) : (failR ts r).at_ = r.at_ := by
 unfold failR
 cases decide (r.err = 0) with
 | false => rfl
 | true => simp only [cond_true]; split <;> rfl
theorem mo_item {α : Type} (z : α) (g : Tok → Option α) : RMo (itemR ts z g) := by
 intro r
 unfold itemR
 split
 ·simp only [fail_same]; exact Nat.le_refl _
 ·split
  ·simp only [Rs.on]; omega
  ·simp only [fail_same]; exact Nat.le_refl _
theorem mo_exp (k : Int) (x : Bs) : RMo (expR ts k x) := by
 intro r
 unfold expR
 cases seesR ts k x r with
 | true => simp only [cond_true, Rs.on]; omega
 | false => simp only [cond_false, fail_same]; exact Nat.le_refl _
theorem mo_number : RMo (numberR ts) := mo_item _ _
theorem mo_signed : RMo (signedR ts) := by
 intro r
 unfold signedR
 cases seesR ts 3 s_minus r with
 | true => simp only [cond_true]; have := mo_number (ts := ts) r.on; simp only [Rs.on] at this; exact Nat.le_trans (Nat.le_succ _) this
 | false => exact mo_number r
theorem holsR_succ (f : Nat) (l : List Int) (r : Rs) : holsR ts (f + 1) l r = bif seesR ts 1 w_holiday r then (((signedR ts).bind fun n => (expR ts 3 s_semi).bind fun _ => holsR ts f (l ++ [n])) r.on) else (l, r) := rfl
/-- The network while calendars are read. -/
def calCs (a b : Nat) : List AV := [.own 3 3 0 a, .own 4 1 0 b, nilA, nilA, nilA, nilA]
def calH (l : List Cal) (m : List Bs) : List HO := [.arr 43 3 (l.map calA), .arr 9 1 (strs m)]
set_option maxRecDepth 20000 in
theorem calendar_r (ht : TsOK ts) (cals : List Cal) (names : List Bs) (r : Rs) (hr : r.at_ ≤ ts.length) (hn : cals.length ≤ 4000) (hn2 : names.length ≤ 4000) :
  HCtr Tryz.prog 20 [.ptr 1 0, .ptr 2 0] (NQ ts r (calCs cals.length names.length) (calH cals names))
   (fun v H => v = .tuple [] ∧ H = NQ ts (calR ts r).2 (calCs (cals ++ [(calR ts r).1.2]).length (names ++ [(calR ts r).1.1]).length) (calH (cals ++ [(calR ts r).1.2]) (names ++ [(calR ts r).1.1]))) (fun _ _ => False) := by
 have hl := ht.len
 generalize hp : calR ts r = p
 replace hp := hp.symm
 unfold calR at hp
 refine HCtr.of_body Tryz.func20 rfl tys_ok (by kernel_rfl) rfl ?_
 conv => whnf
 repeat (first | refine ACode.seq ?_ | (refine ACode.s_reg tys_ok ?_; conv => whnf) | refine ACode.s_block ?_ | refine ACode.s_scope ?_ | (refine ACode.s_cond ?_; conv => whnf) | (refine ACode.s_exit ?_; conv => whnf) | (refine ACode.s_ret ?_; conv => whnf) | (refine ACode.s_skip ?_; conv => whnf) | (refine ACode.s_label ?_; conv => whnf))
 refine ACall.of_rq (word_r hl w_calendar) (at_exp _ _) hr rfl (fun _ r hq hr => ?_)
 replace hp := hp.trans (RM.bind_eq hq)
 (conv => whnf)
 repeat (first | refine ACode.seq ?_ | (refine ACode.s_reg tys_ok ?_; conv => whnf) | refine ACode.s_block ?_ | refine ACode.s_scope ?_ | (refine ACode.s_cond ?_; conv => whnf) | (refine ACode.s_exit ?_; conv => whnf) | (refine ACode.s_ret ?_; conv => whnf) | (refine ACode.s_skip ?_; conv => whnf) | (refine ACode.s_label ?_; conv => whnf))
 refine ACall.of_rq (name_r ht) (at_name) hr rfl (fun name r hq hr => ?_)
 replace hp := hp.trans (RM.bind_eq hq)
 (conv => whnf)
 repeat (first | refine ACode.seq ?_ | (refine ACode.s_reg tys_ok ?_; conv => whnf) | refine ACode.s_block ?_ | refine ACode.s_scope ?_ | (refine ACode.s_cond ?_; conv => whnf) | (refine ACode.s_exit ?_; conv => whnf) | (refine ACode.s_ret ?_; conv => whnf) | (refine ACode.s_skip ?_; conv => whnf) | (refine ACode.s_label ?_; conv => whnf))
 refine ACall.of_rq (sign_r hl s_lb) (at_exp _ _) hr rfl (fun _ r hq hr => ?_)
 replace hp := hp.trans (RM.bind_eq hq)
 (conv => whnf)
 repeat (first | refine ACode.seq ?_ | (refine ACode.s_reg tys_ok ?_; conv => whnf) | refine ACode.s_block ?_ | refine ACode.s_scope ?_ | (refine ACode.s_cond ?_; conv => whnf) | (refine ACode.s_exit ?_; conv => whnf) | (refine ACode.s_ret ?_; conv => whnf) | (refine ACode.s_skip ?_; conv => whnf) | (refine ACode.s_label ?_; conv => whnf))
 refine ACall.of_rq (word_r hl w_zone) (at_exp _ _) hr rfl (fun _ r hq hr => ?_)
 replace hp := hp.trans (RM.bind_eq hq)
 (conv => whnf)
 repeat (first | refine ACode.seq ?_ | (refine ACode.s_reg tys_ok ?_; conv => whnf) | refine ACode.s_block ?_ | refine ACode.s_scope ?_ | (refine ACode.s_cond ?_; conv => whnf) | (refine ACode.s_exit ?_; conv => whnf) | (refine ACode.s_ret ?_; conv => whnf) | (refine ACode.s_skip ?_; conv => whnf) | (refine ACode.s_label ?_; conv => whnf))
 refine ACall.of_rq (signed_r ht) (at_signed) hr rfl (fun zone r hq hr => ?_)
 replace hp := hp.trans (RM.bind_eq hq)
 (conv => whnf)
 repeat (first | refine ACode.seq ?_ | (refine ACode.s_reg tys_ok ?_; conv => whnf) | refine ACode.s_block ?_ | refine ACode.s_scope ?_ | (refine ACode.s_cond ?_; conv => whnf) | (refine ACode.s_exit ?_; conv => whnf) | (refine ACode.s_ret ?_; conv => whnf) | (refine ACode.s_skip ?_; conv => whnf) | (refine ACode.s_label ?_; conv => whnf))
 refine ACall.of_rq (sign_r hl s_semi) (at_exp _ _) hr rfl (fun _ r hq hr => ?_)
 replace hp := hp.trans (RM.bind_eq hq)
 (conv => whnf)
 repeat (first | refine ACode.seq ?_ | (refine ACode.s_reg tys_ok ?_; conv => whnf) | refine ACode.s_block ?_ | refine ACode.s_scope ?_ | (refine ACode.s_cond ?_; conv => whnf) | (refine ACode.s_exit ?_; conv => whnf) | (refine ACode.s_ret ?_; conv => whnf) | (refine ACode.s_skip ?_; conv => whnf) | (refine ACode.s_label ?_; conv => whnf))
 refine ACall.of_rq (word_r hl w_week) (at_exp _ _) hr rfl (fun _ r hq hr => ?_)
 replace hp := hp.trans (RM.bind_eq hq)
 (conv => whnf)
 refine ACode.nilCell 5 1 4 1 rfl rfl ?_
 refine ACode.nilCell 5 2 3 1 rfl rfl ?_
 refine ACode.seq ?_
 refine ACode.cutK (fun x : List Bool × Rs => mk 142 [(0, .ptr 1 0), (1, .ptr 2 0), (4, .ptr 5 0), (5, .str name)]) (fun x => NQ ts x.2 (calCs cals.length names.length) (calH cals names) ++ [.cells [.int .i64 zone, .own 6 1 0 x.1.length, .own 7 1 0 0], .arr 4 1 (x.1.map .bool), .arr 3 1 []])
  (fun x => weekR ts r = x) (fun x hx => ⟨rfl, ?_⟩) (fun _ => by simp [NQ, calH]) ?_ fun x hx => ?_
 ·(conv => whnf)
  refine ⟨rfl, ?_⟩
  (conv => whnf)
  refine ⟨rfl, ?_⟩
  (conv => whnf)
  refine ⟨closed_map _ (fun _ => rfl) _, ?_⟩
  (conv => whnf)
  refine ⟨closed_map _ (fun _ => rfl) _, ?_⟩
  (conv => whnf)
  refine ⟨rfl, ?_⟩
  (conv => whnf)
  refine ⟨closed_map _ (fun _ => rfl) _, ?_⟩
  (conv => whnf)
  exact ⟨by simp, trivial⟩
 ·have hno : ¬ (r.err = 0 ∧ ∃ h : r.at_ < ts.length, ts[r.at_].kind = 2 ∧ isWeekB ts[r.at_].text = true) → weekR ts r = ([], failR ts r) := fun q => item_no fun ⟨q1, q2, q3⟩ => q ⟨q1, q2, by
   cases c : (decide (ts[r.at_].kind = 2) && isWeekB ts[r.at_].text) with
   | false => rw [c] at q3; exact absurd rfl q3
   | true => simpa using c⟩
  repeat (first | refine ACode.seq ?_ | (refine ACode.s_reg tys_ok ?_; conv => whnf) | refine ACode.s_block ?_ | refine ACode.s_scope ?_ | (refine ACode.s_cond ?_; conv => whnf) | (refine ACode.s_exit ?_; conv => whnf) | (refine ACode.s_ret ?_; conv => whnf) | (refine ACode.s_skip ?_; conv => whnf) | (refine ACode.s_label ?_; conv => whnf))
  refine ACode.draw [] tys_ok (by kernel_rfl) (by kernel_rfl) ?_
  conv => whnf
  by_cases he : r.err = 0
  ·by_cases hlt : r.at_ < ts.length
   ·by_cases hk : ts[r.at_].kind = 2
    ·cases hw : isWeekB ts[r.at_].text with
     | true =>
      have hg : weekR ts r = (ts[r.at_].text.map fun b => decide (b.toNat = 49), r.on) := item_ok he hlt (by simp [hk, hw])
      have h7 : ts[r.at_].text.length = 7 := by unfold isWeekB at hw; simp at hw; exact hw.1
      repeat (first | (refine yes_br ?_ (fun _ => ?_); (focus (simp [he]; done)); conv => whnf) | (refine no_br ?_ (fun _ => ?_); (focus (simp [he]; done)); conv => whnf) | (refine yes_br ?_ (fun _ => ?_); (focus (simp; omega; done)); conv => whnf) | (refine no_br ?_ (fun _ => ?_); (focus (simp; omega; done)); conv => whnf) | (refine ⟨by omega, tokA ts[r.at_], (by exact toks_get ts _ hlt), ?_⟩; conv => whnf) | (refine yes_br ?_ (fun _ => ?_); (focus (simp [hk]; done)); conv => whnf) | (refine no_br ?_ (fun _ => ?_); (focus (simp [hk]; done)); conv => whnf) | (refine ⟨_, ⟨rweek_spec ts[r.at_].text, rfl⟩, ?_⟩; conv => whnf) | (refine yes_br ?_ (fun _ => ?_); (focus (simp [hw]; done)); conv => whnf) | (refine no_br ?_ (fun _ => ?_); (focus (simp [hw]; done)); conv => whnf) | refine ACode.seq ?_ | (refine ACode.s_reg tys_ok ?_; conv => whnf) | refine ACode.s_block ?_ | refine ACode.s_scope ?_ | (refine ACode.s_cond ?_; conv => whnf) | (refine ACode.s_exit ?_; conv => whnf) | (refine ACode.s_ret ?_; conv => whnf) | (refine ACode.s_skip ?_; conv => whnf) | (refine ACode.s_label ?_; conv => whnf))
      have ew : Wr .i64 ((r.at_ : Int) + 1) = ((r.at_ + 1 : Nat) : Int) := by rw [Wr64 _ (by omega) (by omega)]; omega
      generalize hx : ts[r.at_].text = x at *
      refine ACode.loopD (fun k : Nat => mk 142 [(0, .ptr 1 0), (1, .ptr 2 0), (4, .ptr 5 0), (5, .str name), (6, .int .i64 k)]) (fun k => NQ ts r (calCs cals.length names.length) (calH cals names) ++ [.cells [.int .i64 zone, .own 6 1 0 k, .own 7 1 0 0], .arr 4 1 ((x.take k).map fun b => .bool (decide (b.toNat = 49))), .arr 3 1 []] ++ List.replicate 45 HO.dead)
       (fun k => k ≤ 7) (fun k => 7 - k) (fun k hk => ⟨rfl, ?_⟩) ⟨0, ?_⟩ (fun _ => rfl) fun k hk => ?_
      ·(conv => whnf)
       refine ⟨rfl, ?_⟩
       (conv => whnf)
       refine ⟨rfl, ?_⟩
       (conv => whnf)
       refine ⟨closed_map _ (fun _ => rfl) _, ?_⟩
       (conv => whnf)
       refine ⟨closed_map _ (fun _ => rfl) _, ?_⟩
       (conv => whnf)
       refine ⟨rfl, ?_⟩
       (conv => whnf)
       refine ⟨closed_map _ (fun _ => rfl) _, ?_⟩
       (conv => whnf)
       exact ⟨by simp, trivial⟩
      ·conv => whnf
       repeat (refine And.intro ?_ ?_; (focus (first | rfl | (simp; done))); conv => whnf)
       exact Nat.zero_le _
      ·repeat (first | refine ACode.seq ?_ | (refine ACode.s_reg tys_ok ?_; conv => whnf) | refine ACode.s_block ?_ | refine ACode.s_scope ?_ | (refine ACode.s_cond ?_; conv => whnf) | (refine ACode.s_exit ?_; conv => whnf) | (refine ACode.s_ret ?_; conv => whnf) | (refine ACode.s_skip ?_; conv => whnf) | (refine ACode.s_label ?_; conv => whnf))
       refine ⟨fun hlt2 => ?_, fun hge => ?_⟩
       ·have hlt2 : k < x.length := by simp at hlt2; omega
        have eg : List.getD x (k : Int).toNat 0 = x[k] := by simp [hlt2]
        have e1 : ∀ b : Bool, decide ((x[k].toNat : Int) = 49) = b → List.map unlit (List.map (fun b : UInt8 => AV.bool (decide (b.toNat = 49))) (List.take k x) ++ [AV.lit b]) = List.map (fun b => AV.bool (decide (b.toNat = 49))) (List.take (k + 1) x) := by
         rintro b rfl
         rw [List.take_succ_eq_append_getElem hlt2, List.map_append, List.map_append, List.map_map]
         congr 1
         simp only [List.map_cons, List.map_nil, unlit]
         congr 2
         rw [decide_eq_decide]; omega
        repeat (first | refine ACode.seq ?_ | (refine ACode.s_reg tys_ok ?_; conv => whnf) | refine ACode.s_block ?_ | refine ACode.s_scope ?_ | (refine ACode.s_cond ?_; conv => whnf) | (refine ACode.s_exit ?_; conv => whnf) | (refine ACode.s_ret ?_; conv => whnf) | (refine ACode.s_skip ?_; conv => whnf) | (refine ACode.s_label ?_; conv => whnf))
        refine ACode.drawI [] [17, 19] tys_ok (by kernel_rfl) (by kernel_rfl) ?_
        conv => whnf
        refine ⟨by omega, .agg [.int .i64 ts[r.at_].kind, .str x, .int .i64 ts[r.at_].pos], by rw [← hx]; exact toks_get ts _ hlt, ?_⟩
        conv => whnf
        refine ⟨⟨by omega, by omega⟩, ?_⟩
        conv => whnf
        rw [eg]
        refine ⟨fun hb => ?_, fun hb => ?_⟩ <;> (conv => whnf)
        all_goals (
         refine ⟨rfl, ?_⟩
         (conv => whnf)
         refine ⟨⟨by simp; omega, by simp; omega⟩, ?_⟩
         (conv => whnf)
         repeat (refine ACode.seq ?_)
         refine ACode.unlit 6 rfl (e1 _ hb) ?_
         repeat (first | refine ACode.seq ?_ | (refine ACode.s_reg tys_ok ?_; conv => whnf) | refine ACode.s_block ?_ | refine ACode.s_scope ?_ | (refine ACode.s_cond ?_; conv => whnf) | (refine ACode.s_exit ?_; conv => whnf) | (refine ACode.s_ret ?_; conv => whnf) | (refine ACode.s_skip ?_; conv => whnf) | (refine ACode.s_label ?_; conv => whnf))
         refine ⟨k + 1, ?_⟩
         conv => whnf
         repeat (refine And.intro ?_ ?_; (focus (first | rfl | (simp; done) | ((first | (rw [Wr64 _ (by omega) (by omega)]; omega) | (simp; omega)); done))); conv => whnf)
         show 7 - (k + 1) < 7 - k
         omega)
       ·have hge : k = x.length := by simp at hge; omega
        repeat (first | refine ACode.seq ?_ | (refine ACode.s_reg tys_ok ?_; conv => whnf) | refine ACode.s_block ?_ | refine ACode.s_scope ?_ | (refine ACode.s_cond ?_; conv => whnf) | (refine ACode.s_exit ?_; conv => whnf) | (refine ACode.s_ret ?_; conv => whnf) | (refine ACode.s_skip ?_; conv => whnf) | (refine ACode.s_label ?_; conv => whnf))
        refine ⟨(x.map fun b => decide (b.toNat = 49), r.on), ?_⟩
        conv => whnf
        repeat (refine And.intro ?_ ?_; (focus (first | rfl | (simp; done) | ((first | (rw [hge, List.take_length]; simp [NQ, ew, Rs.on]; done) | (rw [ew]; rfl) | (simp [Rs.on, ew, hge]; done)); done))); conv => whnf)
        exact hg
     | false =>
      have hg := hno fun ⟨_, _, _, q⟩ => by rw [hw] at q; cases q
      repeat (first | (refine yes_br ?_ (fun _ => ?_); (focus (simp [he]; done)); conv => whnf) | (refine no_br ?_ (fun _ => ?_); (focus (simp [he]; done)); conv => whnf) | (refine yes_br ?_ (fun _ => ?_); (focus (simp; omega; done)); conv => whnf) | (refine no_br ?_ (fun _ => ?_); (focus (simp; omega; done)); conv => whnf) | (refine ⟨by omega, tokA ts[r.at_], (by exact toks_get ts _ hlt), ?_⟩; conv => whnf) | (refine yes_br ?_ (fun _ => ?_); (focus (simp [hk]; done)); conv => whnf) | (refine no_br ?_ (fun _ => ?_); (focus (simp [hk]; done)); conv => whnf) | (refine ⟨_, ⟨rweek_spec ts[r.at_].text, rfl⟩, ?_⟩; conv => whnf) | (refine yes_br ?_ (fun _ => ?_); (focus (simp [hw]; done)); conv => whnf) | (refine no_br ?_ (fun _ => ?_); (focus (simp [hw]; done)); conv => whnf) | refine ACode.seq ?_ | (refine ACode.s_reg tys_ok ?_; conv => whnf) | refine ACode.s_block ?_ | refine ACode.s_scope ?_ | (refine ACode.s_cond ?_; conv => whnf) | (refine ACode.s_exit ?_; conv => whnf) | (refine ACode.s_ret ?_; conv => whnf) | (refine ACode.s_skip ?_; conv => whnf) | (refine ACode.s_label ?_; conv => whnf))
      refine ACall.of_r r (fail_r hl) hr rfl ?_
      (conv => whnf)
      repeat (first | refine ACode.seq ?_ | (refine ACode.s_reg tys_ok ?_; conv => whnf) | refine ACode.s_block ?_ | refine ACode.s_scope ?_ | (refine ACode.s_cond ?_; conv => whnf) | (refine ACode.s_exit ?_; conv => whnf) | (refine ACode.s_ret ?_; conv => whnf) | (refine ACode.s_skip ?_; conv => whnf) | (refine ACode.s_label ?_; conv => whnf))
      refine ⟨([], failR ts r), ?_⟩
      conv => whnf
      repeat (refine And.intro ?_ ?_; (focus (first | rfl | (simp; done))); conv => whnf)
      exact hg
    ·have hg := hno fun ⟨_, _, q, _⟩ => hk q
     repeat (first | (refine yes_br ?_ (fun _ => ?_); (focus (simp [he]; done)); conv => whnf) | (refine no_br ?_ (fun _ => ?_); (focus (simp [he]; done)); conv => whnf) | (refine yes_br ?_ (fun _ => ?_); (focus (simp; omega; done)); conv => whnf) | (refine no_br ?_ (fun _ => ?_); (focus (simp; omega; done)); conv => whnf) | (refine ⟨by omega, tokA ts[r.at_], (by exact toks_get ts _ hlt), ?_⟩; conv => whnf) | (refine yes_br ?_ (fun _ => ?_); (focus (simp [hk]; done)); conv => whnf) | (refine no_br ?_ (fun _ => ?_); (focus (simp [hk]; done)); conv => whnf) | refine ACode.seq ?_ | (refine ACode.s_reg tys_ok ?_; conv => whnf) | refine ACode.s_block ?_ | refine ACode.s_scope ?_ | (refine ACode.s_cond ?_; conv => whnf) | (refine ACode.s_exit ?_; conv => whnf) | (refine ACode.s_ret ?_; conv => whnf) | (refine ACode.s_skip ?_; conv => whnf) | (refine ACode.s_label ?_; conv => whnf))
     refine ACall.of_r r (fail_r hl) hr rfl ?_
     (conv => whnf)
     repeat (first | refine ACode.seq ?_ | (refine ACode.s_reg tys_ok ?_; conv => whnf) | refine ACode.s_block ?_ | refine ACode.s_scope ?_ | (refine ACode.s_cond ?_; conv => whnf) | (refine ACode.s_exit ?_; conv => whnf) | (refine ACode.s_ret ?_; conv => whnf) | (refine ACode.s_skip ?_; conv => whnf) | (refine ACode.s_label ?_; conv => whnf))
     refine ⟨([], failR ts r), ?_⟩
     conv => whnf
     repeat (refine And.intro ?_ ?_; (focus (first | rfl | (simp; done))); conv => whnf)
     exact hg
   ·have hg := hno fun ⟨_, q, _⟩ => hlt q
    repeat (first | (refine yes_br ?_ (fun _ => ?_); (focus (simp [he]; done)); conv => whnf) | (refine no_br ?_ (fun _ => ?_); (focus (simp [he]; done)); conv => whnf) | (refine yes_br ?_ (fun _ => ?_); (focus (simp; omega; done)); conv => whnf) | (refine no_br ?_ (fun _ => ?_); (focus (simp; omega; done)); conv => whnf) | refine ACode.seq ?_ | (refine ACode.s_reg tys_ok ?_; conv => whnf) | refine ACode.s_block ?_ | refine ACode.s_scope ?_ | (refine ACode.s_cond ?_; conv => whnf) | (refine ACode.s_exit ?_; conv => whnf) | (refine ACode.s_ret ?_; conv => whnf) | (refine ACode.s_skip ?_; conv => whnf) | (refine ACode.s_label ?_; conv => whnf))
    refine ACall.of_r r (fail_r hl) hr rfl ?_
    (conv => whnf)
    repeat (first | refine ACode.seq ?_ | (refine ACode.s_reg tys_ok ?_; conv => whnf) | refine ACode.s_block ?_ | refine ACode.s_scope ?_ | (refine ACode.s_cond ?_; conv => whnf) | (refine ACode.s_exit ?_; conv => whnf) | (refine ACode.s_ret ?_; conv => whnf) | (refine ACode.s_skip ?_; conv => whnf) | (refine ACode.s_label ?_; conv => whnf))
    refine ⟨([], failR ts r), ?_⟩
    conv => whnf
    repeat (refine And.intro ?_ ?_; (focus (first | rfl | (simp; done))); conv => whnf)
    exact hg
  ·have hg := hno fun ⟨q, _⟩ => he q
   repeat (first | (refine yes_br ?_ (fun _ => ?_); (focus (simp [he]; done)); conv => whnf) | (refine no_br ?_ (fun _ => ?_); (focus (simp [he]; done)); conv => whnf) | refine ACode.seq ?_ | (refine ACode.s_reg tys_ok ?_; conv => whnf) | refine ACode.s_block ?_ | refine ACode.s_scope ?_ | (refine ACode.s_cond ?_; conv => whnf) | (refine ACode.s_exit ?_; conv => whnf) | (refine ACode.s_ret ?_; conv => whnf) | (refine ACode.s_skip ?_; conv => whnf) | (refine ACode.s_label ?_; conv => whnf))
   refine ACall.of_r r (fail_r hl) hr rfl ?_
   (conv => whnf)
   repeat (first | refine ACode.seq ?_ | (refine ACode.s_reg tys_ok ?_; conv => whnf) | refine ACode.s_block ?_ | refine ACode.s_scope ?_ | (refine ACode.s_cond ?_; conv => whnf) | (refine ACode.s_exit ?_; conv => whnf) | (refine ACode.s_ret ?_; conv => whnf) | (refine ACode.s_skip ?_; conv => whnf) | (refine ACode.s_label ?_; conv => whnf))
   refine ⟨([], failR ts r), ?_⟩
   conv => whnf
   repeat (refine And.intro ?_ ?_; (focus (first | rfl | (simp; done))); conv => whnf)
   exact hg
 ·obtain ⟨week, r'⟩ := x
  have hr' : r'.at_ ≤ ts.length := by have := at_item (ts := ts) (α := List Bool) [] (fun t => bif decide (t.kind = 2) && isWeekB t.text then some (t.text.map fun b => decide (b.toNat = 49)) else none) r hr; change (weekR ts r).2.at_ ≤ _ at this; rw [hx] at this; exact this
  replace hp := hp.trans (RM.bind_eq hx)
  clear hx
  clear hr
  have hr := hr'
  repeat (first | refine ACode.seq ?_ | (refine ACode.s_reg tys_ok ?_; conv => whnf) | refine ACode.s_block ?_ | refine ACode.s_scope ?_ | (refine ACode.s_cond ?_; conv => whnf) | (refine ACode.s_exit ?_; conv => whnf) | (refine ACode.s_ret ?_; conv => whnf) | (refine ACode.s_skip ?_; conv => whnf) | (refine ACode.s_label ?_; conv => whnf))
  refine ACall.of_rq (sign_r hl s_semi) (at_exp _ _) hr rfl (fun _ r hq hr => ?_)
  replace hp := hp.trans (RM.bind_eq hq)
  (conv => whnf)
  repeat (first | refine ACode.seq ?_ | (refine ACode.s_reg tys_ok ?_; conv => whnf) | refine ACode.s_block ?_ | refine ACode.s_scope ?_ | (refine ACode.s_cond ?_; conv => whnf) | (refine ACode.s_exit ?_; conv => whnf) | (refine ACode.s_ret ?_; conv => whnf) | (refine ACode.s_skip ?_; conv => whnf) | (refine ACode.s_label ?_; conv => whnf))
  obtain ⟨R, hR, hp⟩ : ∃ R : List Int → RM (Bs × Cal), R = (fun l => (expR ts 3 s_rb).bind fun _ => RM.ret (name, ⟨zone, week, l⟩)) ∧ p = ((holsR ts ts.length []).bind R) r := ⟨_, rfl, hp⟩
  refine ACode.loopD (fun x : Nat × Rs × List Int => mk 142 [(0, .ptr 1 0), (1, .ptr 2 0), (4, .ptr 5 0), (5, .str name)]) (fun x => NQ ts x.2.1 (calCs cals.length names.length) (calH cals names) ++ [.cells [.int .i64 zone, .own 6 1 0 week.length, .own 7 1 0 x.2.2.length], .arr 4 1 (week.map .bool), .arr 3 1 (x.2.2.map (.int .i64))])
   (fun x => p = ((holsR ts x.1 x.2.2).bind R) x.2.1 ∧ x.2.1.at_ ≤ ts.length ∧ x.2.2.length + x.1 = ts.length ∧ (x.2.1.err = 0 → ts.length ≤ x.2.1.at_ + x.1)) (fun x => x.1)
   (fun x hx => ⟨rfl, ?_⟩) ⟨(ts.length, r, []), ?_⟩ (fun _ => rfl) fun x hx => ?_
  ·(conv => whnf)
   refine ⟨rfl, ?_⟩
   (conv => whnf)
   refine ⟨rfl, ?_⟩
   (conv => whnf)
   refine ⟨closed_map _ (fun _ => rfl) _, ?_⟩
   (conv => whnf)
   refine ⟨closed_map _ (fun _ => rfl) _, ?_⟩
   (conv => whnf)
   refine ⟨rfl, ?_⟩
   (conv => whnf)
   refine ⟨closed_map _ (fun _ => rfl) _, ?_⟩
   (conv => whnf)
   exact ⟨closed_map _ (fun _ => rfl) _, trivial⟩
  ·conv => whnf
   repeat (refine And.intro ?_ ?_; (focus (first | rfl | (simp; done) | (simp [NQ]; done))); conv => whnf)
   exact ⟨hp, hr, by simp, fun _ => by simp only; omega⟩
  ·obtain ⟨f, r, acc⟩ := x
   obtain ⟨hp, hr, hf, hf2⟩ := hx
   simp only at hp hr hf hf2
   repeat (first | refine ACode.seq ?_ | (refine ACode.s_reg tys_ok ?_; conv => whnf) | refine ACode.s_block ?_ | refine ACode.s_scope ?_ | (refine ACode.s_cond ?_; conv => whnf) | (refine ACode.s_exit ?_; conv => whnf) | (refine ACode.s_ret ?_; conv => whnf) | (refine ACode.s_skip ?_; conv => whnf) | (refine ACode.s_label ?_; conv => whnf))
   refine ACall.of_r r (sees_r 1 w_holiday) hr rfl ?_
   (conv => whnf)
   repeat (first | refine ACode.seq ?_ | (refine ACode.s_reg tys_ok ?_; conv => whnf) | refine ACode.s_block ?_ | refine ACode.s_scope ?_ | (refine ACode.s_cond ?_; conv => whnf) | (refine ACode.s_exit ?_; conv => whnf) | (refine ACode.s_ret ?_; conv => whnf) | (refine ACode.s_skip ?_; conv => whnf) | (refine ACode.s_label ?_; conv => whnf))
   cases hs : seesR ts 1 w_holiday r with
   | false =>
    have hp := hp.trans (RM.bind_eq (show holsR ts f acc r = (acc, r) by cases f with | zero => rfl | succ k => rw [holsR_succ, hs]; rfl))
    rw [hR] at hp
    repeat (first | (refine no_br ?_ (fun _ => ?_); (focus (simp; done)); conv => whnf) | (refine yes_br ?_ (fun _ => ?_); (focus (simp; done)); conv => whnf) | refine ACode.seq ?_ | (refine ACode.s_reg tys_ok ?_; conv => whnf) | refine ACode.s_block ?_ | refine ACode.s_scope ?_ | (refine ACode.s_cond ?_; conv => whnf) | (refine ACode.s_exit ?_; conv => whnf) | (refine ACode.s_ret ?_; conv => whnf) | (refine ACode.s_skip ?_; conv => whnf) | (refine ACode.s_label ?_; conv => whnf))
    refine ACall.of_rq (sign_r hl s_rb) (at_exp _ _) hr rfl (fun _ r hq hr => ?_)
    replace hp := hp.trans (RM.bind_eq hq)
    (conv => whnf)
    repeat (first | refine ACode.seq ?_ | (refine ACode.s_reg tys_ok ?_; conv => whnf) | refine ACode.s_block ?_ | refine ACode.s_scope ?_ | (refine ACode.s_cond ?_; conv => whnf) | (refine ACode.s_exit ?_; conv => whnf) | (refine ACode.s_ret ?_; conv => whnf) | (refine ACode.s_skip ?_; conv => whnf) | (refine ACode.s_label ?_; conv => whnf))
    rw [RM.ret_at] at hp
    subst hp
    refine ACode.freeze 6 ?_
    conv => whnf
    refine ⟨closed_map _ (fun _ => rfl) _, ?_⟩
    conv => whnf
    repeat (refine ⟨(by first | rfl | (simp; done) : (_ : Nat) = _), ?_⟩; conv => whnf)
    refine ACode.freeze 7 ?_
    conv => whnf
    refine ⟨closed_map _ (fun _ => rfl) _, ?_⟩
    conv => whnf
    repeat (refine ⟨(by first | rfl | (simp; done) : (_ : Nat) = _), ?_⟩; conv => whnf)
    refine ACode.drawI [] [7, 10] tys_ok (by kernel_rfl) (by kernel_rfl) ?_
    conv => whnf
    refine ⟨rfl, ?_⟩
    conv => whnf
    refine ⟨⟨by simp, by simp; omega⟩, ?_⟩
    conv => whnf
    repeat (first | refine ACode.seq ?_ | (refine ACode.s_reg tys_ok ?_; conv => whnf) | refine ACode.s_block ?_ | refine ACode.s_scope ?_ | (refine ACode.s_cond ?_; conv => whnf) | (refine ACode.s_exit ?_; conv => whnf) | (refine ACode.s_ret ?_; conv => whnf) | (refine ACode.s_skip ?_; conv => whnf) | (refine ACode.s_label ?_; conv => whnf))
    refine ⟨rfl, ?_⟩
    conv => whnf
    refine ⟨⟨by simp [strs], by simp [strs]; omega⟩, ?_⟩
    conv => whnf
    repeat (first | refine ACode.seq ?_ | (refine ACode.s_reg tys_ok ?_; conv => whnf) | refine ACode.s_block ?_ | refine ACode.s_scope ?_ | (refine ACode.s_cond ?_; conv => whnf) | (refine ACode.s_exit ?_; conv => whnf) | (refine ACode.s_ret ?_; conv => whnf) | (refine ACode.s_skip ?_; conv => whnf) | (refine ACode.s_label ?_; conv => whnf))
    refine ⟨fun e he => ?_, ?_⟩
    ·rcases List.mem_append.1 he with h | h
     ·exact closed_map _ (fun _ => rfl) _ e h
     ·rw [List.mem_singleton.1 h]; rfl
    (conv => whnf)
    refine ⟨fun e he => ?_, ?_⟩
    ·rcases List.mem_append.1 he with h | h
     ·exact closed_map _ (fun _ => rfl) _ e h
     ·rw [List.mem_singleton.1 h]; rfl
    (conv => whnf)
    refine ⟨rfl, ?_⟩
    simp [NQ, calA, calCs, calH, nilA, strs]
   | true =>
    have h1 := sees_le (seesR_on hs).2
    have h2 := on_at hs
    have h3 := hf2 (seesR_on hs).1
    have ew : Wr .i64 ((r.at_ : Int) + 1) = ((r.at_ + 1 : Nat) : Int) := by rw [Wr64 _ (by omega) (by omega)]; omega
    obtain ⟨f, rfl⟩ : ∃ k, f = k + 1 := ⟨f - 1, by omega⟩
    have hp : p = ((signedR ts).bind fun n => (expR ts 3 s_semi).bind fun _ => (holsR ts f (acc ++ [n])).bind R) r.on := by
     rw [hp]; unfold RM.bind; rw [holsR_succ, hs]; rfl
    repeat (first | (refine no_br ?_ (fun _ => ?_); (focus (simp; done)); conv => whnf) | (refine yes_br ?_ (fun _ => ?_); (focus (simp; done)); conv => whnf) | refine ACode.seq ?_ | (refine ACode.s_reg tys_ok ?_; conv => whnf) | refine ACode.s_block ?_ | refine ACode.s_scope ?_ | (refine ACode.s_cond ?_; conv => whnf) | (refine ACode.s_exit ?_; conv => whnf) | (refine ACode.s_ret ?_; conv => whnf) | (refine ACode.s_skip ?_; conv => whnf) | (refine ACode.s_label ?_; conv => whnf))
    rw [ew]
    refine ACode.drawAll (.one 0 (.one 1 (.one 2 (.one 3 (.one 4 (.one 5 (.one 6 (.one 7 .done .none) .none) .none) .none) .none) .none) (.one 2 (.one 1 (.one 3 (.one 4 (.one 5 (.one 6 (.one 7 .done .none) .none) .none) .none) .none) (.one 3 (.one 1 (.one 4 (.one 5 (.one 6 (.one 7 .done .none) .none) .none) .none) (.one 4 (.one 1 (.one 5 (.one 6 (.one 7 .done .none) .none) .none) .none) .none)) .none)) .none)) (.one 2 (.one 0 (.one 1 (.one 3 (.one 4 (.one 5 (.one 6 (.one 7 .done .none) .none) .none) .none) .none) (.one 3 (.one 1 (.one 4 (.one 5 (.one 6 (.one 7 .done .none) .none) .none) .none) (.one 4 (.one 1 (.one 5 (.one 6 (.one 7 .done .none) .none) .none) .none) .none)) .none)) (.one 3 (.one 0 (.one 1 (.one 4 (.one 5 (.one 6 (.one 7 .done .none) .none) .none) .none) (.one 4 (.one 1 (.one 5 (.one 6 (.one 7 .done .none) .none) .none) .none) .none)) (.one 4 (.one 0 (.one 1 (.one 5 (.one 6 (.one 7 .done .none) .none) .none) .none) .none) .none)) .none)) .none)) tys_ok (by kernel_rfl) (by kernel_rfl) ?_
    repeat' (first | exact True.intro | (refine EnF.step ?_; conv => whnf) | (refine And.intro ?_ ?_ <;> conv => whnf) | (refine ACall.of_rq (r := r.on) (signed_r ht) at_signed h2 rfl (fun hol r2 hq hr2 => ?_); conv => whnf) | (show (_ : Nat) = _; first | rfl | (simp; done) | (simp; omega)) | (show (_ : Nat) ≤ _; simp; omega))
    all_goals (
     have hp := hp.trans (RM.bind_eq hq)
     have hr := hr2
     have m1 : r.on.at_ ≤ r2.at_ := by have := mo_signed (ts := ts) r.on; rw [hq] at this; exact this
     repeat (first | refine ACode.seq ?_ | (refine ACode.s_reg tys_ok ?_; conv => whnf) | refine ACode.s_block ?_ | refine ACode.s_scope ?_ | (refine ACode.s_cond ?_; conv => whnf) | (refine ACode.s_exit ?_; conv => whnf) | (refine ACode.s_ret ?_; conv => whnf) | (refine ACode.s_skip ?_; conv => whnf) | (refine ACode.s_label ?_; conv => whnf))
     refine ACall.of_rq (sign_r hl s_semi) (at_exp _ _) hr rfl (fun _ r3 hq3 hr3 => ?_)
     have hp := hp.trans (RM.bind_eq hq3)
     have m2 : r2.at_ ≤ r3.at_ := by have := mo_exp (ts := ts) 3 s_semi r2; rw [hq3] at this; exact this
     (conv => whnf)
     repeat (first | refine ACode.seq ?_ | (refine ACode.s_reg tys_ok ?_; conv => whnf) | refine ACode.s_block ?_ | refine ACode.s_scope ?_ | (refine ACode.s_cond ?_; conv => whnf) | (refine ACode.s_exit ?_; conv => whnf) | (refine ACode.s_ret ?_; conv => whnf) | (refine ACode.s_skip ?_; conv => whnf) | (refine ACode.s_label ?_; conv => whnf))
     refine ⟨(f, r3, acc ++ [hol]), ?_⟩
     conv => whnf
     repeat (refine And.intro ?_ ?_; (focus (first | rfl | (simp; done) | (simp; done))); conv => whnf)
     simp only [Rs.on] at m1
     exact ⟨⟨hp, hr3, by simp; omega, fun _ => by simp only; omega⟩, Nat.lt_succ_self _⟩)
end
end Go.Proofs.YtmhlneeboefkgaaGreatDoor
