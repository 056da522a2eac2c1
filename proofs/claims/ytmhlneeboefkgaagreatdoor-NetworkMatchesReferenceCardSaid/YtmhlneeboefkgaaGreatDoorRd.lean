import Derived.Test.YtmhlneeboefkgaaGreatDoorRc
import Derived.Test.YtmhlneeboefkgaaGreatDoorPb
set_option linter.unusedVariables false
set_option linter.unusedSimpArgs false
namespace Go.Proofs.YtmhlneeboefkgaaGreatDoor
open Go.Av Go.Av.Net Pl
/-- The reader, at the place that it has in Parse. -/
def RQ (ts : List Tok) (r : Rs) : List HO := oneK 1 [.sl 3 (toksA ts), .int .i64 r.at_, .int .i64 r.err, .int .i64 r.place]
/-- A method of the reader computes a value and the next state. -/
def RCtr {α : Type} (f : Nat) (args : List AV) (ts : List Tok) (m : RM α) (enc : α → AV) : Prop :=
 ∀ r : Rs, r.at_ ≤ ts.length → HCtr Tryz.prog f args (RQ ts r) (fun v H => v = enc (m r).1 ∧ H = RQ ts (m r).2) (fun _ _ => False)
theorem hand_RQ (ts : List Tok) (r : Rs) (o : HO) (rest : List HO) : handK (RQ ts r) (RQ ts r) (o :: .cells [.sl 3 (toksA ts), .int .i64 r.at_, .int .i64 r.err, .int .i64 r.place] :: rest) True := ⟨rfl, rfl, trivial⟩
theorem _root_.Go.Av.ACall.of_r {α : Type} {f : Nat} {args : List AV} {ts : List Tok} {m : RM α} {enc : α → AV} {E : List AV} {o : HO} {rest : List HO} {K : AV → KK} {X : XX} (r : Rs) (h : RCtr f args ts m enc) (hr : r.at_ ≤ ts.length)
  (hw : withins (RQ ts r) args = true) (hk : K (enc (m r).1) E (o :: .cells [.sl 3 (toksA ts), .int .i64 (m r).2.at_, .int .i64 (m r).2.err, .int .i64 (m r).2.place] :: rest)) :
  ACall Tryz.prog f args E (o :: .cells [.sl 3 (toksA ts), .int .i64 r.at_, .int .i64 r.err, .int .i64 r.place] :: rest) K X := by
 refine ACall.of_h (h r hr) hw (hand_RQ ts r o rest) ?_ (fun _ _ q => q.elim)
 rintro v H1 ⟨rfl, rfl⟩
 have ha := oneK_arr 1 [.sl 3 (toksA ts), .int .i64 r.at_, .int .i64 r.err, .int .i64 r.place]
 rw [scrK_iff, show scrs (RQ ts r) E = E from scrs_id ha E]
 show mergeK (RQ ts r) [.dead, .cells [.sl 3 (toksA ts), .int .i64 r.at_, .int .i64 r.err, .int .i64 r.place]] [.dead, .cells [.sl 3 (toksA ts), .int .i64 (m r).2.at_, .int .i64 (m r).2.err, .int .i64 (m r).2.place]] (o :: .cells [.sl 3 (toksA ts), .int .i64 r.at_, .int .i64 r.err, .int .i64 r.place] :: rest) _
 simp only [mergeK, mergeK_nil, scrHK_iff]
 rw [show scrH (RQ ts r) o = o from scrH_id ha o, show rest.map (scrH (RQ ts r)) = rest by rw [List.map_congr_left (fun x _ => show scrH (RQ ts r) x = id x from scrH_id ha x), List.map_id]]
 exact hk
section
variable {ts : List Tok}
set_option maxRecDepth 20000 in
theorem fail_r (hl : ts.length ≤ 3000) : RCtr 26 [.ptr 1 0] ts (fun r => ((), failR ts r)) (fun _ => .tuple []) := by
 intro r hr
 refine HCtr.of_body Tryz.func26 rfl tys_ok (by kernel_rfl) rfl ?_
 conv => whnf
 repeat (first | refine ACode.seq ?_ | (refine ACode.s_reg tys_ok ?_; conv => whnf) | refine ACode.s_block ?_ | refine ACode.s_scope ?_ | (refine ACode.s_cond ?_; conv => whnf) | (refine ACode.s_exit ?_; conv => whnf) | (refine ACode.s_ret ?_; conv => whnf) | (refine ACode.s_skip ?_; conv => whnf) | (refine ACode.s_label ?_; conv => whnf))
 by_cases he : r.err = 0
 ·repeat (first | (refine yes_br ?_ (fun _ => ?_); (focus (simp [he]; done)); conv => whnf) | (refine no_br ?_ (fun _ => ?_); (focus (simp [he]; done)); conv => whnf) | refine ACode.seq ?_ | (refine ACode.s_reg tys_ok ?_; conv => whnf) | refine ACode.s_block ?_ | refine ACode.s_scope ?_ | (refine ACode.s_cond ?_; conv => whnf) | (refine ACode.s_exit ?_; conv => whnf) | (refine ACode.s_ret ?_; conv => whnf) | (refine ACode.s_skip ?_; conv => whnf) | (refine ACode.s_label ?_; conv => whnf))
  by_cases hlt : r.at_ < ts.length
  ·have hf : failR ts r = ⟨r.at_, 90, ts[r.at_].pos⟩ := by unfold failR; rw [decide_eq_true he, List.getElem?_eq_getElem hlt]; rfl
   refine ACode.draw [] tys_ok (by kernel_rfl) (by kernel_rfl) ?_
   conv => whnf
   repeat (first | (refine yes_br ?_ (fun _ => ?_); (focus (simp; omega; done)); conv => whnf) | (refine no_br ?_ (fun _ => ?_); (focus (simp; omega; done)); conv => whnf) | (refine ⟨by omega, tokA ts[r.at_], (by exact toks_get ts _ hlt), ?_⟩; conv => whnf) | refine ACode.seq ?_ | (refine ACode.s_reg tys_ok ?_; conv => whnf) | refine ACode.s_block ?_ | refine ACode.s_scope ?_ | (refine ACode.s_cond ?_; conv => whnf) | (refine ACode.s_exit ?_; conv => whnf) | (refine ACode.s_ret ?_; conv => whnf) | (refine ACode.s_skip ?_; conv => whnf) | (refine ACode.s_label ?_; conv => whnf))
   refine ACode.draw [14] tys_ok (by kernel_rfl) (by kernel_rfl) ?_
   conv => whnf
   repeat (first | (refine ⟨by omega, tokA ts[r.at_], (by exact toks_get ts _ hlt), ?_⟩; conv => whnf) | refine ACode.seq ?_ | (refine ACode.s_reg tys_ok ?_; conv => whnf) | refine ACode.s_block ?_ | refine ACode.s_scope ?_ | (refine ACode.s_cond ?_; conv => whnf) | (refine ACode.s_exit ?_; conv => whnf) | (refine ACode.s_ret ?_; conv => whnf) | (refine ACode.s_skip ?_; conv => whnf) | (refine ACode.s_label ?_; conv => whnf))
   simp only [hf]
   exact ⟨trivial, rfl⟩
  ·have hf : failR ts r = ⟨r.at_, 91, r.place⟩ := by unfold failR; rw [decide_eq_true he, List.getElem?_eq_none (by omega)]; rfl
   refine ACode.draw [] tys_ok (by kernel_rfl) (by kernel_rfl) ?_
   conv => whnf
   repeat (first | (refine yes_br ?_ (fun _ => ?_); (focus (simp; omega; done)); conv => whnf) | (refine no_br ?_ (fun _ => ?_); (focus (simp; omega; done)); conv => whnf) | refine ACode.seq ?_ | (refine ACode.s_reg tys_ok ?_; conv => whnf) | refine ACode.s_block ?_ | refine ACode.s_scope ?_ | (refine ACode.s_cond ?_; conv => whnf) | (refine ACode.s_exit ?_; conv => whnf) | (refine ACode.s_ret ?_; conv => whnf) | (refine ACode.s_skip ?_; conv => whnf) | (refine ACode.s_label ?_; conv => whnf))
   simp only [hf]
   exact ⟨trivial, rfl⟩
 ·have hf : failR ts r = r := fail_stay he
  repeat (first | (refine yes_br ?_ (fun _ => ?_); (focus (simp [he]; done)); conv => whnf) | (refine no_br ?_ (fun _ => ?_); (focus (simp [he]; done)); conv => whnf) | refine ACode.seq ?_ | (refine ACode.s_reg tys_ok ?_; conv => whnf) | refine ACode.s_block ?_ | refine ACode.s_scope ?_ | (refine ACode.s_cond ?_; conv => whnf) | (refine ACode.s_exit ?_; conv => whnf) | (refine ACode.s_ret ?_; conv => whnf) | (refine ACode.s_skip ?_; conv => whnf) | (refine ACode.s_label ?_; conv => whnf))
  simp only [hf]
  exact ⟨trivial, rfl⟩
set_option maxRecDepth 20000 in
theorem sees_r (k : Int) (x : Bs) : RCtr 19 [.ptr 1 0, .int .i64 k, .str x] ts (fun r => (seesR ts k x r, r)) .bool := by
 intro r hr
 refine (HCtr.lits (R' := fun b H => b = seesR ts k x r ∧ H = RQ ts r) ?_).mono' (fun v H ⟨b, h1, h2, h3⟩ => ⟨by rw [h1, h2], h3⟩) (fun _ _ h => h)
 refine HCtr.of_body Tryz.func19 rfl tys_ok (by kernel_rfl) rfl ?_
 conv => whnf
 repeat (first | refine ACode.seq ?_ | (refine ACode.s_reg tys_ok ?_; conv => whnf) | refine ACode.s_block ?_ | refine ACode.s_scope ?_ | (refine ACode.s_cond ?_; conv => whnf) | (refine ACode.s_exit ?_; conv => whnf) | (refine ACode.s_ret ?_; conv => whnf) | (refine ACode.s_skip ?_; conv => whnf) | (refine ACode.s_label ?_; conv => whnf))
 by_cases he : r.err = 0
 ·by_cases hlt : r.at_ < ts.length
  ·have hs : seesR ts k x r = (decide (ts[r.at_].kind = k) && decide (ts[r.at_].text = x)) := by unfold seesR; rw [decide_eq_true he, sees_lt ts k x _ hlt]; rfl
   rw [hs]
   refine ACode.draw [] tys_ok (by kernel_rfl) (by kernel_rfl) ?_
   conv => whnf
   repeat (first | (refine yes_br ?_ (fun _ => ?_); (focus (simp [he]; done)); conv => whnf) | (refine no_br ?_ (fun _ => ?_); (focus (simp [he]; done)); conv => whnf) | (refine no_br ?_ (fun _ => ?_); (focus (simp; omega; done)); conv => whnf) | (refine yes_br ?_ (fun _ => ?_); (focus (simp; omega; done)); conv => whnf) | (refine ⟨by omega, tokA ts[r.at_], (by exact toks_get ts _ hlt), ?_⟩; conv => whnf) | refine ACode.seq ?_ | (refine ACode.s_reg tys_ok ?_; conv => whnf) | refine ACode.s_block ?_ | refine ACode.s_scope ?_ | (refine ACode.s_cond ?_; conv => whnf) | (refine ACode.s_exit ?_; conv => whnf) | (refine ACode.s_ret ?_; conv => whnf) | (refine ACode.s_skip ?_; conv => whnf) | (refine ACode.s_label ?_; conv => whnf))
   refine ⟨fun hk => ?_, fun hk => ?_⟩
   ·rw [hk]
    conv => whnf
    repeat (first | refine ACode.seq ?_ | (refine ACode.s_reg tys_ok ?_; conv => whnf) | refine ACode.s_block ?_ | refine ACode.s_scope ?_ | (refine ACode.s_cond ?_; conv => whnf) | (refine ACode.s_exit ?_; conv => whnf) | (refine ACode.s_ret ?_; conv => whnf) | (refine ACode.s_skip ?_; conv => whnf) | (refine ACode.s_label ?_; conv => whnf))
    repeat (first | (refine ⟨by omega, tokA ts[r.at_], (by exact toks_get ts _ hlt), ?_⟩; conv => whnf) | refine ACode.seq ?_ | (refine ACode.s_reg tys_ok ?_; conv => whnf) | refine ACode.s_block ?_ | refine ACode.s_scope ?_ | (refine ACode.s_cond ?_; conv => whnf) | (refine ACode.s_exit ?_; conv => whnf) | (refine ACode.s_ret ?_; conv => whnf) | (refine ACode.s_skip ?_; conv => whnf) | (refine ACode.s_label ?_; conv => whnf))
    refine ⟨fun ht => ?_, fun ht => ?_⟩
    ·conv => whnf
     repeat (first | refine ACode.seq ?_ | (refine ACode.s_reg tys_ok ?_; conv => whnf) | refine ACode.s_block ?_ | refine ACode.s_scope ?_ | (refine ACode.s_cond ?_; conv => whnf) | (refine ACode.s_exit ?_; conv => whnf) | (refine ACode.s_ret ?_; conv => whnf) | (refine ACode.s_skip ?_; conv => whnf) | (refine ACode.s_label ?_; conv => whnf))
     exact ⟨_, .inl rfl, by simpa using ht, rfl⟩
    ·conv => whnf
     repeat (first | refine ACode.seq ?_ | (refine ACode.s_reg tys_ok ?_; conv => whnf) | refine ACode.s_block ?_ | refine ACode.s_scope ?_ | (refine ACode.s_cond ?_; conv => whnf) | (refine ACode.s_exit ?_; conv => whnf) | (refine ACode.s_ret ?_; conv => whnf) | (refine ACode.s_skip ?_; conv => whnf) | (refine ACode.s_label ?_; conv => whnf))
     exact ⟨_, .inl rfl, by simpa using ht, rfl⟩
   ·rw [hk]
    conv => whnf
    repeat (first | refine ACode.seq ?_ | (refine ACode.s_reg tys_ok ?_; conv => whnf) | refine ACode.s_block ?_ | refine ACode.s_scope ?_ | (refine ACode.s_cond ?_; conv => whnf) | (refine ACode.s_exit ?_; conv => whnf) | (refine ACode.s_ret ?_; conv => whnf) | (refine ACode.s_skip ?_; conv => whnf) | (refine ACode.s_label ?_; conv => whnf))
    exact ⟨_, .inl rfl, rfl, rfl⟩
  ·have hs : seesR ts k x r = false := by unfold seesR; rw [sees_ge ts k x _ (by omega)]; simp
   rw [hs]
   refine ACode.draw [] tys_ok (by kernel_rfl) (by kernel_rfl) ?_
   conv => whnf
   repeat (first | (refine yes_br ?_ (fun _ => ?_); (focus (simp [he]; done)); conv => whnf) | (refine no_br ?_ (fun _ => ?_); (focus (simp [he]; done)); conv => whnf) | (refine no_br ?_ (fun _ => ?_); (focus (simp; omega; done)); conv => whnf) | (refine yes_br ?_ (fun _ => ?_); (focus (simp; omega; done)); conv => whnf) | refine ACode.seq ?_ | (refine ACode.s_reg tys_ok ?_; conv => whnf) | refine ACode.s_block ?_ | refine ACode.s_scope ?_ | (refine ACode.s_cond ?_; conv => whnf) | (refine ACode.s_exit ?_; conv => whnf) | (refine ACode.s_ret ?_; conv => whnf) | (refine ACode.s_skip ?_; conv => whnf) | (refine ACode.s_label ?_; conv => whnf))
   exact ⟨_, .inl rfl, rfl, rfl⟩
 ·have hs : seesR ts k x r = false := by unfold seesR; rw [decide_eq_false he]; rfl
  rw [hs]
  refine ACode.draw [] tys_ok (by kernel_rfl) (by kernel_rfl) ?_
  conv => whnf
  repeat (first | (refine yes_br ?_ (fun _ => ?_); (focus (simp [he]; done)); conv => whnf) | (refine no_br ?_ (fun _ => ?_); (focus (simp [he]; done)); conv => whnf) | refine ACode.seq ?_ | (refine ACode.s_reg tys_ok ?_; conv => whnf) | refine ACode.s_block ?_ | refine ACode.s_scope ?_ | (refine ACode.s_cond ?_; conv => whnf) | (refine ACode.s_exit ?_; conv => whnf) | (refine ACode.s_ret ?_; conv => whnf) | (refine ACode.s_skip ?_; conv => whnf) | (refine ACode.s_label ?_; conv => whnf))
  exact ⟨_, .inl rfl, rfl, rfl⟩
theorem exp_at {k : Int} {x : Bs} {r : Rs} (hr : r.at_ ≤ ts.length) : (expR ts k x r).2.at_ ≤ ts.length := by
 unfold expR
 cases hs : seesR ts k x r with
 | true =>
  have := sees_le (seesR_on hs).2
  simp only [cond_true, Rs.on]; omega
 | false =>
  simp only [cond_false, failR]
  cases decide (r.err = 0) with
  | false => exact hr
  | true => simp only [cond_true]; split <;> exact hr
set_option maxRecDepth 20000 in
theorem word_r (hl : ts.length ≤ 3000) (x : Bs) : RCtr 54 [.ptr 1 0, .str x] ts (expR ts 1 x) (fun _ => .tuple []) := by
 intro r hr
 have he : expR ts 1 x r = bif seesR ts 1 x r then ((), r.on) else ((), failR ts r) := rfl
 refine HCtr.of_body Tryz.func54 rfl tys_ok (by kernel_rfl) rfl ?_
 conv => whnf
 repeat (first | refine ACode.seq ?_ | (refine ACode.s_reg tys_ok ?_; conv => whnf) | refine ACode.s_block ?_ | refine ACode.s_scope ?_ | (refine ACode.s_cond ?_; conv => whnf) | (refine ACode.s_exit ?_; conv => whnf) | (refine ACode.s_ret ?_; conv => whnf) | (refine ACode.s_skip ?_; conv => whnf) | (refine ACode.s_label ?_; conv => whnf))
 refine ACall.of_r r (sees_r 1 x) hr rfl ?_
 (conv => whnf)
 repeat (first | refine ACode.seq ?_ | (refine ACode.s_reg tys_ok ?_; conv => whnf) | refine ACode.s_block ?_ | refine ACode.s_scope ?_ | (refine ACode.s_cond ?_; conv => whnf) | (refine ACode.s_exit ?_; conv => whnf) | (refine ACode.s_ret ?_; conv => whnf) | (refine ACode.s_skip ?_; conv => whnf) | (refine ACode.s_label ?_; conv => whnf))
 cases hs : seesR ts 1 x r with
 | true =>
  have := sees_le (seesR_on hs).2
  have ew : Wr .i64 ((r.at_ : Int) + 1) = ((r.at_ + 1 : Nat) : Int) := by rw [Wr64 _ (by omega) (by omega)]; omega
  rw [hs] at he
  repeat (first | (refine no_br ?_ (fun _ => ?_); (focus (simp; done)); conv => whnf) | (refine yes_br ?_ (fun _ => ?_); (focus (simp; done)); conv => whnf) | refine ACode.seq ?_ | (refine ACode.s_reg tys_ok ?_; conv => whnf) | refine ACode.s_block ?_ | refine ACode.s_scope ?_ | (refine ACode.s_cond ?_; conv => whnf) | (refine ACode.s_exit ?_; conv => whnf) | (refine ACode.s_ret ?_; conv => whnf) | (refine ACode.s_skip ?_; conv => whnf) | (refine ACode.s_label ?_; conv => whnf))
  simp only [he, cond_true, Rs.on, ew]
  exact ⟨trivial, rfl⟩
 | false =>
  rw [hs] at he
  repeat (first | (refine no_br ?_ (fun _ => ?_); (focus (simp; done)); conv => whnf) | (refine yes_br ?_ (fun _ => ?_); (focus (simp; done)); conv => whnf) | refine ACode.seq ?_ | (refine ACode.s_reg tys_ok ?_; conv => whnf) | refine ACode.s_block ?_ | refine ACode.s_scope ?_ | (refine ACode.s_cond ?_; conv => whnf) | (refine ACode.s_exit ?_; conv => whnf) | (refine ACode.s_ret ?_; conv => whnf) | (refine ACode.s_skip ?_; conv => whnf) | (refine ACode.s_label ?_; conv => whnf))
  refine ACall.of_r r (fail_r hl) hr rfl ?_
  (conv => whnf)
  repeat (first | refine ACode.seq ?_ | (refine ACode.s_reg tys_ok ?_; conv => whnf) | refine ACode.s_block ?_ | refine ACode.s_scope ?_ | (refine ACode.s_cond ?_; conv => whnf) | (refine ACode.s_exit ?_; conv => whnf) | (refine ACode.s_ret ?_; conv => whnf) | (refine ACode.s_skip ?_; conv => whnf) | (refine ACode.s_label ?_; conv => whnf))
  simp only [he, cond_false]
  exact ⟨trivial, rfl⟩
set_option maxRecDepth 20000 in
theorem sign_r (hl : ts.length ≤ 3000) (x : Bs) : RCtr 22 [.ptr 1 0, .str x] ts (expR ts 3 x) (fun _ => .tuple []) := by
 intro r hr
 have he : expR ts 3 x r = bif seesR ts 3 x r then ((), r.on) else ((), failR ts r) := rfl
 refine HCtr.of_body Tryz.func22 rfl tys_ok (by kernel_rfl) rfl ?_
 conv => whnf
 repeat (first | refine ACode.seq ?_ | (refine ACode.s_reg tys_ok ?_; conv => whnf) | refine ACode.s_block ?_ | refine ACode.s_scope ?_ | (refine ACode.s_cond ?_; conv => whnf) | (refine ACode.s_exit ?_; conv => whnf) | (refine ACode.s_ret ?_; conv => whnf) | (refine ACode.s_skip ?_; conv => whnf) | (refine ACode.s_label ?_; conv => whnf))
 refine ACall.of_r r (sees_r 3 x) hr rfl ?_
 (conv => whnf)
 repeat (first | refine ACode.seq ?_ | (refine ACode.s_reg tys_ok ?_; conv => whnf) | refine ACode.s_block ?_ | refine ACode.s_scope ?_ | (refine ACode.s_cond ?_; conv => whnf) | (refine ACode.s_exit ?_; conv => whnf) | (refine ACode.s_ret ?_; conv => whnf) | (refine ACode.s_skip ?_; conv => whnf) | (refine ACode.s_label ?_; conv => whnf))
 cases hs : seesR ts 3 x r with
 | true =>
  have := sees_le (seesR_on hs).2
  have ew : Wr .i64 ((r.at_ : Int) + 1) = ((r.at_ + 1 : Nat) : Int) := by rw [Wr64 _ (by omega) (by omega)]; omega
  rw [hs] at he
  repeat (first | (refine no_br ?_ (fun _ => ?_); (focus (simp; done)); conv => whnf) | (refine yes_br ?_ (fun _ => ?_); (focus (simp; done)); conv => whnf) | refine ACode.seq ?_ | (refine ACode.s_reg tys_ok ?_; conv => whnf) | refine ACode.s_block ?_ | refine ACode.s_scope ?_ | (refine ACode.s_cond ?_; conv => whnf) | (refine ACode.s_exit ?_; conv => whnf) | (refine ACode.s_ret ?_; conv => whnf) | (refine ACode.s_skip ?_; conv => whnf) | (refine ACode.s_label ?_; conv => whnf))
  simp only [he, cond_true, Rs.on, ew]
  exact ⟨trivial, rfl⟩
 | false =>
  rw [hs] at he
  repeat (first | (refine no_br ?_ (fun _ => ?_); (focus (simp; done)); conv => whnf) | (refine yes_br ?_ (fun _ => ?_); (focus (simp; done)); conv => whnf) | refine ACode.seq ?_ | (refine ACode.s_reg tys_ok ?_; conv => whnf) | refine ACode.s_block ?_ | refine ACode.s_scope ?_ | (refine ACode.s_cond ?_; conv => whnf) | (refine ACode.s_exit ?_; conv => whnf) | (refine ACode.s_ret ?_; conv => whnf) | (refine ACode.s_skip ?_; conv => whnf) | (refine ACode.s_label ?_; conv => whnf))
  refine ACall.of_r r (fail_r hl) hr rfl ?_
  (conv => whnf)
  repeat (first | refine ACode.seq ?_ | (refine ACode.s_reg tys_ok ?_; conv => whnf) | refine ACode.s_block ?_ | refine ACode.s_scope ?_ | (refine ACode.s_cond ?_; conv => whnf) | (refine ACode.s_exit ?_; conv => whnf) | (refine ACode.s_ret ?_; conv => whnf) | (refine ACode.s_skip ?_; conv => whnf) | (refine ACode.s_label ?_; conv => whnf))
  simp only [he, cond_false]
  exact ⟨trivial, rfl⟩
theorem fail_at {r : Rs} (hr : r.at_ ≤ ts.length) : (failR ts r).at_ ≤ ts.length := by
 unfold failR
 cases decide (r.err = 0) with
 | false => exact hr
 | true => simp only [cond_true]; split <;> exact hr
theorem item_at {α : Type} {z : α} {g : Tok → Option α} {r : Rs} (hr : r.at_ ≤ ts.length) : (itemR ts z g r).2.at_ ≤ ts.length := by
 unfold itemR
 cases decide (r.err = 0) with
 | false => exact fail_at hr
 | true =>
  simp only [cond_true]
  by_cases h : r.at_ < ts.length
  ·rw [List.getElem?_eq_getElem h]
   simp only
   cases g ts[r.at_] with
   | none => exact fail_at hr
   | some a => simp only [Rs.on]; omega
  ·rw [List.getElem?_eq_none (by omega)]
   exact fail_at hr
theorem item_ok {α : Type} {z : α} {g : Tok → Option α} {r : Rs} (he : r.err = 0) (h : r.at_ < ts.length) {a : α} (hg : g ts[r.at_] = some a) : itemR ts z g r = (a, r.on) := by
 unfold itemR; rw [decide_eq_true he, List.getElem?_eq_getElem h]; simp only [cond_true, hg]
theorem item_no {α : Type} {z : α} {g : Tok → Option α} {r : Rs} (h : ¬ (r.err = 0 ∧ ∃ h : r.at_ < ts.length, g ts[r.at_] ≠ none)) : itemR ts z g r = (z, failR ts r) := by
 unfold itemR
 by_cases he : r.err = 0
 ·rw [decide_eq_true he]
  simp only [cond_true]
  by_cases hlt : r.at_ < ts.length
  ·rw [List.getElem?_eq_getElem hlt]
   simp only
   cases hg : g ts[r.at_] with
   | none => rfl
   | some a => exact absurd ⟨he, hlt, by rw [hg]; simp⟩ h
  ·rw [List.getElem?_eq_none (by omega)]
 ·rw [decide_eq_false he]; rfl
end
end Go.Proofs.YtmhlneeboefkgaaGreatDoor

set_option linter.unusedVariables false
set_option linter.unusedSimpArgs false
namespace Go.Proofs.YtmhlneeboefkgaaGreatDoor
open Go.Av Go.Av.Net Pl
section
variable {ts : List Tok}
set_option maxRecDepth 20000 in
theorem name_r (ht : TsOK ts) : RCtr 21 [.ptr 1 0] ts (nameR ts) .str := by
 intro r hr
 have hl := ht.len
 have hbad : ¬ (r.err = 0 ∧ ∃ h : r.at_ < ts.length, ts[r.at_].kind = 1 ∧ isNameB ts[r.at_].text = true) → nameR ts r = ([], failR ts r) := fun q => item_no fun ⟨q1, q2, q3⟩ => q ⟨q1, q2, by
  cases c : (decide (ts[r.at_].kind = 1) && isNameB ts[r.at_].text) with
  | false => rw [c] at q3; exact absurd rfl q3
  | true => simpa using c⟩
 refine HCtr.of_body Tryz.func21 rfl tys_ok (by kernel_rfl) rfl ?_
 conv => whnf
 repeat (first | refine ACode.seq ?_ | (refine ACode.s_reg tys_ok ?_; conv => whnf) | refine ACode.s_block ?_ | refine ACode.s_scope ?_ | (refine ACode.s_cond ?_; conv => whnf) | (refine ACode.s_exit ?_; conv => whnf) | (refine ACode.s_ret ?_; conv => whnf) | (refine ACode.s_skip ?_; conv => whnf) | (refine ACode.s_label ?_; conv => whnf))
 refine ACode.draw [] tys_ok (by kernel_rfl) (by kernel_rfl) ?_
 conv => whnf
 by_cases he : r.err = 0
 ·by_cases hlt : r.at_ < ts.length
  ·have htl := (ht.tok _ (List.getElem_mem hlt)).1
   by_cases hk : ts[r.at_].kind = 1
   ·cases hn : isNameB ts[r.at_].text with
    | true =>
     have hg : nameR ts r = (ts[r.at_].text, r.on) := item_ok he hlt (by simp [hk, hn])
     repeat (first | (refine yes_br ?_ (fun _ => ?_); (focus (simp [he]; done)); conv => whnf) | (refine no_br ?_ (fun _ => ?_); (focus (simp [he]; done)); conv => whnf) | (refine no_br ?_ (fun _ => ?_); (focus (simp; omega; done)); conv => whnf) | (refine yes_br ?_ (fun _ => ?_); (focus (simp; omega; done)); conv => whnf) | (refine ⟨by omega, tokA ts[r.at_], (by exact toks_get ts _ hlt), ?_⟩; conv => whnf) | (refine yes_br ?_ (fun _ => ?_); (focus (simp [hk]; done)); conv => whnf) | (refine no_br ?_ (fun _ => ?_); (focus (simp [hk]; done)); conv => whnf) | (refine ⟨_, ⟨rName_spec ts[r.at_].text (by omega), rfl⟩, ?_⟩; conv => whnf) | (refine no_br ?_ (fun _ => ?_); (focus (simp [hn]; done)); conv => whnf) | (refine yes_br ?_ (fun _ => ?_); (focus (simp [hn]; done)); conv => whnf) | refine ACode.seq ?_ | (refine ACode.s_reg tys_ok ?_; conv => whnf) | refine ACode.s_block ?_ | refine ACode.s_scope ?_ | (refine ACode.s_cond ?_; conv => whnf) | (refine ACode.s_exit ?_; conv => whnf) | (refine ACode.s_ret ?_; conv => whnf) | (refine ACode.s_skip ?_; conv => whnf) | (refine ACode.s_label ?_; conv => whnf))
     have ew : Wr .i64 ((r.at_ : Int) + 1) = ((r.at_ + 1 : Nat) : Int) := by rw [Wr64 _ (by omega) (by omega)]; omega
     have ew2 : Wr .i64 (((r.at_ + 1 : Nat) : Int) - 1) = (r.at_ : Int) := by rw [Wr64 _ (by omega) (by omega)]; omega
     rw [ew]
     refine ACode.draw [] tys_ok (by kernel_rfl) (by kernel_rfl) ?_
     conv => whnf
     repeat (first | (refine ⟨by omega, tokA ts[r.at_], (by rw [ew2]; exact toks_get ts _ hlt), ?_⟩; conv => whnf) | refine ACode.seq ?_ | (refine ACode.s_reg tys_ok ?_; conv => whnf) | refine ACode.s_block ?_ | refine ACode.s_scope ?_ | (refine ACode.s_cond ?_; conv => whnf) | (refine ACode.s_exit ?_; conv => whnf) | (refine ACode.s_ret ?_; conv => whnf) | (refine ACode.s_skip ?_; conv => whnf) | (refine ACode.s_label ?_; conv => whnf))
     simp only [hg]
     exact ⟨trivial, rfl⟩
    | false =>
     have hg := hbad fun ⟨_, _, _, q⟩ => by rw [hn] at q; cases q
     repeat (first | (refine yes_br ?_ (fun _ => ?_); (focus (simp [he]; done)); conv => whnf) | (refine no_br ?_ (fun _ => ?_); (focus (simp [he]; done)); conv => whnf) | (refine no_br ?_ (fun _ => ?_); (focus (simp; omega; done)); conv => whnf) | (refine yes_br ?_ (fun _ => ?_); (focus (simp; omega; done)); conv => whnf) | (refine ⟨by omega, tokA ts[r.at_], (by exact toks_get ts _ hlt), ?_⟩; conv => whnf) | (refine yes_br ?_ (fun _ => ?_); (focus (simp [hk]; done)); conv => whnf) | (refine no_br ?_ (fun _ => ?_); (focus (simp [hk]; done)); conv => whnf) | (refine ⟨_, ⟨rName_spec ts[r.at_].text (by omega), rfl⟩, ?_⟩; conv => whnf) | (refine no_br ?_ (fun _ => ?_); (focus (simp [hn]; done)); conv => whnf) | (refine yes_br ?_ (fun _ => ?_); (focus (simp [hn]; done)); conv => whnf) | refine ACode.seq ?_ | (refine ACode.s_reg tys_ok ?_; conv => whnf) | refine ACode.s_block ?_ | refine ACode.s_scope ?_ | (refine ACode.s_cond ?_; conv => whnf) | (refine ACode.s_exit ?_; conv => whnf) | (refine ACode.s_ret ?_; conv => whnf) | (refine ACode.s_skip ?_; conv => whnf) | (refine ACode.s_label ?_; conv => whnf))
     refine ACall.of_r r (fail_r hl) hr rfl ?_
     (conv => whnf)
     repeat (first | refine ACode.seq ?_ | (refine ACode.s_reg tys_ok ?_; conv => whnf) | refine ACode.s_block ?_ | refine ACode.s_scope ?_ | (refine ACode.s_cond ?_; conv => whnf) | (refine ACode.s_exit ?_; conv => whnf) | (refine ACode.s_ret ?_; conv => whnf) | (refine ACode.s_skip ?_; conv => whnf) | (refine ACode.s_label ?_; conv => whnf))
     simp only [hg]
     exact ⟨trivial, rfl⟩
   ·have hg := hbad fun ⟨_, _, q, _⟩ => hk q
    repeat (first | (refine yes_br ?_ (fun _ => ?_); (focus (simp [he]; done)); conv => whnf) | (refine no_br ?_ (fun _ => ?_); (focus (simp [he]; done)); conv => whnf) | (refine no_br ?_ (fun _ => ?_); (focus (simp; omega; done)); conv => whnf) | (refine yes_br ?_ (fun _ => ?_); (focus (simp; omega; done)); conv => whnf) | (refine ⟨by omega, tokA ts[r.at_], (by exact toks_get ts _ hlt), ?_⟩; conv => whnf) | (refine yes_br ?_ (fun _ => ?_); (focus (simp [hk]; done)); conv => whnf) | (refine no_br ?_ (fun _ => ?_); (focus (simp [hk]; done)); conv => whnf) | refine ACode.seq ?_ | (refine ACode.s_reg tys_ok ?_; conv => whnf) | refine ACode.s_block ?_ | refine ACode.s_scope ?_ | (refine ACode.s_cond ?_; conv => whnf) | (refine ACode.s_exit ?_; conv => whnf) | (refine ACode.s_ret ?_; conv => whnf) | (refine ACode.s_skip ?_; conv => whnf) | (refine ACode.s_label ?_; conv => whnf))
    refine ACall.of_r r (fail_r hl) hr rfl ?_
    (conv => whnf)
    repeat (first | refine ACode.seq ?_ | (refine ACode.s_reg tys_ok ?_; conv => whnf) | refine ACode.s_block ?_ | refine ACode.s_scope ?_ | (refine ACode.s_cond ?_; conv => whnf) | (refine ACode.s_exit ?_; conv => whnf) | (refine ACode.s_ret ?_; conv => whnf) | (refine ACode.s_skip ?_; conv => whnf) | (refine ACode.s_label ?_; conv => whnf))
    simp only [hg]
    exact ⟨trivial, rfl⟩
  ·have hg := hbad fun ⟨_, q, _⟩ => hlt q
   repeat (first | (refine yes_br ?_ (fun _ => ?_); (focus (simp [he]; done)); conv => whnf) | (refine no_br ?_ (fun _ => ?_); (focus (simp [he]; done)); conv => whnf) | (refine no_br ?_ (fun _ => ?_); (focus (simp; omega; done)); conv => whnf) | (refine yes_br ?_ (fun _ => ?_); (focus (simp; omega; done)); conv => whnf) | refine ACode.seq ?_ | (refine ACode.s_reg tys_ok ?_; conv => whnf) | refine ACode.s_block ?_ | refine ACode.s_scope ?_ | (refine ACode.s_cond ?_; conv => whnf) | (refine ACode.s_exit ?_; conv => whnf) | (refine ACode.s_ret ?_; conv => whnf) | (refine ACode.s_skip ?_; conv => whnf) | (refine ACode.s_label ?_; conv => whnf))
   refine ACall.of_r r (fail_r hl) hr rfl ?_
   (conv => whnf)
   repeat (first | refine ACode.seq ?_ | (refine ACode.s_reg tys_ok ?_; conv => whnf) | refine ACode.s_block ?_ | refine ACode.s_scope ?_ | (refine ACode.s_cond ?_; conv => whnf) | (refine ACode.s_exit ?_; conv => whnf) | (refine ACode.s_ret ?_; conv => whnf) | (refine ACode.s_skip ?_; conv => whnf) | (refine ACode.s_label ?_; conv => whnf))
   simp only [hg]
   exact ⟨trivial, rfl⟩
 ·have hg := hbad fun ⟨q, _⟩ => he q
  repeat (first | (refine yes_br ?_ (fun _ => ?_); (focus (simp [he]; done)); conv => whnf) | (refine no_br ?_ (fun _ => ?_); (focus (simp [he]; done)); conv => whnf) | refine ACode.seq ?_ | (refine ACode.s_reg tys_ok ?_; conv => whnf) | refine ACode.s_block ?_ | refine ACode.s_scope ?_ | (refine ACode.s_cond ?_; conv => whnf) | (refine ACode.s_exit ?_; conv => whnf) | (refine ACode.s_ret ?_; conv => whnf) | (refine ACode.s_skip ?_; conv => whnf) | (refine ACode.s_label ?_; conv => whnf))
  refine ACall.of_r r (fail_r hl) hr rfl ?_
  (conv => whnf)
  repeat (first | refine ACode.seq ?_ | (refine ACode.s_reg tys_ok ?_; conv => whnf) | refine ACode.s_block ?_ | refine ACode.s_scope ?_ | (refine ACode.s_cond ?_; conv => whnf) | (refine ACode.s_exit ?_; conv => whnf) | (refine ACode.s_ret ?_; conv => whnf) | (refine ACode.s_skip ?_; conv => whnf) | (refine ACode.s_label ?_; conv => whnf))
  simp only [hg]
  exact ⟨trivial, rfl⟩
end
end Go.Proofs.YtmhlneeboefkgaaGreatDoor

set_option linter.unusedVariables false
set_option linter.unusedSimpArgs false
namespace Go.Proofs.YtmhlneeboefkgaaGreatDoor
open Go.Av Go.Av.Net Pl
section
variable {ts : List Tok}
theorem decV_take {s : Bs} {k : Nat} (h : k < s.length) : decV (s.take (k + 1)) = 10 * decV (s.take k) + ((s[k].toNat : Int) - 48) := by
 unfold decV
 rw [List.take_succ_eq_append_getElem h, List.foldl_append]
 rfl
set_option maxRecDepth 20000 in
theorem number_r (ht : TsOK ts) : RCtr 63 [.ptr 1 0] ts (numberR ts) (.int .i64) := by
 intro r hr
 have hl := ht.len
 have hbad : ¬ (r.err = 0 ∧ ∃ h : r.at_ < ts.length, ts[r.at_].kind = 2) → numberR ts r = (0, failR ts r) := fun q => item_no fun ⟨q1, q2, q3⟩ => q ⟨q1, q2, by
  cases c : decide (ts[r.at_].kind = 2) with
  | false => rw [c] at q3; exact absurd rfl q3
  | true => simpa using c⟩
 refine HCtr.of_body Tryz.func63 rfl tys_ok (by kernel_rfl) rfl ?_
 conv => whnf
 repeat (first | refine ACode.seq ?_ | (refine ACode.s_reg tys_ok ?_; conv => whnf) | refine ACode.s_block ?_ | refine ACode.s_scope ?_ | (refine ACode.s_cond ?_; conv => whnf) | (refine ACode.s_exit ?_; conv => whnf) | (refine ACode.s_ret ?_; conv => whnf) | (refine ACode.s_skip ?_; conv => whnf) | (refine ACode.s_label ?_; conv => whnf))
 refine ACode.draw [] tys_ok (by kernel_rfl) (by kernel_rfl) ?_
 conv => whnf
 by_cases he : r.err = 0
 ·by_cases hlt : r.at_ < ts.length
  ·have htk := ht.tok _ (List.getElem_mem hlt)
   by_cases hk : ts[r.at_].kind = 2
   ·have hg : numberR ts r = (decV ts[r.at_].text, r.on) := item_ok he hlt (by simp [hk])
    obtain ⟨hx1, hx2, hx3⟩ := htk.2 hk
    repeat (first | (refine yes_br ?_ (fun _ => ?_); (focus (simp [he]; done)); conv => whnf) | (refine no_br ?_ (fun _ => ?_); (focus (simp [he]; done)); conv => whnf) | (refine no_br ?_ (fun _ => ?_); (focus (simp; omega; done)); conv => whnf) | (refine yes_br ?_ (fun _ => ?_); (focus (simp; omega; done)); conv => whnf) | (refine ⟨by omega, tokA ts[r.at_], (by exact toks_get ts _ hlt), ?_⟩; conv => whnf) | (refine yes_br ?_ (fun _ => ?_); (focus (simp [hk]; done)); conv => whnf) | (refine no_br ?_ (fun _ => ?_); (focus (simp [hk]; done)); conv => whnf) | refine ACode.seq ?_ | (refine ACode.s_reg tys_ok ?_; conv => whnf) | refine ACode.s_block ?_ | refine ACode.s_scope ?_ | (refine ACode.s_cond ?_; conv => whnf) | (refine ACode.s_exit ?_; conv => whnf) | (refine ACode.s_ret ?_; conv => whnf) | (refine ACode.s_skip ?_; conv => whnf) | (refine ACode.s_label ?_; conv => whnf))
    refine ACode.draw [] tys_ok (by kernel_rfl) (by kernel_rfl) ?_
    conv => whnf
    repeat (first | (refine ⟨by omega, tokA ts[r.at_], (by exact toks_get ts _ hlt), ?_⟩; conv => whnf) | refine ACode.seq ?_ | (refine ACode.s_reg tys_ok ?_; conv => whnf) | refine ACode.s_block ?_ | refine ACode.s_scope ?_ | (refine ACode.s_cond ?_; conv => whnf) | (refine ACode.s_exit ?_; conv => whnf) | (refine ACode.s_ret ?_; conv => whnf) | (refine ACode.s_skip ?_; conv => whnf) | (refine ACode.s_label ?_; conv => whnf))
    generalize hx : ts[r.at_].text = x at *
    refine ACode.loopD (fun k : Nat => mk 72 [(0, .ptr 1 0), (3, .str x), (4, .int .i64 (decV (x.take k))), (5, .int .i64 k)]) (fun _ => RQ ts r ++ List.replicate 43 HO.dead) (fun k => k ≤ x.length) (fun k => x.length - k) (fun k hk => ⟨rfl, ?_⟩) ⟨0, ?_⟩ (fun _ => rfl) fun k hk => ?_
    ·exact ⟨rfl, trivial⟩
    ·conv => whnf
     repeat (refine And.intro ?_ ?_; (focus (first | rfl | (simp; done))); conv => whnf)
     exact Nat.zero_le _
    ·repeat (first | refine ACode.seq ?_ | (refine ACode.s_reg tys_ok ?_; conv => whnf) | refine ACode.s_block ?_ | refine ACode.s_scope ?_ | (refine ACode.s_cond ?_; conv => whnf) | (refine ACode.s_exit ?_; conv => whnf) | (refine ACode.s_ret ?_; conv => whnf) | (refine ACode.s_skip ?_; conv => whnf) | (refine ACode.s_label ?_; conv => whnf))
     refine ⟨fun hlt2 => ?_, fun hge => ?_⟩
     ·have hlt2 : k < x.length := by simpa using hlt2
      have hb := hx3 x[k] (List.getElem_mem hlt2)
      simp [digB] at hb
      obtain ⟨hv1, hv2⟩ := decV_range (x.take k) (by simp; omega) (fun b hb => hx3 b (List.mem_of_mem_take hb))
      repeat (first | refine ACode.seq ?_ | (refine ACode.s_reg tys_ok ?_; conv => whnf) | refine ACode.s_block ?_ | refine ACode.s_scope ?_ | (refine ACode.s_cond ?_; conv => whnf) | (refine ACode.s_exit ?_; conv => whnf) | (refine ACode.s_ret ?_; conv => whnf) | (refine ACode.s_skip ?_; conv => whnf) | (refine ACode.s_label ?_; conv => whnf))
      refine ⟨by omega, ?_⟩
      conv => whnf
      conv => whnf
      repeat (first | refine ACode.seq ?_ | (refine ACode.s_reg tys_ok ?_; conv => whnf) | refine ACode.s_block ?_ | refine ACode.s_scope ?_ | (refine ACode.s_cond ?_; conv => whnf) | (refine ACode.s_exit ?_; conv => whnf) | (refine ACode.s_ret ?_; conv => whnf) | (refine ACode.s_skip ?_; conv => whnf) | (refine ACode.s_label ?_; conv => whnf))
      refine ⟨k + 1, ?_⟩
      have e1 : List.getD x (k : Int).toNat 0 = x[k] := by simp [hlt2]
      have e2 : Wr .u8 ((x[k].toNat : Int) - 48) = (x[k].toNat : Int) - 48 := WrU8 _ (by omega) (by omega)
      rw [e1, e2, Wr64 (10 * _) (by omega) (by omega), Wr64 ((x[k].toNat : Int) - 48) (by omega) (by omega), Wr64 (_ + _) (by omega) (by omega), ← decV_take hlt2]
      conv => whnf
      repeat (refine And.intro ?_ ?_; (focus (first | rfl | (simp; done) | (rw [Wr64 _ (by omega) (by omega)]; omega; done))); conv => whnf)
      exact ⟨by omega, by omega⟩
     ·have hge : k = x.length := by simp at hge; omega
      repeat (first | refine ACode.seq ?_ | (refine ACode.s_reg tys_ok ?_; conv => whnf) | refine ACode.s_block ?_ | refine ACode.s_scope ?_ | (refine ACode.s_cond ?_; conv => whnf) | (refine ACode.s_exit ?_; conv => whnf) | (refine ACode.s_ret ?_; conv => whnf) | (refine ACode.s_skip ?_; conv => whnf) | (refine ACode.s_label ?_; conv => whnf))
      have ew : Wr .i64 ((r.at_ : Int) + 1) = ((r.at_ + 1 : Nat) : Int) := by rw [Wr64 _ (by omega) (by omega)]; omega
      simp only [hg, ew, hge, List.take_length]
      exact ⟨trivial, rfl⟩
   ·have hg := hbad fun ⟨_, _, q⟩ => hk q
    repeat (first | (refine yes_br ?_ (fun _ => ?_); (focus (simp [he]; done)); conv => whnf) | (refine no_br ?_ (fun _ => ?_); (focus (simp [he]; done)); conv => whnf) | (refine no_br ?_ (fun _ => ?_); (focus (simp; omega; done)); conv => whnf) | (refine yes_br ?_ (fun _ => ?_); (focus (simp; omega; done)); conv => whnf) | (refine ⟨by omega, tokA ts[r.at_], (by exact toks_get ts _ hlt), ?_⟩; conv => whnf) | (refine yes_br ?_ (fun _ => ?_); (focus (simp [hk]; done)); conv => whnf) | (refine no_br ?_ (fun _ => ?_); (focus (simp [hk]; done)); conv => whnf) | refine ACode.seq ?_ | (refine ACode.s_reg tys_ok ?_; conv => whnf) | refine ACode.s_block ?_ | refine ACode.s_scope ?_ | (refine ACode.s_cond ?_; conv => whnf) | (refine ACode.s_exit ?_; conv => whnf) | (refine ACode.s_ret ?_; conv => whnf) | (refine ACode.s_skip ?_; conv => whnf) | (refine ACode.s_label ?_; conv => whnf))
    refine ACall.of_r r (fail_r hl) hr rfl ?_
    (conv => whnf)
    repeat (first | refine ACode.seq ?_ | (refine ACode.s_reg tys_ok ?_; conv => whnf) | refine ACode.s_block ?_ | refine ACode.s_scope ?_ | (refine ACode.s_cond ?_; conv => whnf) | (refine ACode.s_exit ?_; conv => whnf) | (refine ACode.s_ret ?_; conv => whnf) | (refine ACode.s_skip ?_; conv => whnf) | (refine ACode.s_label ?_; conv => whnf))
    simp only [hg]
    exact ⟨trivial, rfl⟩
  ·have hg := hbad fun ⟨_, q, _⟩ => hlt q
   repeat (first | (refine yes_br ?_ (fun _ => ?_); (focus (simp [he]; done)); conv => whnf) | (refine no_br ?_ (fun _ => ?_); (focus (simp [he]; done)); conv => whnf) | (refine no_br ?_ (fun _ => ?_); (focus (simp; omega; done)); conv => whnf) | (refine yes_br ?_ (fun _ => ?_); (focus (simp; omega; done)); conv => whnf) | refine ACode.seq ?_ | (refine ACode.s_reg tys_ok ?_; conv => whnf) | refine ACode.s_block ?_ | refine ACode.s_scope ?_ | (refine ACode.s_cond ?_; conv => whnf) | (refine ACode.s_exit ?_; conv => whnf) | (refine ACode.s_ret ?_; conv => whnf) | (refine ACode.s_skip ?_; conv => whnf) | (refine ACode.s_label ?_; conv => whnf))
   refine ACall.of_r r (fail_r hl) hr rfl ?_
   (conv => whnf)
   repeat (first | refine ACode.seq ?_ | (refine ACode.s_reg tys_ok ?_; conv => whnf) | refine ACode.s_block ?_ | refine ACode.s_scope ?_ | (refine ACode.s_cond ?_; conv => whnf) | (refine ACode.s_exit ?_; conv => whnf) | (refine ACode.s_ret ?_; conv => whnf) | (refine ACode.s_skip ?_; conv => whnf) | (refine ACode.s_label ?_; conv => whnf))
   simp only [hg]
   exact ⟨trivial, rfl⟩
 ·have hg := hbad fun ⟨q, _⟩ => he q
  repeat (first | (refine yes_br ?_ (fun _ => ?_); (focus (simp [he]; done)); conv => whnf) | (refine no_br ?_ (fun _ => ?_); (focus (simp [he]; done)); conv => whnf) | refine ACode.seq ?_ | (refine ACode.s_reg tys_ok ?_; conv => whnf) | refine ACode.s_block ?_ | refine ACode.s_scope ?_ | (refine ACode.s_cond ?_; conv => whnf) | (refine ACode.s_exit ?_; conv => whnf) | (refine ACode.s_ret ?_; conv => whnf) | (refine ACode.s_skip ?_; conv => whnf) | (refine ACode.s_label ?_; conv => whnf))
  refine ACall.of_r r (fail_r hl) hr rfl ?_
  (conv => whnf)
  repeat (first | refine ACode.seq ?_ | (refine ACode.s_reg tys_ok ?_; conv => whnf) | refine ACode.s_block ?_ | refine ACode.s_scope ?_ | (refine ACode.s_cond ?_; conv => whnf) | (refine ACode.s_exit ?_; conv => whnf) | (refine ACode.s_ret ?_; conv => whnf) | (refine ACode.s_skip ?_; conv => whnf) | (refine ACode.s_label ?_; conv => whnf))
  simp only [hg]
  exact ⟨trivial, rfl⟩
theorem number_rng (ht : TsOK ts) (r : Rs) : 0 ≤ (numberR ts r).1 ∧ (numberR ts r).1 < 100000000 := by
 unfold numberR itemR
 cases decide (r.err = 0) with
 | false => simp
 | true =>
  simp only [cond_true]
  by_cases h : r.at_ < ts.length
  ·rw [List.getElem?_eq_getElem h]
   simp only
   by_cases hk : ts[r.at_].kind = 2
   ·obtain ⟨h1, h2, h3⟩ := (ht.tok _ (List.getElem_mem h)).2 hk
    rw [decide_eq_true hk]
    exact decV_range _ h2 h3
   ·rw [decide_eq_false hk]
    simp
  ·rw [List.getElem?_eq_none (by omega)]
   simp
theorem on_at {k : Int} {x : Bs} {r : Rs} (h : seesR ts k x r = true) : r.on.at_ ≤ ts.length := by
 have := sees_le (seesR_on h).2
 simp only [Rs.on]; omega
theorem signed_at {r : Rs} (hr : r.at_ ≤ ts.length) : (signedR ts r).2.at_ ≤ ts.length := by
 unfold signedR
 cases hs : seesR ts 3 s_minus r with
 | true => exact item_at (on_at hs)
 | false => exact item_at hr
set_option maxRecDepth 20000 in
theorem signed_r (ht : TsOK ts) : RCtr 55 [.ptr 1 0] ts (signedR ts) (.int .i64) := by
 intro r hr
 have hl := ht.len
 have he : signedR ts r = bif seesR ts 3 s_minus r then (-(numberR ts r.on).1, (numberR ts r.on).2) else numberR ts r := rfl
 refine HCtr.of_body Tryz.func55 rfl tys_ok (by kernel_rfl) rfl ?_
 conv => whnf
 repeat (first | refine ACode.seq ?_ | (refine ACode.s_reg tys_ok ?_; conv => whnf) | refine ACode.s_block ?_ | refine ACode.s_scope ?_ | (refine ACode.s_cond ?_; conv => whnf) | (refine ACode.s_exit ?_; conv => whnf) | (refine ACode.s_ret ?_; conv => whnf) | (refine ACode.s_skip ?_; conv => whnf) | (refine ACode.s_label ?_; conv => whnf))
 refine ACall.of_r r (sees_r 3 s_minus) hr rfl ?_
 (conv => whnf)
 repeat (first | refine ACode.seq ?_ | (refine ACode.s_reg tys_ok ?_; conv => whnf) | refine ACode.s_block ?_ | refine ACode.s_scope ?_ | (refine ACode.s_cond ?_; conv => whnf) | (refine ACode.s_exit ?_; conv => whnf) | (refine ACode.s_ret ?_; conv => whnf) | (refine ACode.s_skip ?_; conv => whnf) | (refine ACode.s_label ?_; conv => whnf))
 cases hs : seesR ts 3 s_minus r with
 | true =>
  have h1 := sees_le (seesR_on hs).2
  have h2 := on_at hs
  have ew : Wr .i64 ((r.at_ : Int) + 1) = ((r.at_ + 1 : Nat) : Int) := by rw [Wr64 _ (by omega) (by omega)]; omega
  rw [hs] at he
  repeat (first | (refine no_br ?_ (fun _ => ?_); (focus (simp; done)); conv => whnf) | (refine yes_br ?_ (fun _ => ?_); (focus (simp; done)); conv => whnf) | refine ACode.seq ?_ | (refine ACode.s_reg tys_ok ?_; conv => whnf) | refine ACode.s_block ?_ | refine ACode.s_scope ?_ | (refine ACode.s_cond ?_; conv => whnf) | (refine ACode.s_exit ?_; conv => whnf) | (refine ACode.s_ret ?_; conv => whnf) | (refine ACode.s_skip ?_; conv => whnf) | (refine ACode.s_label ?_; conv => whnf))
  rw [ew]
  refine ACall.of_r r.on (number_r ht) h2 rfl ?_
  (conv => whnf)
  repeat (first | refine ACode.seq ?_ | (refine ACode.s_reg tys_ok ?_; conv => whnf) | refine ACode.s_block ?_ | refine ACode.s_scope ?_ | (refine ACode.s_cond ?_; conv => whnf) | (refine ACode.s_exit ?_; conv => whnf) | (refine ACode.s_ret ?_; conv => whnf) | (refine ACode.s_skip ?_; conv => whnf) | (refine ACode.s_label ?_; conv => whnf))
  have hn := number_rng ht r.on
  simp only [he, cond_true]
  rw [Wr64 _ (by omega) (by omega)]
  exact ⟨by rw [Int.zero_sub], rfl⟩
 | false =>
  rw [hs] at he
  repeat (first | (refine no_br ?_ (fun _ => ?_); (focus (simp; done)); conv => whnf) | (refine yes_br ?_ (fun _ => ?_); (focus (simp; done)); conv => whnf) | refine ACode.seq ?_ | (refine ACode.s_reg tys_ok ?_; conv => whnf) | refine ACode.s_block ?_ | refine ACode.s_scope ?_ | (refine ACode.s_cond ?_; conv => whnf) | (refine ACode.s_exit ?_; conv => whnf) | (refine ACode.s_ret ?_; conv => whnf) | (refine ACode.s_skip ?_; conv => whnf) | (refine ACode.s_label ?_; conv => whnf))
  refine ACall.of_r r (number_r ht) hr rfl ?_
  (conv => whnf)
  repeat (first | refine ACode.seq ?_ | (refine ACode.s_reg tys_ok ?_; conv => whnf) | refine ACode.s_block ?_ | refine ACode.s_scope ?_ | (refine ACode.s_cond ?_; conv => whnf) | (refine ACode.s_exit ?_; conv => whnf) | (refine ACode.s_ret ?_; conv => whnf) | (refine ACode.s_skip ?_; conv => whnf) | (refine ACode.s_label ?_; conv => whnf))
  simp only [he, cond_false]
  exact ⟨trivial, rfl⟩
theorem after_at {w : Bs} {r : Rs} (hr : r.at_ ≤ ts.length) : (afterR ts w r).2.at_ ≤ ts.length := exp_at (item_at (exp_at hr))
set_option maxRecDepth 20000 in
theorem after_r (ht : TsOK ts) (w : Bs) : RCtr 60 [.ptr 1 0, .str w] ts (afterR ts w) (.int .i64) := by
 intro r hr
 have hl := ht.len
 refine HCtr.of_body Tryz.func60 rfl tys_ok (by kernel_rfl) rfl ?_
 conv => whnf
 repeat (first | refine ACode.seq ?_ | (refine ACode.s_reg tys_ok ?_; conv => whnf) | refine ACode.s_block ?_ | refine ACode.s_scope ?_ | (refine ACode.s_cond ?_; conv => whnf) | (refine ACode.s_exit ?_; conv => whnf) | (refine ACode.s_ret ?_; conv => whnf) | (refine ACode.s_skip ?_; conv => whnf) | (refine ACode.s_label ?_; conv => whnf))
 refine ACall.of_r r (word_r hl w) hr rfl ?_
 (conv => whnf)
 repeat (first | refine ACode.seq ?_ | (refine ACode.s_reg tys_ok ?_; conv => whnf) | refine ACode.s_block ?_ | refine ACode.s_scope ?_ | (refine ACode.s_cond ?_; conv => whnf) | (refine ACode.s_exit ?_; conv => whnf) | (refine ACode.s_ret ?_; conv => whnf) | (refine ACode.s_skip ?_; conv => whnf) | (refine ACode.s_label ?_; conv => whnf))
 refine ACall.of_r (expR ts 1 w r).2 (number_r ht) (exp_at hr) rfl ?_
 (conv => whnf)
 repeat (first | refine ACode.seq ?_ | (refine ACode.s_reg tys_ok ?_; conv => whnf) | refine ACode.s_block ?_ | refine ACode.s_scope ?_ | (refine ACode.s_cond ?_; conv => whnf) | (refine ACode.s_exit ?_; conv => whnf) | (refine ACode.s_ret ?_; conv => whnf) | (refine ACode.s_skip ?_; conv => whnf) | (refine ACode.s_label ?_; conv => whnf))
 refine ACall.of_r (numberR ts (expR ts 1 w r).2).2 (sign_r hl s_semi) (item_at (exp_at hr)) rfl ?_
 (conv => whnf)
 repeat (first | refine ACode.seq ?_ | (refine ACode.s_reg tys_ok ?_; conv => whnf) | refine ACode.s_block ?_ | refine ACode.s_scope ?_ | (refine ACode.s_cond ?_; conv => whnf) | (refine ACode.s_exit ?_; conv => whnf) | (refine ACode.s_ret ?_; conv => whnf) | (refine ACode.s_skip ?_; conv => whnf) | (refine ACode.s_label ?_; conv => whnf))
 exact ⟨rfl, rfl⟩
end
end Go.Proofs.YtmhlneeboefkgaaGreatDoor

set_option linter.unusedVariables false
set_option linter.unusedSimpArgs false
namespace Go.Proofs.YtmhlneeboefkgaaGreatDoor
open Go.Av Go.Av.Net Pl
section
variable {ts : List Tok}
theorem ref_at {names : List Bs} {r : Rs} (hr : r.at_ ≤ ts.length) : (refR ts names r).2.at_ ≤ ts.length := by
 have := item_at (z := ([] : Bs)) (g := fun t : Tok => bif decide (t.kind = 1) && isNameB t.text then some t.text else none) hr
 unfold refR
 cases decide ((nameR ts r).2.err = 0) with
 | false => exact this
 | true =>
  simp only [cond_true]
  split <;> exact this
theorem name_lt {r : Rs} (h : (nameR ts r).2.err = 0) : r.at_ < ts.length ∧ r.err = 0 := by
 have he : r.err = 0 := by
  by_cases e : r.err = 0
  ·exact e
  ·exact absurd (((sm_name (ts := ts) r).1 e).1 ▸ h) e
 refine ⟨?_, he⟩
 rcases Nat.lt_or_ge r.at_ ts.length with q | q
 ·exact q
 ·exfalso
  revert h
  unfold nameR itemR failR
  rw [decide_eq_true he, List.getElem?_eq_none q]
  simp only [cond_true]
  decide
set_option maxRecDepth 20000 in
theorem reference_r (ht : TsOK ts) (names : List Bs) (hn : names.length ≤ 3000) : RCtr 58 [.ptr 1 0, .sl 1 (strs names)] ts (refR ts names) (fun k => .int .i64 k) := by
 intro r hr
 have hl := ht.len
 have hat := item_at (z := ([] : Bs)) (g := fun t : Tok => bif decide (t.kind = 1) && isNameB t.text then some t.text else none) hr
 have e0 : refR ts names r = bif decide ((nameR ts r).2.err = 0) then (match idxOf (nameR ts r).1 names with | some i => (i, (nameR ts r).2) | none => (0, ⟨(nameR ts r).2.at_, 110, posI ts r.at_⟩)) else (0, (nameR ts r).2) := rfl
 have hpos : (nameR ts r).2.err = 0 → posI ts r.at_ = match ts[r.at_]? with | some t => t.pos | none => 0 := fun _ => rfl
 refine HCtr.of_body Tryz.func58 rfl tys_ok (by kernel_rfl) rfl ?_
 conv => whnf
 repeat (first | refine ACode.seq ?_ | (refine ACode.s_reg tys_ok ?_; conv => whnf) | refine ACode.s_block ?_ | refine ACode.s_scope ?_ | (refine ACode.s_cond ?_; conv => whnf) | (refine ACode.s_exit ?_; conv => whnf) | (refine ACode.s_ret ?_; conv => whnf) | (refine ACode.s_skip ?_; conv => whnf) | (refine ACode.s_label ?_; conv => whnf))
 refine ACall.of_r r (name_r ht) hr rfl ?_
 (conv => whnf)
 repeat (first | refine ACode.seq ?_ | (refine ACode.s_reg tys_ok ?_; conv => whnf) | refine ACode.s_block ?_ | refine ACode.s_scope ?_ | (refine ACode.s_cond ?_; conv => whnf) | (refine ACode.s_exit ?_; conv => whnf) | (refine ACode.s_ret ?_; conv => whnf) | (refine ACode.s_skip ?_; conv => whnf) | (refine ACode.s_label ?_; conv => whnf))
 have hlt := name_lt (ts := ts) (r := r)
 change (nameR ts r).2.at_ ≤ ts.length at hat
 generalize hq : nameR ts r = q at *
 by_cases he : q.2.err = 0
 ·obtain ⟨hlt, _⟩ := hlt he
  rw [decide_eq_true he] at e0
  simp only [cond_true] at e0
  repeat (first | (refine no_br ?_ (fun _ => ?_); (focus (simp [he]; done)); conv => whnf) | (refine yes_br ?_ (fun _ => ?_); (focus (simp [he]; done)); conv => whnf) | refine ACode.seq ?_ | (refine ACode.s_reg tys_ok ?_; conv => whnf) | refine ACode.s_block ?_ | refine ACode.s_scope ?_ | (refine ACode.s_cond ?_; conv => whnf) | (refine ACode.s_exit ?_; conv => whnf) | (refine ACode.s_ret ?_; conv => whnf) | (refine ACode.s_skip ?_; conv => whnf) | (refine ACode.s_label ?_; conv => whnf))
  refine ACode.loopD (fun k : Nat => mk 46 [(0, .ptr 1 0), (1, .sl 1 (strs names)), (5, .int .i64 r.at_), (6, .str q.1), (7, .int .i64 k)]) (fun _ => RQ ts q.2) (fun k => k ≤ names.length ∧ idxOf q.1 names = (idxOf q.1 (names.drop k)).map (· + k)) (fun k => names.length - k) (fun k hk => ⟨rfl, ?_⟩) ⟨0, ?_⟩ (fun _ => rfl) fun k hk => ?_
  ·exact ⟨rfl, trivial⟩
  ·conv => whnf
   repeat (refine And.intro ?_ ?_; (focus (first | rfl | (simp; done))); conv => whnf)
   simp
  ·obtain ⟨hk1, hk2⟩ := hk
   repeat (first | refine ACode.seq ?_ | (refine ACode.s_reg tys_ok ?_; conv => whnf) | refine ACode.s_block ?_ | refine ACode.s_scope ?_ | (refine ACode.s_cond ?_; conv => whnf) | (refine ACode.s_exit ?_; conv => whnf) | (refine ACode.s_ret ?_; conv => whnf) | (refine ACode.s_skip ?_; conv => whnf) | (refine ACode.s_label ?_; conv => whnf))
   refine ⟨fun hlt2 => ?_, fun hge => ?_⟩
   ·have hlt2 : k < names.length := by simpa [strs] using hlt2
    rw [idx_step q.1 [] _ _ hlt2] at hk2
    repeat (first | refine ACode.seq ?_ | (refine ACode.s_reg tys_ok ?_; conv => whnf) | refine ACode.s_block ?_ | refine ACode.s_scope ?_ | (refine ACode.s_cond ?_; conv => whnf) | (refine ACode.s_exit ?_; conv => whnf) | (refine ACode.s_ret ?_; conv => whnf) | (refine ACode.s_skip ?_; conv => whnf) | (refine ACode.s_label ?_; conv => whnf))
    refine ⟨by omega, .str names[k], strs_get _ _ hlt2, ?_⟩
    conv => whnf
    repeat (first | refine ACode.seq ?_ | (refine ACode.s_reg tys_ok ?_; conv => whnf) | refine ACode.s_block ?_ | refine ACode.s_scope ?_ | (refine ACode.s_cond ?_; conv => whnf) | (refine ACode.s_exit ?_; conv => whnf) | (refine ACode.s_ret ?_; conv => whnf) | (refine ACode.s_skip ?_; conv => whnf) | (refine ACode.s_label ?_; conv => whnf))
    refine ⟨fun h1 => ?_, fun h1 => ?_⟩
    ·have h1 : names[k] = q.1 := by simpa using h1
     rw [decide_eq_true h1] at hk2
     simp only [cond_true] at hk2
     rw [hk2] at e0
     conv => whnf
     repeat (first | refine ACode.seq ?_ | (refine ACode.s_reg tys_ok ?_; conv => whnf) | refine ACode.s_block ?_ | refine ACode.s_scope ?_ | (refine ACode.s_cond ?_; conv => whnf) | (refine ACode.s_exit ?_; conv => whnf) | (refine ACode.s_ret ?_; conv => whnf) | (refine ACode.s_skip ?_; conv => whnf) | (refine ACode.s_label ?_; conv => whnf))
     simp only [e0]
     exact ⟨trivial, rfl⟩
    ·have h1 : ¬ names[k] = q.1 := by simpa using h1
     rw [decide_eq_false h1] at hk2
     simp only [cond_false] at hk2
     conv => whnf
     repeat (first | refine ACode.seq ?_ | (refine ACode.s_reg tys_ok ?_; conv => whnf) | refine ACode.s_block ?_ | refine ACode.s_scope ?_ | (refine ACode.s_cond ?_; conv => whnf) | (refine ACode.s_exit ?_; conv => whnf) | (refine ACode.s_ret ?_; conv => whnf) | (refine ACode.s_skip ?_; conv => whnf) | (refine ACode.s_label ?_; conv => whnf))
     refine ⟨k + 1, ?_⟩
     conv => whnf
     repeat (refine And.intro ?_ ?_; (focus (first | rfl | (simp; done) | (rw [Wr64 _ (by omega) (by omega)]; omega; done))); conv => whnf)
     exact ⟨⟨by omega, hk2⟩, by omega⟩
   ·have hge : k = names.length := by simp [strs] at hge; omega
    subst hge
    rw [idx_end] at hk2
    rw [hk2] at e0
    have hp : posI ts r.at_ = ts[r.at_].pos := by unfold posI; rw [List.getElem?_eq_getElem hlt]
    repeat (first | refine ACode.seq ?_ | (refine ACode.s_reg tys_ok ?_; conv => whnf) | refine ACode.s_block ?_ | refine ACode.s_scope ?_ | (refine ACode.s_cond ?_; conv => whnf) | (refine ACode.s_exit ?_; conv => whnf) | (refine ACode.s_ret ?_; conv => whnf) | (refine ACode.s_skip ?_; conv => whnf) | (refine ACode.s_label ?_; conv => whnf))
    refine ⟨by omega, tokA ts[r.at_], toks_get ts _ hlt, ?_⟩
    conv => whnf
    repeat (first | refine ACode.seq ?_ | (refine ACode.s_reg tys_ok ?_; conv => whnf) | refine ACode.s_block ?_ | refine ACode.s_scope ?_ | (refine ACode.s_cond ?_; conv => whnf) | (refine ACode.s_exit ?_; conv => whnf) | (refine ACode.s_ret ?_; conv => whnf) | (refine ACode.s_skip ?_; conv => whnf) | (refine ACode.s_label ?_; conv => whnf))
    simp only [e0, hp]
    exact ⟨rfl, rfl⟩
 ·rw [decide_eq_false he] at e0
  simp only [cond_false] at e0
  repeat (first | (refine no_br ?_ (fun _ => ?_); (focus (simp [he]; done)); conv => whnf) | (refine yes_br ?_ (fun _ => ?_); (focus (simp [he]; done)); conv => whnf) | refine ACode.seq ?_ | (refine ACode.s_reg tys_ok ?_; conv => whnf) | refine ACode.s_block ?_ | refine ACode.s_scope ?_ | (refine ACode.s_cond ?_; conv => whnf) | (refine ACode.s_exit ?_; conv => whnf) | (refine ACode.s_ret ?_; conv => whnf) | (refine ACode.s_skip ?_; conv => whnf) | (refine ACode.s_label ?_; conv => whnf))
  simp only [e0]
  exact ⟨rfl, rfl⟩
end
end Go.Proofs.YtmhlneeboefkgaaGreatDoor

set_option linter.unusedVariables false
set_option linter.unusedSimpArgs false
namespace Go.Proofs.YtmhlneeboefkgaaGreatDoor
open Go.Av Go.Av.Net Pl
theorem RM.bind_eq {α β : Type} {m : RM α} {g : α → RM β} {r r' : Rs} {a : α} (h : m r = (a, r')) : (m.bind g) r = g a r' := by unfold RM.bind; rw [h]
theorem RM.bind_assoc {α β γ : Type} (m : RM α) (f : α → RM β) (g : β → RM γ) : (m.bind f).bind g = m.bind fun a => (f a).bind g := rfl
theorem RM.ret_bind {α β : Type} (a : α) (f : α → RM β) : (RM.ret a).bind f = f a := rfl
theorem RM.ret_at {α : Type} (a : α) (r : Rs) : RM.ret a r = (a, r) := rfl
/-- The method keeps to the tokens. -/
def RAt {α : Type} (ts : List Tok) (m : RM α) : Prop := ∀ r : Rs, r.at_ ≤ ts.length → (m r).2.at_ ≤ ts.length
section
variable {ts : List Tok}
theorem _root_.Go.Av.ACall.of_rq {α : Type} {f : Nat} {args : List AV} {m : RM α} {enc : α → AV} {E : List AV} {o : HO} {rest : List HO} {K : AV → KK} {X : XX} {r : Rs} (h : RCtr f args ts m enc) (hat : RAt ts m) (hr : r.at_ ≤ ts.length)
  (hw : withins (RQ ts r) args = true) (hk : ∀ a r', m r = (a, r') → r'.at_ ≤ ts.length → K (enc a) E (o :: .cells [.sl 3 (toksA ts), .int .i64 r'.at_, .int .i64 r'.err, .int .i64 r'.place] :: rest)) :
  ACall Tryz.prog f args E (o :: .cells [.sl 3 (toksA ts), .int .i64 r.at_, .int .i64 r.err, .int .i64 r.place] :: rest) K X :=
 ACall.of_r r h hr hw (hk _ _ rfl (hat r hr))
theorem at_exp (k : Int) (x : Bs) : RAt ts (expR ts k x) := fun _ h => exp_at h
theorem at_item {α : Type} (z : α) (g : Tok → Option α) : RAt ts (itemR ts z g) := fun _ h => item_at h
theorem at_signed : RAt ts (signedR ts) := fun _ h => signed_at h
theorem at_after (w : Bs) : RAt ts (afterR ts w) := fun _ h => after_at h
theorem at_ref (names : List Bs) : RAt ts (refR ts names) := fun _ h => ref_at h
theorem at_name : RAt ts (nameR ts) := at_item _ _
theorem at_number : RAt ts (numberR ts) := at_item _ _
abbrev rC (ts : List Tok) (r : Rs) : HO := .cells [.sl 3 (toksA ts), .int .i64 r.at_, .int .i64 r.err, .int .i64 r.place]
/-- The reader and the network, as Parse holds them; o: more arrays. -/
def NQ (ts : List Tok) (r : Rs) (cs : List AV) (l : List HO) : List HO := .dead :: rC ts r :: .cells cs :: l
/-- The network while classes are read. -/
def clsCs (n : Nw) (k : Nat) : List AV := [.sl 3 (n.cals.map calA), .sl 1 (strs n.names), .sl 1 (n.opers.map operA), .sl 7 (n.offs.map offA), .sl 6 (n.lins.map linA), .own 8 3 0 k]
def clsH (n : Nw) (l : List Cls) : List HO := [.dead, .dead, .dead, .dead, .dead, .arr 49 3 (l.map clsA)]
set_option maxRecDepth 20000 in
theorem class_r (ht : TsOK ts) (n : Nw) (r : Rs) (hr : r.at_ ≤ ts.length) (hn : n.clss.length ≤ 4000) :
  HCtr Tryz.prog 25 [.ptr 1 0, .ptr 2 0] (NQ ts r (clsCs n n.clss.length) (clsH n n.clss))
   (fun v H => v = .tuple [] ∧ H = NQ ts (clsR ts r).2 (clsCs n (n.clss ++ [(clsR ts r).1]).length) (clsH n (n.clss ++ [(clsR ts r).1]))) (fun _ _ => False) := by
 have hl := ht.len
 generalize hp : clsR ts r = p
 replace hp := hp.symm
 unfold clsR at hp
 refine HCtr.of_body Tryz.func25 rfl tys_ok (by kernel_rfl) rfl ?_
 conv => whnf
 repeat (first | refine ACode.seq ?_ | (refine ACode.s_reg tys_ok ?_; conv => whnf) | refine ACode.s_block ?_ | refine ACode.s_scope ?_ | (refine ACode.s_cond ?_; conv => whnf) | (refine ACode.s_exit ?_; conv => whnf) | (refine ACode.s_ret ?_; conv => whnf) | (refine ACode.s_skip ?_; conv => whnf) | (refine ACode.s_label ?_; conv => whnf))
 refine ACall.of_rq (word_r hl w_class) (at_exp _ _) hr rfl (fun _ r hq hr => ?_)
 replace hp := hp.trans (RM.bind_eq hq)
 (conv => whnf)
 repeat (first | refine ACode.seq ?_ | (refine ACode.s_reg tys_ok ?_; conv => whnf) | refine ACode.s_block ?_ | refine ACode.s_scope ?_ | (refine ACode.s_cond ?_; conv => whnf) | (refine ACode.s_exit ?_; conv => whnf) | (refine ACode.s_ret ?_; conv => whnf) | (refine ACode.s_skip ?_; conv => whnf) | (refine ACode.s_label ?_; conv => whnf))
 refine ACall.of_rq (name_r ht) (at_name) hr rfl (fun name r hq hr => ?_)
 replace hp := hp.trans (RM.bind_eq hq)
 (conv => whnf)
 repeat (first | refine ACode.seq ?_ | (refine ACode.s_reg tys_ok ?_; conv => whnf) | refine ACode.s_block ?_ | refine ACode.s_scope ?_ | (refine ACode.s_cond ?_; conv => whnf) | (refine ACode.s_exit ?_; conv => whnf) | (refine ACode.s_ret ?_; conv => whnf) | (refine ACode.s_skip ?_; conv => whnf) | (refine ACode.s_label ?_; conv => whnf))
 refine ACall.of_rq (sign_r hl s_lb) (at_exp _ _) hr rfl (fun _ r hq hr => ?_)
 replace hp := hp.trans (RM.bind_eq hq)
 (conv => whnf)
 repeat (first | refine ACode.seq ?_ | (refine ACode.s_reg tys_ok ?_; conv => whnf) | refine ACode.s_block ?_ | refine ACode.s_scope ?_ | (refine ACode.s_cond ?_; conv => whnf) | (refine ACode.s_exit ?_; conv => whnf) | (refine ACode.s_ret ?_; conv => whnf) | (refine ACode.s_skip ?_; conv => whnf) | (refine ACode.s_label ?_; conv => whnf))
 refine ACall.of_rq (after_r ht w_cut) (at_after _) hr rfl (fun cut r hq hr => ?_)
 replace hp := hp.trans (RM.bind_eq hq)
 (conv => whnf)
 repeat (first | refine ACode.seq ?_ | (refine ACode.s_reg tys_ok ?_; conv => whnf) | refine ACode.s_block ?_ | refine ACode.s_scope ?_ | (refine ACode.s_cond ?_; conv => whnf) | (refine ACode.s_exit ?_; conv => whnf) | (refine ACode.s_ret ?_; conv => whnf) | (refine ACode.s_skip ?_; conv => whnf) | (refine ACode.s_label ?_; conv => whnf))
 refine ACall.of_rq (after_r ht w_deliver) (at_after _) hr rfl (fun deliver r hq hr => ?_)
 replace hp := hp.trans (RM.bind_eq hq)
 (conv => whnf)
 repeat (first | refine ACode.seq ?_ | (refine ACode.s_reg tys_ok ?_; conv => whnf) | refine ACode.s_block ?_ | refine ACode.s_scope ?_ | (refine ACode.s_cond ?_; conv => whnf) | (refine ACode.s_exit ?_; conv => whnf) | (refine ACode.s_ret ?_; conv => whnf) | (refine ACode.s_skip ?_; conv => whnf) | (refine ACode.s_label ?_; conv => whnf))
 refine ACall.of_rq (sign_r hl s_rb) (at_exp _ _) hr rfl (fun _ r hq hr => ?_)
 replace hp := hp.trans (RM.bind_eq hq)
 (conv => whnf)
 repeat (first | refine ACode.seq ?_ | (refine ACode.s_reg tys_ok ?_; conv => whnf) | refine ACode.s_block ?_ | refine ACode.s_scope ?_ | (refine ACode.s_cond ?_; conv => whnf) | (refine ACode.s_exit ?_; conv => whnf) | (refine ACode.s_ret ?_; conv => whnf) | (refine ACode.s_skip ?_; conv => whnf) | (refine ACode.s_label ?_; conv => whnf))
 refine ACode.drawI [] [7, 10] tys_ok (by kernel_rfl) (by kernel_rfl) ?_
 conv => whnf
 refine ⟨rfl, ?_⟩
 conv => whnf
 refine ⟨⟨by simp, by simp; omega⟩, ?_⟩
 conv => whnf
 repeat (first | refine ACode.seq ?_ | (refine ACode.s_reg tys_ok ?_; conv => whnf) | refine ACode.s_block ?_ | refine ACode.s_scope ?_ | (refine ACode.s_cond ?_; conv => whnf) | (refine ACode.s_exit ?_; conv => whnf) | (refine ACode.s_ret ?_; conv => whnf) | (refine ACode.s_skip ?_; conv => whnf) | (refine ACode.s_label ?_; conv => whnf))
 rw [hp, RM.ret_at]
 refine ⟨fun e he => ?_, ?_⟩
 ·rcases List.mem_append.1 he with h | h
  ·exact closed_map _ (fun _ => rfl) _ e h
  ·rw [List.mem_singleton.1 h]; rfl
 (conv => whnf)
 refine ⟨rfl, ?_⟩
 simp [NQ, clsA, clsCs, clsH]
end
end Go.Proofs.YtmhlneeboefkgaaGreatDoor
