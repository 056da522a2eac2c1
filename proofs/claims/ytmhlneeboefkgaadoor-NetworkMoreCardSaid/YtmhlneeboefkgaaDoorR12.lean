import Derived.Test.YtmhlneeboefkgaaDoorRc
import Derived.Test.YtmhlneeboefkgaaDoorP12
set_option linter.unusedVariables false
set_option linter.unusedSimpArgs false
namespace Go.Proofs.YtmhlneeboefkgaaDoor
open Go.Av Go.Av.Net Pl
theorem dig_u8 (n : Nat) (h : n < 10) : UInt8.ofNat ((48 : Int) + (n : Int)).toNat = 48 + n.toUInt8 := by
  have hc : n = 0 ∨ n = 1 ∨ n = 2 ∨ n = 3 ∨ n = 4 ∨ n = 5 ∨ n = 6 ∨ n = 7 ∨ n = 8 ∨ n = 9 := by omega
  rcases hc with h | h | h | h | h | h | h | h | h | h <;> subst h <;> rfl
theorem digits_spec : ∀ (k n : Nat), n < 10 ^ (k + 1) → k ≤ 6 → Ctr Tryd.prog 20 [.int .i64 n] (fun r => r = .str (digN n)) := by
  intro k
  induction k with
  | zero =>
    intro n hn hk
    have hn : n < 10 := by simpa using hn
    have e1 : ((n : Int)).tmod 10 = n := by rw [show (10 : Int) = ((10 : Nat) : Int) from rfl, ← Int.ofNat_tmod]; omega
    have e2 : Wr IntKind.i32 (Wr IntKind.i64 (48 + (n : Int))) = 48 + (n : Int) := by
      rw [Wr64 _ (by omega) (by omega)]
      exact Wr_eq _ _ (by unfold inK IntKind.min IntKind.max; simp [IntKind.signed, IntKind.bits]; omega)
    refine Ctr.of_body Tryd.func20 rfl tys_ok (by kernel_rfl) ?_
    conv => whnf
    repeat (first | refine ACode.seq ?_ | (refine ACode.s_reg tys_ok ?_; conv => whnf) | refine ACode.s_block ?_ | refine ACode.s_scope ?_ | (refine ACode.s_cond ?_; conv => whnf) | (refine ACode.s_exit ?_; conv => whnf) | (refine ACode.s_ret ?_; conv => whnf) | (refine ACode.s_skip ?_; conv => whnf) | (refine ACode.s_label ?_; conv => whnf))
    refine ⟨by decide, ?_⟩
    conv => whnf
    rw [e1]
    repeat (first | refine ACode.seq ?_ | (refine ACode.s_reg tys_ok ?_; conv => whnf) | refine ACode.s_block ?_ | refine ACode.s_scope ?_ | (refine ACode.s_cond ?_; conv => whnf) | (refine ACode.s_exit ?_; conv => whnf) | (refine ACode.s_ret ?_; conv => whnf) | (refine ACode.s_skip ?_; conv => whnf) | (refine ACode.s_label ?_; conv => whnf))
    rw [e2]
    refine ⟨⟨by omega, by omega⟩, ?_⟩
    conv => whnf
    repeat (first | refine ACode.seq ?_ | (refine ACode.s_reg tys_ok ?_; conv => whnf) | refine ACode.s_block ?_ | refine ACode.s_scope ?_ | (refine ACode.s_cond ?_; conv => whnf) | (refine ACode.s_exit ?_; conv => whnf) | (refine ACode.s_ret ?_; conv => whnf) | (refine ACode.s_skip ?_; conv => whnf) | (refine ACode.s_label ?_; conv => whnf))
    repeat (first | (refine yes_br ?_ (fun _ => ?_); (focus (simp; omega; done)); conv => whnf) | refine ACode.seq ?_ | (refine ACode.s_reg tys_ok ?_; conv => whnf) | refine ACode.s_block ?_ | refine ACode.s_scope ?_ | (refine ACode.s_cond ?_; conv => whnf) | (refine ACode.s_exit ?_; conv => whnf) | (refine ACode.s_ret ?_; conv => whnf) | (refine ACode.s_skip ?_; conv => whnf) | (refine ACode.s_label ?_; conv => whnf))
    rw [dig_u8 n hn, digN_eq, if_pos hn]
  | succ k ih =>
    intro n hn hk
    have e1 : ((n : Int)).tmod 10 = ((n % 10 : Nat) : Int) := by rw [show (10 : Int) = ((10 : Nat) : Int) from rfl, ← Int.ofNat_tmod]
    have e3 : ((n : Int)).tdiv 10 = ((n / 10 : Nat) : Int) := by rw [show (10 : Int) = ((10 : Nat) : Int) from rfl, ← Int.ofNat_tdiv]
    have e2 : Wr IntKind.i32 (Wr IntKind.i64 (48 + ((n % 10 : Nat) : Int))) = 48 + ((n % 10 : Nat) : Int) := by
      rw [Wr64 _ (by omega) (by omega)]
      exact Wr_eq _ _ (by unfold inK IntKind.min IntKind.max; simp [IntKind.signed, IntKind.bits]; omega)
    refine Ctr.of_body Tryd.func20 rfl tys_ok (by kernel_rfl) ?_
    conv => whnf
    repeat (first | refine ACode.seq ?_ | (refine ACode.s_reg tys_ok ?_; conv => whnf) | refine ACode.s_block ?_ | refine ACode.s_scope ?_ | (refine ACode.s_cond ?_; conv => whnf) | (refine ACode.s_exit ?_; conv => whnf) | (refine ACode.s_ret ?_; conv => whnf) | (refine ACode.s_skip ?_; conv => whnf) | (refine ACode.s_label ?_; conv => whnf))
    refine ⟨by decide, ?_⟩
    conv => whnf
    rw [e1]
    repeat (first | refine ACode.seq ?_ | (refine ACode.s_reg tys_ok ?_; conv => whnf) | refine ACode.s_block ?_ | refine ACode.s_scope ?_ | (refine ACode.s_cond ?_; conv => whnf) | (refine ACode.s_exit ?_; conv => whnf) | (refine ACode.s_ret ?_; conv => whnf) | (refine ACode.s_skip ?_; conv => whnf) | (refine ACode.s_label ?_; conv => whnf))
    rw [e2]
    refine ⟨⟨by omega, by omega⟩, ?_⟩
    conv => whnf
    repeat (first | refine ACode.seq ?_ | (refine ACode.s_reg tys_ok ?_; conv => whnf) | refine ACode.s_block ?_ | refine ACode.s_scope ?_ | (refine ACode.s_cond ?_; conv => whnf) | (refine ACode.s_exit ?_; conv => whnf) | (refine ACode.s_ret ?_; conv => whnf) | (refine ACode.s_skip ?_; conv => whnf) | (refine ACode.s_label ?_; conv => whnf))
    by_cases h10 : 10 ≤ n
    · repeat (first | (refine no_br ?_ (fun _ => ?_); (focus (simp; omega; done)); conv => whnf) | refine ACode.seq ?_ | (refine ACode.s_reg tys_ok ?_; conv => whnf) | refine ACode.s_block ?_ | refine ACode.s_scope ?_ | (refine ACode.s_cond ?_; conv => whnf) | (refine ACode.s_exit ?_; conv => whnf) | (refine ACode.s_ret ?_; conv => whnf) | (refine ACode.s_skip ?_; conv => whnf) | (refine ACode.s_label ?_; conv => whnf))
      refine ⟨by decide, ?_⟩
      conv => whnf
      rw [e3, Wr64 ((n / 10 : Nat) : Int) (by omega) (by have : 10 ^ (k + 1 + 1) ≤ 10 ^ 8 := Nat.pow_le_pow_right (by decide) (by omega); omega)]
      have hlen := digN_len k (n / 10) (by rw [Nat.pow_succ] at hn; omega)
      repeat (first | (refine ACall.of_spec (ih (n / 10) (by rw [Nat.pow_succ] at hn; omega) (by omega)) rfl fun r hr => ?_; subst hr; conv => whnf) | refine ACode.seq ?_ | (refine ACode.s_reg tys_ok ?_; conv => whnf) | refine ACode.s_block ?_ | refine ACode.s_scope ?_ | (refine ACode.s_cond ?_; conv => whnf) | (refine ACode.s_exit ?_; conv => whnf) | (refine ACode.s_ret ?_; conv => whnf) | (refine ACode.s_skip ?_; conv => whnf) | (refine ACode.s_label ?_; conv => whnf))
      refine ⟨by simp; omega, ?_⟩
      conv => whnf
      repeat (first | refine ACode.seq ?_ | (refine ACode.s_reg tys_ok ?_; conv => whnf) | refine ACode.s_block ?_ | refine ACode.s_scope ?_ | (refine ACode.s_cond ?_; conv => whnf) | (refine ACode.s_exit ?_; conv => whnf) | (refine ACode.s_ret ?_; conv => whnf) | (refine ACode.s_skip ?_; conv => whnf) | (refine ACode.s_label ?_; conv => whnf))
      rw [dig_u8 (n % 10) (by omega)]
      conv => rhs; rw [digN_eq, if_neg (by omega)]
    · repeat (first | (refine yes_br ?_ (fun _ => ?_); (focus (simp; omega; done)); conv => whnf) | refine ACode.seq ?_ | (refine ACode.s_reg tys_ok ?_; conv => whnf) | refine ACode.s_block ?_ | refine ACode.s_scope ?_ | (refine ACode.s_cond ?_; conv => whnf) | (refine ACode.s_exit ?_; conv => whnf) | (refine ACode.s_ret ?_; conv => whnf) | (refine ACode.s_skip ?_; conv => whnf) | (refine ACode.s_label ?_; conv => whnf))
      rw [dig_u8 (n % 10) (by omega), digN_eq, if_pos (by omega), show n % 10 = n by omega]
set_option maxRecDepth 20000 in
set_option maxHeartbeats 4000000 in
theorem more_law (s name : Bs) (a b : Nat) (ha : a < 65536) (hb : b < 65536) (hs : s.length ≤ 9223372036854775807) (hnl : name.length ≤ 9223372036854775807) : Ctr Tryd.prog 6 [.str s, .str name, .int .u16 a, .int .u16 b] (fun r => r = .bool true) := by
  refine Ctr.lits ?_
  refine Ctr.of_body Tryd.func6 rfl tys_ok (by kernel_rfl) ?_
  conv => whnf
  repeat (first | refine ACode.seq ?_ | (refine ACode.s_reg tys_ok ?_; conv => whnf) | refine ACode.s_block ?_ | refine ACode.s_scope ?_ | (refine ACode.s_cond ?_; conv => whnf) | (refine ACode.s_exit ?_; conv => whnf) | (refine ACode.s_ret ?_; conv => whnf) | (refine ACode.s_skip ?_; conv => whnf) | (refine ACode.s_label ?_; conv => whnf))
  refine ACall.of_spec (head_spec) rfl fun r hr => ?_
  subst hr
  conv => whnf
  repeat (first | refine ACode.seq ?_ | (refine ACode.s_reg tys_ok ?_; conv => whnf) | refine ACode.s_block ?_ | refine ACode.s_scope ?_ | (refine ACode.s_cond ?_; conv => whnf) | (refine ACode.s_exit ?_; conv => whnf) | (refine ACode.s_ret ?_; conv => whnf) | (refine ACode.s_skip ?_; conv => whnf) | (refine ACode.s_label ?_; conv => whnf))
  have hp := parse_post s
  cases hR : parseP s with
  | err e p =>
    rw [hR] at hp
    obtain ⟨h1, h2⟩ := hp
    have hne : ¬ e = 0 := by rcases h2 with rfl | rfl | rfl | rfl | rfl <;> decide
    refine ACall.of_spec (parse_x hs hR) rfl fun r hr => ?_
    subst hr
    conv => whnf
    repeat (first | refine ACode.seq ?_ | (refine ACode.s_reg tys_ok ?_; conv => whnf) | refine ACode.s_block ?_ | refine ACode.s_scope ?_ | (refine ACode.s_cond ?_; conv => whnf) | (refine ACode.s_exit ?_; conv => whnf) | (refine ACode.s_ret ?_; conv => whnf) | (refine ACode.s_skip ?_; conv => whnf) | (refine ACode.s_label ?_; conv => whnf))
    by_cases h8 : s.length ≤ 7900
    all_goals
      repeat (first | (refine no_br ?_ (fun _ => ?_); (focus (simp; omega; done)); conv => whnf) | (refine yes_br ?_ (fun _ => ?_); (focus (simp; omega; done)); conv => whnf) | (refine yes_br ?_ (fun _ => ?_); (focus (simp [hne]; done)); conv => whnf) | (refine no_br ?_ (fun _ => ?_); (focus (simp [hne]; done)); conv => whnf) | refine ACode.seq ?_ | (refine ACode.s_reg tys_ok ?_; conv => whnf) | refine ACode.s_block ?_ | refine ACode.s_scope ?_ | (refine ACode.s_cond ?_; conv => whnf) | (refine ACode.s_exit ?_; conv => whnf) | (refine ACode.s_ret ?_; conv => whnf) | (refine ACode.s_skip ?_; conv => whnf) | (refine ACode.s_label ?_; conv => whnf))
      exact .inr rfl
  | ok n =>
    rw [hR] at hp
    obtain ⟨hn, h8⟩ := hp
    obtain ⟨hsml, hsz⟩ := parse_sml hR
    refine ACall.of_spec (parse_x hs hR) rfl fun r hr => ?_
    subst hr
    conv => whnf
    repeat (first | refine ACode.seq ?_ | (refine ACode.s_reg tys_ok ?_; conv => whnf) | refine ACode.s_block ?_ | refine ACode.s_scope ?_ | (refine ACode.s_cond ?_; conv => whnf) | (refine ACode.s_exit ?_; conv => whnf) | (refine ACode.s_ret ?_; conv => whnf) | (refine ACode.s_skip ?_; conv => whnf) | (refine ACode.s_label ?_; conv => whnf))
    by_cases h79 : s.length ≤ 7900
    · repeat (first | (refine no_br ?_ (fun _ => ?_); (focus (simp; omega; done)); conv => whnf) | (refine yes_br ?_ (fun _ => ?_); (focus (simp; omega; done)); conv => whnf) | (refine no_br ?_ (fun _ => ?_); (focus (simp; done)); conv => whnf) | (refine yes_br ?_ (fun _ => ?_); (focus (simp; done)); conv => whnf) | (refine ACall.of_spec (rName_spec name hnl) rfl fun r hr => ?_; subst hr; conv => whnf) | refine ACode.seq ?_ | (refine ACode.s_reg tys_ok ?_; conv => whnf) | refine ACode.s_block ?_ | refine ACode.s_scope ?_ | (refine ACode.s_cond ?_; conv => whnf) | (refine ACode.s_exit ?_; conv => whnf) | (refine ACode.s_ret ?_; conv => whnf) | (refine ACode.s_skip ?_; conv => whnf) | (refine ACode.s_label ?_; conv => whnf))
      cases hnm : isNameB name with
      | false =>
        repeat (first | (refine no_br ?_ (fun _ => ?_); (focus (simp; done)); conv => whnf) | (refine yes_br ?_ (fun _ => ?_); (focus (simp; done)); conv => whnf) | refine ACode.seq ?_ | (refine ACode.s_reg tys_ok ?_; conv => whnf) | refine ACode.s_block ?_ | refine ACode.s_scope ?_ | (refine ACode.s_cond ?_; conv => whnf) | (refine ACode.s_exit ?_; conv => whnf) | (refine ACode.s_ret ?_; conv => whnf) | (refine ACode.s_skip ?_; conv => whnf) | (refine ACode.s_label ?_; conv => whnf))
        exact .inr rfl
      | true =>
        have hnl16 := name_len hnm
        cases hL : lexP s with
        | err e2 p2 =>
          exfalso
          unfold parseP at hR; rw [hL] at hR; cases hR
        | ok l =>
          repeat (first | (refine no_br ?_ (fun _ => ?_); (focus (simp; done)); conv => whnf) | (refine yes_br ?_ (fun _ => ?_); (focus (simp; done)); conv => whnf) | (refine ACall.of_spec (rlex_at hs hL) rfl fun r hr => ?_; subst hr; conv => whnf) | refine ACode.seq ?_ | (refine ACode.s_reg tys_ok ?_; conv => whnf) | refine ACode.s_block ?_ | refine ACode.s_scope ?_ | (refine ACode.s_cond ?_; conv => whnf) | (refine ACode.s_exit ?_; conv => whnf) | (refine ACode.s_ret ?_; conv => whnf) | (refine ACode.s_skip ?_; conv => whnf) | (refine ACode.s_label ?_; conv => whnf))
          by_cases h29 : l.length ≤ 2900
          · repeat (first | (refine no_br ?_ (fun _ => ?_); (focus (simp; omega; done)); conv => whnf) | (refine yes_br ?_ (fun _ => ?_); (focus (simp; omega; done)); conv => whnf) | refine ACode.seq ?_ | (refine ACode.s_reg tys_ok ?_; conv => whnf) | refine ACode.s_block ?_ | refine ACode.s_scope ?_ | (refine ACode.s_cond ?_; conv => whnf) | (refine ACode.s_exit ?_; conv => whnf) | (refine ACode.s_ret ?_; conv => whnf) | (refine ACode.s_skip ?_; conv => whnf) | (refine ACode.s_label ?_; conv => whnf))
            have wa : Wr IntKind.i64 (a : Int) = a := by rw [Wr64 _ (by omega) (by omega)]
            have wb : Wr IntKind.i64 (b : Int) = b := by rw [Wr64 _ (by omega) (by omega)]
            have la := digN_len 7 a (by omega)
            have lb := digN_len 7 b (by omega)
            repeat (first | (refine And.intro ?_ ?_; (focus (simp; omega; done)); conv => whnf) | refine ACode.seq ?_ | (refine ACode.s_reg tys_ok ?_; conv => whnf) | refine ACode.s_block ?_ | refine ACode.s_scope ?_ | (refine ACode.s_cond ?_; conv => whnf) | (refine ACode.s_exit ?_; conv => whnf) | (refine ACode.s_ret ?_; conv => whnf) | (refine ACode.s_skip ?_; conv => whnf) | (refine ACode.s_label ?_; conv => whnf))
            rw [wa]
            repeat (first | (refine ACall.of_spec (digits_spec 6 a (by omega) (by decide)) rfl fun r hr => ?_; subst hr; conv => whnf) | (refine And.intro ?_ ?_; (focus (simp; omega; done)); conv => whnf) | refine ACode.seq ?_ | (refine ACode.s_reg tys_ok ?_; conv => whnf) | refine ACode.s_block ?_ | refine ACode.s_scope ?_ | (refine ACode.s_cond ?_; conv => whnf) | (refine ACode.s_exit ?_; conv => whnf) | (refine ACode.s_ret ?_; conv => whnf) | (refine ACode.s_skip ?_; conv => whnf) | (refine ACode.s_label ?_; conv => whnf))
            rw [wb]
            repeat (first | (refine ACall.of_spec (digits_spec 6 b (by omega) (by decide)) rfl fun r hr => ?_; subst hr; conv => whnf) | (refine And.intro ?_ ?_; (focus (simp; omega; done)); conv => whnf) | refine ACode.seq ?_ | (refine ACode.s_reg tys_ok ?_; conv => whnf) | refine ACode.s_block ?_ | refine ACode.s_scope ?_ | (refine ACode.s_cond ?_; conv => whnf) | (refine ACode.s_exit ?_; conv => whnf) | (refine ACode.s_ret ?_; conv => whnf) | (refine ACode.s_skip ?_; conv => whnf) | (refine ACode.s_label ?_; conv => whnf))
            obtain ⟨hmp, hml⟩ := more_parse hL hR h29 h79 hnm hnl16 ha hb
            have eT : s ++ (⟨#[10, 99, 108, 97, 115, 115, 32]⟩ : ByteArray).data.toList ++ name ++ (⟨#[32, 123, 32, 99, 117, 116, 32]⟩ : ByteArray).data.toList ++ digN a ++ (⟨#[59, 32, 100, 101, 108, 105, 118, 101, 114, 32]⟩ : ByteArray).data.toList ++ digN b ++ (⟨#[59, 32, 125]⟩ : ByteArray).data.toList = s ++ 10 :: clsT name a b := by
              simp [clsT, w_class, w_cut, w_deliver, s_lb, s_rb, s_semi]
            rw [eT]
            have hml' : (s ++ 10 :: clsT name a b).length ≤ 9223372036854775807 := by omega
            refine ACall.of_spec (parse_x hml' hmp) rfl fun r hr => ?_
            subst hr
            conv => whnf
            repeat (first | refine ACode.seq ?_ | (refine ACode.s_reg tys_ok ?_; conv => whnf) | refine ACode.s_block ?_ | refine ACode.s_scope ?_ | (refine ACode.s_cond ?_; conv => whnf) | (refine ACode.s_exit ?_; conv => whnf) | (refine ACode.s_ret ?_; conv => whnf) | (refine ACode.s_skip ?_; conv => whnf) | (refine ACode.s_label ?_; conv => whnf))
            have ew : Wr IntKind.i64 ((n.clss.length : Int) + 1) = ((n.clss.length + 1 : Nat) : Int) := by obtain ⟨_, _, _, _, _, m6, _, _⟩ := hsml; rw [Wr64 _ (by omega) (by omega)]; omega
            repeat (first | (refine no_br ?_ (fun _ => ?_); (focus (simp [ew]; done)); conv => whnf) | (refine yes_br ?_ (fun _ => ?_); (focus (simp [ew]; done)); conv => whnf) | (refine ⟨by omega, clsA ⟨name, a, b⟩, (by simp), ?_⟩; conv => whnf) | refine ACode.seq ?_ | (refine ACode.s_reg tys_ok ?_; conv => whnf) | refine ACode.s_block ?_ | refine ACode.s_scope ?_ | (refine ACode.s_cond ?_; conv => whnf) | (refine ACode.s_exit ?_; conv => whnf) | (refine ACode.s_ret ?_; conv => whnf) | (refine ACode.s_skip ?_; conv => whnf) | (refine ACode.s_label ?_; conv => whnf))
            repeat (first | (refine no_br ?_ (fun _ => ?_); (focus (simp [wa, wb]; done)); conv => whnf) | (refine yes_br ?_ (fun _ => ?_); (focus (simp [wa, wb]; done)); conv => whnf) | refine ACode.seq ?_ | (refine ACode.s_reg tys_ok ?_; conv => whnf) | refine ACode.s_block ?_ | refine ACode.s_scope ?_ | (refine ACode.s_cond ?_; conv => whnf) | (refine ACode.s_exit ?_; conv => whnf) | (refine ACode.s_ret ?_; conv => whnf) | (refine ACode.s_skip ?_; conv => whnf) | (refine ACode.s_label ?_; conv => whnf))
            refine ⟨⟨by omega, by omega, by simp; omega⟩, ?_⟩
            conv => whnf
            have et : List.drop (Int.toNat 0) (List.take (((n.clss.map clsA).length : Int)).toNat ((n.clss ++ [(⟨name, (a : Int), (b : Int)⟩ : Cls)]).map clsA)) = n.clss.map clsA := by
              rw [List.map_append, Int.toNat_natCast, List.take_left]; rfl
            simp only [et]
            repeat (first | refine ACode.seq ?_ | (refine ACode.s_reg tys_ok ?_; conv => whnf) | refine ACode.s_block ?_ | refine ACode.s_scope ?_ | (refine ACode.s_cond ?_; conv => whnf) | (refine ACode.s_exit ?_; conv => whnf) | (refine ACode.s_ret ?_; conv => whnf) | (refine ACode.s_skip ?_; conv => whnf) | (refine ACode.s_label ?_; conv => whnf))
            repeat (first | (refine ACall.of_spec (same_true hsml) rfl fun r hr => ?_; subst hr; conv => whnf) | (refine ⟨_, ⟨same_true hsml, rfl⟩, ?_⟩; conv => whnf) | (refine no_br ?_ (fun _ => ?_); (focus (simp; done)); conv => whnf) | (refine yes_br ?_ (fun _ => ?_); (focus (simp; done)); conv => whnf) | refine ACode.seq ?_ | (refine ACode.s_reg tys_ok ?_; conv => whnf) | refine ACode.s_block ?_ | refine ACode.s_scope ?_ | (refine ACode.s_cond ?_; conv => whnf) | (refine ACode.s_exit ?_; conv => whnf) | (refine ACode.s_ret ?_; conv => whnf) | (refine ACode.s_skip ?_; conv => whnf) | (refine ACode.s_label ?_; conv => whnf))
            by_cases hc0 : n.cals = []
            · obtain ⟨f1, f2, f3, f4⟩ := front_parse hL hR h29 h79 hnm hnl16 hc0
              repeat (first | (refine no_br ?_ (fun _ => ?_); (focus (simp [hc0]; done)); conv => whnf) | (refine yes_br ?_ (fun _ => ?_); (focus (simp [hc0]; done)); conv => whnf) | (refine And.intro ?_ ?_; (focus (simp; omega; done)); conv => whnf) | refine ACode.seq ?_ | (refine ACode.s_reg tys_ok ?_; conv => whnf) | refine ACode.s_block ?_ | refine ACode.s_scope ?_ | (refine ACode.s_cond ?_; conv => whnf) | (refine ACode.s_exit ?_; conv => whnf) | (refine ACode.s_ret ?_; conv => whnf) | (refine ACode.s_skip ?_; conv => whnf) | (refine ACode.s_label ?_; conv => whnf))
              have eT2 : (⟨#[111, 112, 101, 114, 97, 116, 111, 114, 32]⟩ : ByteArray).data.toList ++ name ++ (⟨#[59]⟩ : ByteArray).data.toList ++ s = w_operator ++ 32 :: (name ++ (s_semi ++ s)) := by
                simp [w_operator, s_semi]
              rw [eT2]
              have hfl : (w_operator ++ 32 :: (name ++ (s_semi ++ s))).length ≤ 9223372036854775807 := by omega
              have ew2 : Wr IntKind.i64 ((n.opers.length : Int) + 1) = ((n.opers.length + 1 : Nat) : Int) := by obtain ⟨_, _, m3, _, _, _, _, _⟩ := hsml; rw [Wr64 _ (by omega) (by omega)]; omega
              have ew0 : Wr IntKind.i64 ((n.offs.length : Int) + n.lins.length) = 0 := by rw [f3, f4]; exact Wr64 _ (by decide) (by decide)
              refine ACall.of_spec (parse_x hfl f1) rfl fun r hr => ?_
              subst hr
              conv => whnf
              repeat (first | refine ACode.seq ?_ | (refine ACode.s_reg tys_ok ?_; conv => whnf) | refine ACode.s_block ?_ | refine ACode.s_scope ?_ | (refine ACode.s_cond ?_; conv => whnf) | (refine ACode.s_exit ?_; conv => whnf) | (refine ACode.s_ret ?_; conv => whnf) | (refine ACode.s_skip ?_; conv => whnf) | (refine ACode.s_label ?_; conv => whnf))
              repeat (first | (refine no_br ?_ (fun _ => ?_); (focus (simp [ew2, addO]; done)); conv => whnf) | (refine yes_br ?_ (fun _ => ?_); (focus (simp [ew2, addO]; done)); conv => whnf) | (refine ⟨by omega, operA name, (by simp [addO]), ?_⟩; conv => whnf) | (refine no_br ?_ (fun _ => ?_); (focus (simp [ew0]; done)); conv => whnf) | (refine yes_br ?_ (fun _ => ?_); (focus (simp [ew0]; done)); conv => whnf) | refine ACode.seq ?_ | (refine ACode.s_reg tys_ok ?_; conv => whnf) | refine ACode.s_block ?_ | refine ACode.s_scope ?_ | (refine ACode.s_cond ?_; conv => whnf) | (refine ACode.s_exit ?_; conv => whnf) | (refine ACode.s_ret ?_; conv => whnf) | (refine ACode.s_skip ?_; conv => whnf) | (refine ACode.s_label ?_; conv => whnf))
              refine ⟨⟨by decide, by simp [addO]; omega, by omega⟩, ?_⟩
              conv => whnf
              have et2 : List.drop (Int.toNat 1) (List.take ((((addO name n).opers.map operA).length : Int)).toNat ((addO name n).opers.map operA)) = n.opers.map operA := by
                rw [Int.toNat_natCast, List.take_length]; rfl
              simp only [et2]
              repeat (first | refine ACode.seq ?_ | (refine ACode.s_reg tys_ok ?_; conv => whnf) | refine ACode.s_block ?_ | refine ACode.s_scope ?_ | (refine ACode.s_cond ?_; conv => whnf) | (refine ACode.s_exit ?_; conv => whnf) | (refine ACode.s_ret ?_; conv => whnf) | (refine ACode.s_skip ?_; conv => whnf) | (refine ACode.s_label ?_; conv => whnf))
              repeat (first | (refine ACall.of_spec (same_true hsml) rfl fun r hr => ?_; subst hr; conv => whnf) | (refine ⟨_, ⟨same_true hsml, rfl⟩, ?_⟩; conv => whnf) | (refine no_br ?_ (fun _ => ?_); (focus (simp; done)); conv => whnf) | (refine yes_br ?_ (fun _ => ?_); (focus (simp; done)); conv => whnf) | (refine ACode.draw [] tys_ok (by kernel_rfl) (by kernel_rfl) ?_; conv => whnf) | refine ACode.seq ?_ | (refine ACode.s_reg tys_ok ?_; conv => whnf) | refine ACode.s_block ?_ | refine ACode.s_scope ?_ | (refine ACode.s_cond ?_; conv => whnf) | (refine ACode.s_exit ?_; conv => whnf) | (refine ACode.s_ret ?_; conv => whnf) | (refine ACode.s_skip ?_; conv => whnf) | (refine ACode.s_label ?_; conv => whnf))
              first | exact .inr rfl | exact .inl rfl
            · have hcp : 0 < n.cals.length := List.length_pos_iff.2 hc0
              repeat (first | (refine no_br ?_ (fun _ => ?_); (focus (simp; omega; done)); conv => whnf) | (refine yes_br ?_ (fun _ => ?_); (focus (simp; omega; done)); conv => whnf) | refine ACode.seq ?_ | (refine ACode.s_reg tys_ok ?_; conv => whnf) | refine ACode.s_block ?_ | refine ACode.s_scope ?_ | (refine ACode.s_cond ?_; conv => whnf) | (refine ACode.s_exit ?_; conv => whnf) | (refine ACode.s_ret ?_; conv => whnf) | (refine ACode.s_skip ?_; conv => whnf) | (refine ACode.s_label ?_; conv => whnf))
              exact .inr rfl
          · repeat (first | (refine no_br ?_ (fun _ => ?_); (focus (simp; omega; done)); conv => whnf) | (refine yes_br ?_ (fun _ => ?_); (focus (simp; omega; done)); conv => whnf) | refine ACode.seq ?_ | (refine ACode.s_reg tys_ok ?_; conv => whnf) | refine ACode.s_block ?_ | refine ACode.s_scope ?_ | (refine ACode.s_cond ?_; conv => whnf) | (refine ACode.s_exit ?_; conv => whnf) | (refine ACode.s_ret ?_; conv => whnf) | (refine ACode.s_skip ?_; conv => whnf) | (refine ACode.s_label ?_; conv => whnf))
            exact .inr rfl
    · repeat (first | (refine no_br ?_ (fun _ => ?_); (focus (simp; omega; done)); conv => whnf) | (refine yes_br ?_ (fun _ => ?_); (focus (simp; omega; done)); conv => whnf) | refine ACode.seq ?_ | (refine ACode.s_reg tys_ok ?_; conv => whnf) | refine ACode.s_block ?_ | refine ACode.s_scope ?_ | (refine ACode.s_cond ?_; conv => whnf) | (refine ACode.s_exit ?_; conv => whnf) | (refine ACode.s_ret ?_; conv => whnf) | (refine ACode.s_skip ?_; conv => whnf) | (refine ACode.s_label ?_; conv => whnf))
      exact .inr rfl
end Go.Proofs.YtmhlneeboefkgaaDoor
