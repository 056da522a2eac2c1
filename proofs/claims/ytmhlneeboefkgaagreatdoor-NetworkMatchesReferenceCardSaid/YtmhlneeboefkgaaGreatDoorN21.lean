import Derived.Test.YtmhlneeboefkgaaGreatDoorN20c
set_option linter.unusedVariables false
set_option linter.unusedSimpArgs false
namespace Go.Proofs.YtmhlneeboefkgaaGreatDoor
open Go.Av Go.Av.Net
theorem ge_lin {ts : List KT} (n : Nw) (i : Nat) : Ge (linP ts n i) i := by
 unfold linP
 exact (ge_expect 1 w_line i).bind fun _ i => (ge_name i).bind fun _ i => (ge_expect 3 s_colon i).bind fun _ i => (ge_ref _ i).bind fun _ i => (ge_expect 3 s_arrow i).bind fun _ i => (ge_ref _ i).bind fun _ i => (ge_expect 1 w_at i).bind fun _ i => (ge_number i).bind fun _ i =>
  (ge_expect 1 w_travel i).bind fun _ i => (ge_number i).bind fun _ i => (ge_expect 1 w_load i).bind fun _ i => (ge_number i).bind fun _ i => (ge_expect 3 s_semi i).bind fun _ i => ge_ok _ _
theorem ge_cls {ts : List KT} (i : Nat) : Ge (clsP ts i) i := by
 unfold clsP
 exact (ge_expect 1 w_class i).bind fun _ i => (ge_name i).bind fun _ i => (ge_expect 3 s_lb i).bind fun _ i => (ge_field w_cut i).bind fun _ i => (ge_field w_deliver i).bind fun _ i => (ge_expect 3 s_rb i).bind fun _ i => ge_ok _ _
theorem ge_lins {ts : List KT} : ∀ (f : Nat) (n : Nw) (i : Nat), Ge (linsP ts f n i) i
 | 0, n, i => ge_ok _ _
 | f + 1, n, i => by
  unfold linsP
  cases seesP ts 1 w_line i with
  | true => exact (ge_lin n i).bind fun _ i => ge_lins f _ i
  | false => exact ge_ok _ _
theorem ge_clss {ts : List KT} : ∀ (f : Nat) (n : Nw) (i : Nat), Ge (clssP ts f n i) i
 | 0, n, i => ge_ok _ _
 | f + 1, n, i => by
  unfold clssP
  cases seesP ts 1 w_class i with
  | true => exact (ge_cls i).bind fun _ i => ge_clss f _ i
  | false => exact ge_ok _ _
theorem ge_lines {ts : List KT} {f : Nat} {n n' : Nw} {i j : Nat} (h : linsP ts f n i = .ok n' j) : i ≤ j := by
 have := ge_lins (ts := ts) f n i; rw [h] at this; exact this
theorem ge_classes {ts : List KT} {f : Nat} {n n' : Nw} {i j : Nat} (h : clssP ts f n i = .ok n' j) : i ≤ j := by
 have := ge_clss (ts := ts) f n i; rw [h] at this; exact this
/-! ### The five sections, one after the other -/
def ch5 (ts : List KT) (L : Nat) (n : Nw) (i : Nat) : PR Nw := bif decide (i < L) then .fail 90 i else .ok n i
def ch4 (ts : List KT) (L : Nat) (n : Nw) (i : Nat) : PR Nw := (clssP ts L n i).bind (ch5 ts L)
def ch3 (ts : List KT) (L : Nat) (n : Nw) (i : Nat) : PR Nw := (linsP ts L n i).bind (ch4 ts L)
def ch2 (ts : List KT) (L : Nat) (n : Nw) (i : Nat) : PR Nw := (offsP ts L n i).bind (ch3 ts L)
def ch1 (ts : List KT) (L : Nat) (n : Nw) (i : Nat) : PR Nw := (opersP ts L n i).bind (ch2 ts L)
def ch0 (ts : List KT) (L : Nat) (n : Nw) (i : Nat) : PR Nw := (calsP ts L n i).bind (ch1 ts L)
def chain (ts : List KT) (L : Nat) : Nat → Nw → Nat → PR Nw
 | 0 => ch0 ts L
 | 1 => ch1 ts L
 | 2 => ch2 ts L
 | 3 => ch3 ts L
 | 4 => ch4 ts L
 | _ => ch5 ts L
def fldA (k m : Nat) (l : AV) : AV := bif Nat.ble k m then nilA else l
def PC (ts : List Tok) (len k i : Nat) (n : Nw) : List AV :=
 [.sl 3 (toksA ts), .int .i64 i, .int .i64 len, fldA k 0 (.sl 3 (n.cals.map calA)), fldA k 0 (.sl 1 (strs n.names)), fldA k 1 (.sl 1 (n.opers.map operA)), fldA k 2 (.sl 7 (n.offs.map offA)), fldA k 3 (.sl 6 (n.lins.map linA)), fldA k 4 (.sl 3 (n.clss.map clsA))]
def secsA : List AV := [.mv 12 [.ptr 4 0], .mv 13 [.ptr 4 0], .mv 14 [.ptr 4 0], .mv 15 [.ptr 4 0], .mv 16 [.ptr 4 0]]
structure StepOK (ts : List Tok) (k i : Nat) (n : Nw) : Prop where
 k5 : k ≤ 5
 hi : i ≤ ts.length
 net : netP (kts ts) = chain (kts ts) ts.length k n i
 cals : k ≤ 0 → n.cals = [] ∧ n.names = []
 opers : k ≤ 1 → n.opers = []
 offs : k ≤ 2 → n.offs = []
 lins : k ≤ 3 → n.lins = []
 clss : k ≤ 4 → n.clss = []
 ln : n.names.length ≤ i
 lo : n.opers.length ≤ i
 lf : n.offs.length ≤ i
set_option maxRecDepth 100000 in
set_option maxHeartbeats 4000000 in
theorem Parse_spec0 (s : Bs) (hs : s.length ≤ 9223372036854775807) : Ctr Tryz.prog 5 [.str s] (fun r => r = resP0 (parseP s)) := by
 refine Ctr.of_body_defer Tryz.func5 rfl tys_ok (by kernel_rfl) ?_
 conv => whnf
 refine ADef.seq1 (cd_sound tys_ok _ ?_)
 conv => whnf
 refine ADef.seq1 (cd_sound tys_ok _ ?_)
 conv => whnf
 refine ACall.of_spec (Lex_spec s hs) rfl fun r hr => ?_
 subst hr
 conv => whnf
 have hpp := parse_post s
 cases hL : lexP s with
 | err e q =>
  obtain ⟨h1, h2⟩ := lexP_err hL
  have hP : parseP s = .err e q := by unfold parseP; rw [hL]
  rw [hP]
  conv => whnf
  refine ADef.seq1 (cd_sound tys_ok _ ?_)
  conv => whnf
  refine ⟨fun h => ?_, fun h => absurd h (by rcases h2 with rfl | rfl <;> simp)⟩
  conv => whnf
  refine ACode.drawAll (.one 0 (.one 1 (.one 2 (.one 3 (.one 4 (.one 5 .done .none) .none) .none) (.one 3 (.one 2 (.one 4 (.one 5 .done .none) .none) (.one 4 (.one 2 (.one 5 .done .none) .none) .none)) .none)) (.one 2 (.one 1 (.one 3 (.one 4 (.one 5 .done .none) .none) .none) (.one 3 (.one 1 (.one 4 (.one 5 .done .none) .none) .none) .none)) (.one 3 (.one 1 (.one 2 (.one 4 (.one 5 .done .none) .none) (.one 4 (.one 2 (.one 5 .done .none) .none) .none)) (.one 2 (.one 1 (.one 4 (.one 5 .done .none) .none) .none) .none)) .none))) (.one 1 (.one 0 (.one 2 (.one 3 (.one 4 (.one 5 .done .none) .none) .none) (.one 3 (.one 2 (.one 4 (.one 5 .done .none) .none) (.one 4 (.one 2 (.one 5 .done .none) .none) .none)) .none)) (.one 2 (.one 0 (.one 3 (.one 4 (.one 5 .done .none) .none) .none) .none) .none)) (.one 2 (.one 0 (.one 1 (.one 3 (.one 4 (.one 5 .done .none) .none) .none) (.one 3 (.one 1 (.one 4 (.one 5 .done .none) .none) .none) .none)) (.one 1 (.one 0 (.one 3 (.one 4 (.one 5 .done .none) .none) .none) .none) .none)) .none))) tys_ok (by kernel_rfl) (by kernel_rfl) ?_
  repeat' (first | exact True.intro | (refine EnF.step ?_; conv => whnf) | (refine And.intro ?_ ?_ <;> conv => whnf))
  all_goals (
   refine ⟨3, ?_⟩
   (conv => whnf)
   refine ⟨1, ?_⟩
   (conv => whnf)
   refine ⟨1, ?_⟩
   (conv => whnf)
   refine ⟨7, ?_⟩
   (conv => whnf)
   refine ⟨6, ?_⟩
   (conv => whnf)
   refine ⟨3, ?_⟩
   rfl)
 | ok ts =>
  obtain ⟨ht, h8, hpos⟩ := lexP_ok hL
  have hl := ht.len
  have hP : parseP s = match netP (kts ts) with | .ok n _ => .ok n | .fail e i => .err e (offs ts s.length i) := by unfold parseP; rw [hL]; rfl
  conv => whnf
  refine ADef.seq1 (cd_sound tys_ok _ ?_)
  conv => whnf
  refine ⟨fun h => absurd h (by simp), fun h => ?_⟩
  conv => whnf
  refine ADef.seq2 (ADef.region tys_ok ?_)
  conv => whnf
  refine ⟨by kernel_rfl, ?_⟩
  conv => whnf
  intro vs
  repeat (first | refine ACode.seq ?_ | (refine ACode.s_reg tys_ok ?_; conv => whnf) | refine ACode.s_block ?_ | refine ACode.s_scope ?_ | (refine ACode.s_cond ?_; conv => whnf) | (refine ACode.s_exit ?_; conv => whnf) | (refine ACode.s_ret ?_; conv => whnf) | (refine ACode.s_skip ?_; conv => whnf) | (refine ACode.s_label ?_; conv => whnf))
  have hlen : (kts ts).length = ts.length := by simp [kts]
  have hnet : netP (kts ts) = ch0 (kts ts) ts.length nw0 0 := by unfold netP; rw [hlen]; rfl
  have fin : ∀ {E : List AV} (rest : List HO) (e : Int) (k : Nat), netP (kts ts) = .fail e k → endD Tryz.prog tys Tryz.f5.results.toList (fun r => r = resP0 (parseP s)) 11 3 (some (failA ts s.length e k)) (.str s :: .any :: .ptr 0 0 :: .ptr 1 0 :: .ptr 2 0 :: E) (RH net0 0 (-1) ++ .ghost [.ptr 0 0, .ptr 1 0, .ptr 2 0] vs [] :: rest) :=
   fun rest e k h => fin1 s _ vs rest e _ (by rw [hP, h]; rfl)
  refine ACode.loopT (fun x : Nat × Nat × Nw => mk 61 [(0, .str s), (2, .ptr 0 0), (3, .ptr 1 0), (4, .ptr 2 0), (6, .ptr 4 0), (36, .own 5 1 0 5), (37, .int .i64 5), (38, .int .i64 x.1)]) (fun x => RH net0 0 (-1) ++ [.ghost [.ptr 0 0, .ptr 1 0, .ptr 2 0] vs [], .cells (PC ts s.length x.1 x.2.1 x.2.2), .arr 1 1 secsA])
   (fun x => StepOK ts x.1 x.2.1 x.2.2) (fun x => 5 - x.1) ⟨(0, 0, nw0), ?_⟩ fun x hx => ?_
  ·conv => whnf
   repeat (refine And.intro ?_ ?_; (focus (first | rfl | (simp; done))); conv => whnf)
   exact ⟨by simp only; omega, by simp only; omega, hnet, fun _ => ⟨rfl, rfl⟩, fun _ => rfl, fun _ => rfl, fun _ => rfl, fun _ => rfl, Nat.le_refl _, Nat.le_refl _, Nat.le_refl _⟩
  ·obtain ⟨k, i, n⟩ := x
   simp only at hx
   repeat (first | refine ACode.seq ?_ | (refine ACode.s_reg tys_ok ?_; conv => whnf) | refine ACode.s_block ?_ | refine ACode.s_scope ?_ | (refine ACode.s_cond ?_; conv => whnf) | (refine ACode.s_exit ?_; conv => whnf) | (refine ACode.s_ret ?_; conv => whnf) | (refine ACode.s_skip ?_; conv => whnf) | (refine ACode.s_label ?_; conv => whnf))
   refine ⟨fun hk => ?_, fun hk => ?_⟩
   ·have hk : k < 5 := by simp at hk; omega
    repeat (first | refine ACode.seq ?_ | (refine ACode.s_reg tys_ok ?_; conv => whnf) | refine ACode.s_block ?_ | refine ACode.s_scope ?_ | (refine ACode.s_cond ?_; conv => whnf) | (refine ACode.s_exit ?_; conv => whnf) | (refine ACode.s_ret ?_; conv => whnf) | (refine ACode.s_skip ?_; conv => whnf) | (refine ACode.s_label ?_; conv => whnf))
    have hkc : k = 0 ∨ k = 1 ∨ k = 2 ∨ k = 3 ∨ k = 4 := by omega
    rcases hkc with rfl | rfl | rfl | rfl | rfl
    ·refine ⟨⟨by simp, by simp⟩, _, rfl, ?_⟩
     conv => whnf
     repeat (first | refine ACode.seq ?_ | (refine ACode.s_reg tys_ok ?_; conv => whnf) | refine ACode.s_block ?_ | refine ACode.s_scope ?_ | (refine ACode.s_cond ?_; conv => whnf) | (refine ACode.s_exit ?_; conv => whnf) | (refine ACode.s_ret ?_; conv => whnf) | (refine ACode.s_skip ?_; conv => whnf) | (refine ACode.s_label ?_; conv => whnf))
     refine ACall.of_calendars ht hx.hi (hx.cals (by omega)).1 (hx.cals (by omega)).2 rfl (fun n' j hq hj => ?_) (fun e k' cs' h hk2 => ?_)
     ·(conv => whnf)
      repeat (first | refine ACode.seq ?_ | (refine ACode.s_reg tys_ok ?_; conv => whnf) | refine ACode.s_block ?_ | refine ACode.s_scope ?_ | (refine ACode.s_cond ?_; conv => whnf) | (refine ACode.s_exit ?_; conv => whnf) | (refine ACode.s_ret ?_; conv => whnf) | (refine ACode.s_skip ?_; conv => whnf) | (refine ACode.s_label ?_; conv => whnf))
      have lq := cals_len _ _ _ hq
      obtain ⟨c1, c2, c3, c4, c5, c6⟩ := n
      simp only at lq
      obtain ⟨l1, l2, rfl, rfl, rfl, rfl⟩ := lq
      refine ⟨(1, j, n'), ?_⟩
      conv => whnf
      repeat (refine And.intro ?_ ?_; (focus (first | rfl | (simp; done) | (show Wr .i64 _ = _; rw [Wr64 _ (by simp) (by simp)]; simp; done))); conv => whnf)
      exact ⟨⟨by simp only; omega, hj, by rw [hx.net]; show ch0 _ _ _ _ = _; unfold ch0; rw [hq]; rfl, fun h => absurd h (by simp), fun h => hx.opers (by omega), fun h => hx.offs (by omega), fun h => hx.lins (by omega), fun h => hx.clss (by omega), by have := hx.ln; simp only at this ⊢; omega, by have := hx.opers (by omega); simp only at this; rw [this]; exact Nat.zero_le _, by have := hx.offs (by omega); simp only at this; rw [this]; exact Nat.zero_le _⟩, by simp⟩
     ·(conv => whnf)
      exact ⟨⟨_, rfl⟩, fin _ e k' (by rw [hx.net]; show ch0 _ _ _ _ = _; unfold ch0; rw [h]; rfl)⟩
    ·refine ⟨⟨by simp, by simp⟩, _, rfl, ?_⟩
     conv => whnf
     repeat (first | refine ACode.seq ?_ | (refine ACode.s_reg tys_ok ?_; conv => whnf) | refine ACode.s_block ?_ | refine ACode.s_scope ?_ | (refine ACode.s_cond ?_; conv => whnf) | (refine ACode.s_exit ?_; conv => whnf) | (refine ACode.s_ret ?_; conv => whnf) | (refine ACode.s_skip ?_; conv => whnf) | (refine ACode.s_label ?_; conv => whnf))
     refine ACall.of_operators ht hx.hi (hx.opers (by omega)) rfl (fun n' j hq hj => ?_) (fun e k' cs' h hk2 => ?_)
     ·(conv => whnf)
      repeat (first | refine ACode.seq ?_ | (refine ACode.s_reg tys_ok ?_; conv => whnf) | refine ACode.s_block ?_ | refine ACode.s_scope ?_ | (refine ACode.s_cond ?_; conv => whnf) | (refine ACode.s_exit ?_; conv => whnf) | (refine ACode.s_ret ?_; conv => whnf) | (refine ACode.s_skip ?_; conv => whnf) | (refine ACode.s_label ?_; conv => whnf))
      have lq := opers_len _ _ _ hq
      obtain ⟨c1, c2, c3, c4, c5, c6⟩ := n
      simp only at lq
      obtain ⟨l1, l2, rfl, rfl, rfl, rfl, rfl⟩ := lq
      refine ⟨(2, j, n'), ?_⟩
      conv => whnf
      repeat (refine And.intro ?_ ?_; (focus (first | rfl | (simp; done) | (show Wr .i64 _ = _; rw [Wr64 _ (by simp) (by simp)]; simp; done))); conv => whnf)
      exact ⟨⟨by simp only; omega, hj, by rw [hx.net]; show ch1 _ _ _ _ = _; unfold ch1; rw [hq]; rfl, fun h => absurd h (by simp), fun h => absurd h (by simp), fun h => hx.offs (by omega), fun h => hx.lins (by omega), fun h => hx.clss (by omega), by have := hx.ln; simp only at this ⊢; omega, by have := hx.lo; simp only at this ⊢; omega, by have := hx.offs (by omega); simp only at this; rw [this]; exact Nat.zero_le _⟩, by simp⟩
     ·(conv => whnf)
      exact ⟨⟨_, rfl⟩, fin _ e k' (by rw [hx.net]; show ch1 _ _ _ _ = _; unfold ch1; rw [h]; rfl)⟩
    ·refine ⟨⟨by simp, by simp⟩, _, rfl, ?_⟩
     conv => whnf
     repeat (first | refine ACode.seq ?_ | (refine ACode.s_reg tys_ok ?_; conv => whnf) | refine ACode.s_block ?_ | refine ACode.s_scope ?_ | (refine ACode.s_cond ?_; conv => whnf) | (refine ACode.s_exit ?_; conv => whnf) | (refine ACode.s_ret ?_; conv => whnf) | (refine ACode.s_skip ?_; conv => whnf) | (refine ACode.s_label ?_; conv => whnf))
     refine ACall.of_offices ht hx.hi (hx.offs (by omega)) (by have := hx.lo; have := hx.hi; omega) (by have := hx.ln; have := hx.hi; omega) rfl (fun n' j hq hj => ?_) (fun e k' cs' h hk2 => ?_)
     ·(conv => whnf)
      repeat (first | refine ACode.seq ?_ | (refine ACode.s_reg tys_ok ?_; conv => whnf) | refine ACode.s_block ?_ | refine ACode.s_scope ?_ | (refine ACode.s_cond ?_; conv => whnf) | (refine ACode.s_exit ?_; conv => whnf) | (refine ACode.s_ret ?_; conv => whnf) | (refine ACode.s_skip ?_; conv => whnf) | (refine ACode.s_label ?_; conv => whnf))
      have lq := offs_len _ _ _ hq
      obtain ⟨c1, c2, c3, c4, c5, c6⟩ := n
      simp only at lq
      obtain ⟨l1, l2, rfl, rfl, rfl, rfl, rfl⟩ := lq
      refine ⟨(3, j, n'), ?_⟩
      conv => whnf
      repeat (refine And.intro ?_ ?_; (focus (first | rfl | (simp; done) | (show Wr .i64 _ = _; rw [Wr64 _ (by simp) (by simp)]; simp; done))); conv => whnf)
      exact ⟨⟨by simp only; omega, hj, by rw [hx.net]; show ch2 _ _ _ _ = _; unfold ch2; rw [hq]; rfl, fun h => absurd h (by simp), fun h => absurd h (by simp), fun h => absurd h (by simp), fun h => hx.lins (by omega), fun h => hx.clss (by omega), by have := hx.ln; simp only at this ⊢; omega, by have := hx.lo; simp only at this ⊢; omega, by have := hx.lf; simp only at this ⊢; omega⟩, by simp⟩
     ·(conv => whnf)
      exact ⟨⟨_, rfl⟩, fin _ e k' (by rw [hx.net]; show ch2 _ _ _ _ = _; unfold ch2; rw [h]; rfl)⟩
    ·refine ⟨⟨by simp, by simp⟩, _, rfl, ?_⟩
     conv => whnf
     repeat (first | refine ACode.seq ?_ | (refine ACode.s_reg tys_ok ?_; conv => whnf) | refine ACode.s_block ?_ | refine ACode.s_scope ?_ | (refine ACode.s_cond ?_; conv => whnf) | (refine ACode.s_exit ?_; conv => whnf) | (refine ACode.s_ret ?_; conv => whnf) | (refine ACode.s_skip ?_; conv => whnf) | (refine ACode.s_label ?_; conv => whnf))
     refine ACall.of_lines ht hx.hi (hx.lins (by omega)) (by have := hx.lf; have := hx.hi; omega) rfl (fun n' j hq hj => ?_) (fun e k' cs' h hk2 => ?_)
     ·(conv => whnf)
      repeat (first | refine ACode.seq ?_ | (refine ACode.s_reg tys_ok ?_; conv => whnf) | refine ACode.s_block ?_ | refine ACode.s_scope ?_ | (refine ACode.s_cond ?_; conv => whnf) | (refine ACode.s_exit ?_; conv => whnf) | (refine ACode.s_ret ?_; conv => whnf) | (refine ACode.s_skip ?_; conv => whnf) | (refine ACode.s_label ?_; conv => whnf))
      have lq := lins_len _ _ _ hq
      have l1 : i ≤ j := ge_lines hq
      obtain ⟨c1, c2, c3, c4, c5, c6⟩ := n
      simp only at lq
      obtain ⟨rfl, rfl, rfl, rfl, rfl⟩ := lq
      refine ⟨(4, j, n'), ?_⟩
      conv => whnf
      repeat (refine And.intro ?_ ?_; (focus (first | rfl | (simp; done) | (show Wr .i64 _ = _; rw [Wr64 _ (by simp) (by simp)]; simp; done))); conv => whnf)
      exact ⟨⟨by simp only; omega, hj, by rw [hx.net]; show ch3 _ _ _ _ = _; unfold ch3; rw [hq]; rfl, fun h => absurd h (by simp), fun h => absurd h (by simp), fun h => absurd h (by simp), fun h => absurd h (by simp), fun h => hx.clss (by omega), by have := hx.ln; simp only at this ⊢; omega, by have := hx.lo; simp only at this ⊢; omega, by have := hx.lf; simp only at this ⊢; omega⟩, by simp⟩
     ·(conv => whnf)
      exact ⟨⟨_, rfl⟩, fin _ e k' (by rw [hx.net]; show ch3 _ _ _ _ = _; unfold ch3; rw [h]; rfl)⟩
    ·refine ⟨⟨by simp, by simp⟩, _, rfl, ?_⟩
     conv => whnf
     repeat (first | refine ACode.seq ?_ | (refine ACode.s_reg tys_ok ?_; conv => whnf) | refine ACode.s_block ?_ | refine ACode.s_scope ?_ | (refine ACode.s_cond ?_; conv => whnf) | (refine ACode.s_exit ?_; conv => whnf) | (refine ACode.s_ret ?_; conv => whnf) | (refine ACode.s_skip ?_; conv => whnf) | (refine ACode.s_label ?_; conv => whnf))
     refine ACall.of_classes ht hx.hi (hx.clss (by omega)) rfl (fun n' j hq hj => ?_) (fun e k' cs' h hk2 => ?_)
     ·(conv => whnf)
      repeat (first | refine ACode.seq ?_ | (refine ACode.s_reg tys_ok ?_; conv => whnf) | refine ACode.s_block ?_ | refine ACode.s_scope ?_ | (refine ACode.s_cond ?_; conv => whnf) | (refine ACode.s_exit ?_; conv => whnf) | (refine ACode.s_ret ?_; conv => whnf) | (refine ACode.s_skip ?_; conv => whnf) | (refine ACode.s_label ?_; conv => whnf))
      have lq := clss_len _ _ _ hq
      have l1 : i ≤ j := ge_classes hq
      obtain ⟨c1, c2, c3, c4, c5, c6⟩ := n
      simp only at lq
      obtain ⟨rfl, rfl, rfl, rfl, rfl⟩ := lq
      refine ⟨(5, j, n'), ?_⟩
      conv => whnf
      repeat (refine And.intro ?_ ?_; (focus (first | rfl | (simp; done) | (show Wr .i64 _ = _; rw [Wr64 _ (by simp) (by simp)]; simp; done))); conv => whnf)
      exact ⟨⟨by simp only; omega, hj, by rw [hx.net]; show ch4 _ _ _ _ = _; unfold ch4; rw [hq]; rfl, fun h => absurd h (by simp), fun h => absurd h (by simp), fun h => absurd h (by simp), fun h => absurd h (by simp), fun h => absurd h (by simp), by have := hx.ln; simp only at this ⊢; omega, by have := hx.lo; simp only at this ⊢; omega, by have := hx.lf; simp only at this ⊢; omega⟩, by simp⟩
     ·(conv => whnf)
      exact ⟨⟨_, rfl⟩, fin _ e k' (by rw [hx.net]; show ch4 _ _ _ _ = _; unfold ch4; rw [h]; rfl)⟩
   ·have hk : k = 5 := by have := hx.k5; simp at hk; omega
    subst hk
    have hi := hx.hi
    repeat (first | refine ACode.seq ?_ | (refine ACode.s_reg tys_ok ?_; conv => whnf) | refine ACode.s_block ?_ | refine ACode.s_scope ?_ | (refine ACode.s_cond ?_; conv => whnf) | (refine ACode.s_exit ?_; conv => whnf) | (refine ACode.s_ret ?_; conv => whnf) | (refine ACode.s_skip ?_; conv => whnf) | (refine ACode.s_label ?_; conv => whnf))
    refine ACode.draw [] tys_ok (by kernel_rfl) (by kernel_rfl) ?_
    conv => whnf
    refine ⟨fun h => ?_, fun h => ?_⟩
    ·have h : i < ts.length := by simp [toksA] at h; omega
     conv => whnf
     repeat (first | refine ACode.seq ?_ | (refine ACode.s_reg tys_ok ?_; conv => whnf) | refine ACode.s_block ?_ | refine ACode.s_scope ?_ | (refine ACode.s_cond ?_; conv => whnf) | (refine ACode.s_exit ?_; conv => whnf) | (refine ACode.s_ret ?_; conv => whnf) | (refine ACode.s_skip ?_; conv => whnf) | (refine ACode.s_label ?_; conv => whnf))
     refine ACall.of_wrong (p := netP (kts ts)) ts s.length i hl hi (by rw [hx.net, if_pos h]; show ch5 (kts ts) ts.length n i = _; unfold ch5; rw [decide_eq_true h]; rfl) rfl (fun j e k h hk => ?_)
     (conv => whnf)
     exact ⟨⟨_, rfl⟩, fin _ e k h⟩
    ·have h : ¬ i < ts.length := by simp [toksA] at h; omega
     have hok : netP (kts ts) = .ok n i := by rw [hx.net]; show ch5 (kts ts) ts.length n i = _; unfold ch5; rw [decide_eq_false h]; rfl
     conv => whnf
     repeat (first | refine ACode.seq ?_ | (refine ACode.s_reg tys_ok ?_; conv => whnf) | refine ACode.s_block ?_ | refine ACode.s_scope ?_ | (refine ACode.s_cond ?_; conv => whnf) | (refine ACode.s_exit ?_; conv => whnf) | (refine ACode.s_ret ?_; conv => whnf) | (refine ACode.s_skip ?_; conv => whnf) | (refine ACode.s_label ?_; conv => whnf))
     exact ⟨⟨_, rfl⟩, fin0 s _ vs _ 0 (-1) _ _ _ _ _ _ (by rw [hP, hok]; rfl)⟩
end Go.Proofs.YtmhlneeboefkgaaGreatDoor
