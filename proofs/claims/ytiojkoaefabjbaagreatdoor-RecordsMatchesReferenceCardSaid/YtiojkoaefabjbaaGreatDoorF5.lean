/-
  slices.SortFunc at 12 records or fewer.
-/
import Derived.Test.YtiojkoaefabjbaaGreatDoorF4
set_option linter.unusedVariables false
set_option linter.unusedSimpArgs false
namespace Go.Proofs.YtiojkoaefabjbaaGreatDoor
open Go.Av Go.Shelf Pl Go.RowKit
def SortPost (l : List Rc) (es : List AV) : Prop := ∃ l', es = rv l' ∧ l'.Perm l ∧ Sorted cmpR l'
set_option maxRecDepth 100000 in
theorem pdq_spec (l : List Rc) (lim : Int) (hl : l.length ≤ 12) (hx : ∀ r ∈ l, RcOK r) : HCtrF Tryz.prog 64 [.own 0 6 0 l.length, .int .i64 0, .int .i64 l.length, .int .i64 lim, .fn 17 []] 28 6 (rv l)
    (fun r es => r = .tuple [] ∧ SortPost l es) := by
  refine HCtrF.of_body Tryz.func64 rfl tys_ok (by kernel_rfl) (by simp) (fun gv => ?_)
  conv => whnf
  repeat (first | refine ACode.seq ?_ | (refine ACode.s_reg tys_ok ?_; conv => whnf) | refine ACode.s_block ?_ | refine ACode.s_scope ?_ | (refine ACode.s_cond ?_; conv => whnf) | (refine ACode.s_exit ?_; conv => whnf) | (refine ACode.s_ret ?_; conv => whnf) | (refine ACode.s_skip ?_; conv => whnf) | (refine ACode.s_label ?_; conv => whnf))
  refine ACode.loopD (fun _ : Unit => mk 148 [(0, .own 0 6 0 l.length), (1, .int .i64 0), (2, .int .i64 l.length), (3, .int .i64 lim), (4, .fn 17 []), (10, .lit true), (11, .lit true)]) (fun _ => [.arr 28 6 (rv l), .ghost [.own 0 6 0 l.length] [gv] []]) (fun _ => True) (fun _ => 0) (fun _ _ => ⟨rfl, rv_okg _⟩) ⟨(), ?_⟩ (fun _ => rfl) fun _ _ => ?_
  · conv => whnf
    repeat (refine And.intro ?_ ?_; (focus (first | rfl | (simp; done))); conv => whnf)
    simp
  · repeat (first | refine ACode.seq ?_ | (refine ACode.s_reg tys_ok ?_; conv => whnf) | refine ACode.s_block ?_ | refine ACode.s_scope ?_ | (refine ACode.s_cond ?_; conv => whnf) | (refine ACode.s_exit ?_; conv => whnf) | (refine ACode.s_ret ?_; conv => whnf) | (refine ACode.s_skip ?_; conv => whnf) | (refine ACode.s_label ?_; conv => whnf))
    rw [Wr64 _ (by omega) (by omega)]
    refine ⟨fun h => ?_, fun h => ?_⟩
    · conv => whnf
      repeat (first | refine ACode.seq ?_ | (refine ACode.s_reg tys_ok ?_; conv => whnf) | refine ACode.s_block ?_ | refine ACode.s_scope ?_ | (refine ACode.s_cond ?_; conv => whnf) | (refine ACode.s_exit ?_; conv => whnf) | (refine ACode.s_ret ?_; conv => whnf) | (refine ACode.s_skip ?_; conv => whnf) | (refine ACode.s_label ?_; conv => whnf))
      refine ACall.of_hf (insertion_spec l (by omega) hx) rfl ⟨rfl, rv_closed _, trivial⟩ ?_
      rintro r es ⟨rfl, l', rfl, hp, hs⟩ hlen
      conv => whnf
      repeat (first | refine ACode.seq ?_ | (refine ACode.s_reg tys_ok ?_; conv => whnf) | refine ACode.s_block ?_ | refine ACode.s_scope ?_ | (refine ACode.s_cond ?_; conv => whnf) | (refine ACode.s_exit ?_; conv => whnf) | (refine ACode.s_ret ?_; conv => whnf) | (refine ACode.s_skip ?_; conv => whnf) | (refine ACode.s_label ?_; conv => whnf))
      refine ⟨rv_closed _, ?_⟩
      conv => whnf
      exact ⟨_, _, rfl, rfl, by simpa using hlen, rfl, l', rfl, hp, hs⟩
    · exfalso
      simp at h
      omega
theorem bitsLen_spec (n : Int) (h0 : 0 ≤ n) (h1 : n ≤ 18446744073709551615) : Ctr Tryz.prog 65 [.int .u64 n] (fun r => r = .int .i64 (Lib.bitLen n.toNat)) := by
  refine ⟨by kernel_rfl, fun C w vs hlt hr => ?_⟩
  unfold Reps at hr
  obtain ⟨v1, _, rfl, h2, hr⟩ := hr
  unfold Reps at hr
  subst hr
  unfold Rep at h2
  obtain ⟨rfl, _⟩ := h2
  refine (Tryz.bits_Len n w (by omega) (by omega)).mono fun e w' h3 => ?_
  obtain ⟨rfl, rfl⟩ := h3
  exact ⟨_, _, rfl, rfl, Below.refl _ _, by unfold Rep; refine ⟨rfl, ?_⟩; have := Lib.bitLen_le n.toNat 64 (by omega) (by omega); constructor <;> simp [IntKind.min, IntKind.max, IntKind.bits, IntKind.signed] <;> omega⟩
theorem WrU (n : Nat) (h : n ≤ 18446744073709551615) : Wr .u64 (n : Int) = n := by
  unfold Wr; simp [IntKind.wrap, IntKind.bits, IntKind.signed]; omega
set_option maxRecDepth 100000 in
theorem sort_spec (l : List Rc) (hl : l.length ≤ 12) (hx : ∀ r ∈ l, RcOK r) : HCtrF Tryz.prog 38 [.own 0 6 0 l.length, .fn 17 []] 28 6 (rv l)
    (fun r es => r = .tuple [] ∧ SortPost l es) := by
  refine HCtrF.of_body Tryz.func38 rfl tys_ok (by kernel_rfl) (by simp) (fun gv => ?_)
  conv => whnf
  repeat (first | refine ACode.seq ?_ | (refine ACode.s_reg tys_ok ?_; conv => whnf) | refine ACode.s_block ?_ | refine ACode.s_scope ?_ | (refine ACode.s_cond ?_; conv => whnf) | (refine ACode.s_exit ?_; conv => whnf) | (refine ACode.s_ret ?_; conv => whnf) | (refine ACode.s_skip ?_; conv => whnf) | (refine ACode.s_label ?_; conv => whnf))
  rw [WrU _ (by omega)]
  refine ACall.of_spec (bitsLen_spec l.length (by omega) (by omega)) rfl fun r hr => ?_
  subst hr
  conv => whnf
  repeat (first | refine ACode.seq ?_ | (refine ACode.s_reg tys_ok ?_; conv => whnf) | refine ACode.s_block ?_ | refine ACode.s_scope ?_ | (refine ACode.s_cond ?_; conv => whnf) | (refine ACode.s_exit ?_; conv => whnf) | (refine ACode.s_ret ?_; conv => whnf) | (refine ACode.s_skip ?_; conv => whnf) | (refine ACode.s_label ?_; conv => whnf))
  refine ACall.of_hf (pdq_spec l _ hl hx) rfl ⟨rfl, rv_closed _, trivial⟩ ?_
  rintro r es ⟨rfl, l', rfl, hp, hs⟩ hlen
  conv => whnf
  repeat (first | refine ACode.seq ?_ | (refine ACode.s_reg tys_ok ?_; conv => whnf) | refine ACode.s_block ?_ | refine ACode.s_scope ?_ | (refine ACode.s_cond ?_; conv => whnf) | (refine ACode.s_exit ?_; conv => whnf) | (refine ACode.s_ret ?_; conv => whnf) | (refine ACode.s_skip ?_; conv => whnf) | (refine ACode.s_label ?_; conv => whnf))
  refine ⟨rv_closed _, ?_⟩
  conv => whnf
  exact ⟨_, _, rfl, rfl, by simpa using hlen, rfl, l', rfl, hp, hs⟩
end Go.Proofs.YtiojkoaefabjbaaGreatDoor
