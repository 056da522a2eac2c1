/-
  The reference: run, Check, Sound.
-/
import Derived.Test.YtkmhjamdgncpoaaDoorR8b
set_option linter.unusedVariables false
set_option linter.unusedSimpArgs false
namespace Go.Proofs.YtkmhjamdgncpoaaDoor
open Go.Av Go.Shelf Pl Go.RowKit
theorem step_made {p : Option Int} {i : Nat} {l : List St} {c : Ch} (h : ¬ 60 ≤ i) (hd : dateB p c.da = false) (hu : (dayB c.da && usesB c) = true) : stepS p i l c = makeS l c := by
  rw [step_mk h hd hu]
  rfl
theorem small_at {r : List Ch} (h : smallR r = true) {c : Ch} (hc : c ∈ r) : c.na.length ≤ 1000 ∧ c.co.length ≤ 1000 ∧ c.to.length ≤ 1000 := by
  unfold smallR at h
  simp only [Bool.and_eq_true, decide_eq_true_eq] at h
  have := List.all_eq_true.1 h.2 c hc
  unfold smallC at this
  simp only [Bool.and_eq_true, decide_eq_true_eq] at this
  omega
/-- The changes before i are made. -/
structure RInv (r : List Ch) (i : Nat) (l : List St) : Prop where
  le : i ≤ r.length
  cnt : l.length ≤ i
  m : i ≤ 60
  ok : ∀ s ∈ l, StOK s i
  run : buildS r = runS (r.drop i) i (prevB r i) l
theorem inv_step {r : List Ch} {i : Nat} {l l' : List St} (h : i < r.length) (hl : l.length ≤ i) (hok : ∀ s ∈ l, StOK s i) (hrun : buildS r = runS (r.drop i) i (prevB r i) l) (hs : stepS (prevB r i) i l r[i] = .ok l') : RInv r (i + 1) l' := by
  obtain ⟨h1, _, _, h4, n, h5, _⟩ := step_ok hs
  obtain ⟨k1, k2⟩ := mk_ok h4 hok h5
  refine ⟨by omega, by omega, by omega, k1, ?_⟩
  rw [hrun, run_ok h hs]
  unfold prevB
  rw [if_neg (by omega), Nat.add_sub_cancel, List.getElem?_eq_getElem h]
  rfl
set_option maxRecDepth 100000 in
theorem run_spec (r : List Ch) (hs : smallR r = true) : Ctr Tryd.prog 28 [chs r, .lit true, .int .i64 0] (fun x => x = resB (buildS r)) := by
  refine Ctr.of_body Tryd.func28 rfl tys_ok (by kernel_rfl) ?_
  conv => whnf
  repeat (first | refine ACode.seq ?_ | (refine ACode.s_reg tys_ok ?_; conv => whnf) | refine ACode.s_block ?_ | refine ACode.s_scope ?_ | (refine ACode.s_cond ?_; conv => whnf) | (refine ACode.s_exit ?_; conv => whnf) | (refine ACode.s_ret ?_; conv => whnf) | (refine ACode.s_skip ?_; conv => whnf) | (refine ACode.s_label ?_; conv => whnf))
  refine ACode.nilSl 9 8 rfl ?_
  conv => whnf
  refine ACode.loopD (fun x : Nat × List St => mk 73 [(0, chs r), (1, .lit true), (2, .int .i64 0), (6, .raw (.slice none 0 0)), (7, .int .i64 0), (8, .int .i64 0), (9, sts x.2), (10, .int .i64 x.1)]) (fun _ => []) (fun x => RInv r x.1 x.2) (fun x => r.length - x.1) (fun _ _ => ⟨rfl, trivial⟩) ⟨(0, []), ?_⟩ (fun _ => rfl) fun x hx => ?_
  · conv => whnf
    repeat (refine And.intro ?_ ?_; (focus (first | rfl | (simp; done))); conv => whnf)
    exact ⟨Nat.zero_le _, Nat.le_refl _, by omega, fun s hs => (by cases hs), rfl⟩
  · obtain ⟨i, l⟩ := x
    simp only at hx
    obtain ⟨hi, hl, h60, hok, hrun⟩ := hx
    have hw1 : Wr .i64 ((i : Int) + 1) = ((i + 1 : Nat) : Int) := by rw [Wr64 _ (by omega) (by omega)]; rfl
    repeat (first | refine ACode.seq ?_ | (refine ACode.s_reg tys_ok ?_; conv => whnf) | refine ACode.s_block ?_ | refine ACode.s_scope ?_ | (refine ACode.s_cond ?_; conv => whnf) | (refine ACode.s_exit ?_; conv => whnf) | (refine ACode.s_ret ?_; conv => whnf) | (refine ACode.s_skip ?_; conv => whnf) | (refine ACode.s_label ?_; conv => whnf))
    refine ⟨fun h => ?_, fun h => ?_⟩
    · have h : i < r.length := by simpa using h
      have gi : (List.map Ch.v r)[((i : Int)).toNat]? = some (r[i]).v := by simp [h]
      have hup : prevB r (i + 1) = some r[i].da := by unfold prevB; rw [if_neg (by omega), Nat.add_sub_cancel, List.getElem?_eq_getElem h]; rfl
      have bad : ∀ e, stepS (prevB r i) i l r[i] = .error e → buildS r = ([], e, (i : Int)) := fun e he => by rw [hrun, run_err h he]
      conv => whnf
      repeat (first | refine ACode.seq ?_ | (refine ACode.s_reg tys_ok ?_; conv => whnf) | refine ACode.s_block ?_ | refine ACode.s_scope ?_ | (refine ACode.s_cond ?_; conv => whnf) | (refine ACode.s_exit ?_; conv => whnf) | (refine ACode.s_ret ?_; conv => whnf) | (refine ACode.s_skip ?_; conv => whnf) | (refine ACode.s_label ?_; conv => whnf))
      refine ⟨fun k1 => ?_, fun k1 => ?_⟩
      · have k1 : 60 ≤ i := by simp at k1; omega
        conv => whnf
        repeat (first | refine ACode.seq ?_ | (refine ACode.s_reg tys_ok ?_; conv => whnf) | refine ACode.s_block ?_ | refine ACode.s_scope ?_ | (refine ACode.s_cond ?_; conv => whnf) | (refine ACode.s_exit ?_; conv => whnf) | (refine ACode.s_ret ?_; conv => whnf) | (refine ACode.s_skip ?_; conv => whnf) | (refine ACode.s_label ?_; conv => whnf))
        refine ⟨8, ?_⟩
        conv => whnf
        rw [bad _ (step_lim k1)]
        rfl
      have k1 : ¬ 60 ≤ i := by simp at k1; omega
      conv => whnf
      repeat (first | refine ACode.seq ?_ | (refine ACode.s_reg tys_ok ?_; conv => whnf) | refine ACode.s_block ?_ | refine ACode.s_scope ?_ | (refine ACode.s_cond ?_; conv => whnf) | (refine ACode.s_exit ?_; conv => whnf) | (refine ACode.s_ret ?_; conv => whnf) | (refine ACode.s_skip ?_; conv => whnf) | (refine ACode.s_label ?_; conv => whnf))
      refine ACode.draw [] tys_ok (by kernel_rfl) (by kernel_rfl) ?_
      conv => whnf
      have hsm := small_at hs (List.getElem_mem h)
      have gp : 0 < i → (List.map Ch.v r)[(Wr .i64 ((i : Int) - 1)).toNat]? = some (r[i - 1]).v := fun k => by
        rw [Wr64 _ (by omega) (by omega), show ((i : Int) - 1).toNat = i - 1 by omega]
        simp [show i - 1 < r.length by omega]
      have hdate : 0 < i → dateB (prevB r i) r[i].da = decide (r[i].da < r[i - 1].da) := fun k => by
        unfold prevB
        rw [if_neg (by omega), List.getElem?_eq_getElem (by omega)]
        rfl
      refine ⟨fun k2 => ?_, fun k2 => ?_⟩
      · have k2 : 0 < i := by simpa using k2
        conv => whnf
        refine ⟨by omega, (r[i]).v, gi, ?_⟩
        conv => whnf
        have hw2 : Wr .i64 ((i : Int) - 1) = ((i : Int) - 1) := Wr64 _ (by omega) (by omega)
        refine ⟨by simp only [hw2]; omega, (r[i - 1]).v, gp k2, ?_⟩
        conv => whnf
        repeat (first | refine ACode.seq ?_ | (refine ACode.s_reg tys_ok ?_; conv => whnf) | refine ACode.s_block ?_ | refine ACode.s_scope ?_ | (refine ACode.s_cond ?_; conv => whnf) | (refine ACode.s_exit ?_; conv => whnf) | (refine ACode.s_ret ?_; conv => whnf) | (refine ACode.s_skip ?_; conv => whnf) | (refine ACode.s_label ?_; conv => whnf))
        refine ⟨fun k3 => ?_, fun k3 => ?_⟩
        · have hd : dateB (prevB r i) r[i].da = true := by rw [hdate k2, k3]
          conv => whnf
          repeat (first | refine ACode.seq ?_ | (refine ACode.s_reg tys_ok ?_; conv => whnf) | refine ACode.s_block ?_ | refine ACode.s_scope ?_ | (refine ACode.s_cond ?_; conv => whnf) | (refine ACode.s_exit ?_; conv => whnf) | (refine ACode.s_ret ?_; conv => whnf) | (refine ACode.s_skip ?_; conv => whnf) | (refine ACode.s_label ?_; conv => whnf))
          refine ⟨8, ?_⟩
          conv => whnf
          rw [bad _ (step_date k1 hd)]
          rfl
        · have hd : dateB (prevB r i) r[i].da = false := by rw [hdate k2, k3]
          conv => whnf
          repeat (first | refine ACode.seq ?_ | (refine ACode.s_reg tys_ok ?_; conv => whnf) | refine ACode.s_block ?_ | refine ACode.s_scope ?_ | (refine ACode.s_cond ?_; conv => whnf) | (refine ACode.s_exit ?_; conv => whnf) | (refine ACode.s_ret ?_; conv => whnf) | (refine ACode.s_skip ?_; conv => whnf) | (refine ACode.s_label ?_; conv => whnf))
          refine ⟨by omega, (r[i]).v, gi, ?_⟩
          conv => whnf
          repeat (first | refine ACode.seq ?_ | (refine ACode.s_reg tys_ok ?_; conv => whnf) | refine ACode.s_block ?_ | refine ACode.s_scope ?_ | (refine ACode.s_cond ?_; conv => whnf) | (refine ACode.s_exit ?_; conv => whnf) | (refine ACode.s_ret ?_; conv => whnf) | (refine ACode.s_skip ?_; conv => whnf) | (refine ACode.s_label ?_; conv => whnf))
          refine ACall.of_spec (formed_spec r[i] hsm.1 hsm.2.1 hsm.2.2) rfl fun r hr => ?_
          subst hr
          conv => whnf
          repeat (first | refine ACode.seq ?_ | (refine ACode.s_reg tys_ok ?_; conv => whnf) | refine ACode.s_block ?_ | refine ACode.s_scope ?_ | (refine ACode.s_cond ?_; conv => whnf) | (refine ACode.s_exit ?_; conv => whnf) | (refine ACode.s_ret ?_; conv => whnf) | (refine ACode.s_skip ?_; conv => whnf) | (refine ACode.s_label ?_; conv => whnf))
          refine ⟨fun k4 => ?_, fun k4 => ?_⟩
          · have k4 : (dayB r[i].da && usesB r[i]) = false := by rw [Bool.not_eq_true'] at k4; exact k4
            conv => whnf
            repeat (first | refine ACode.seq ?_ | (refine ACode.s_reg tys_ok ?_; conv => whnf) | refine ACode.s_block ?_ | refine ACode.s_scope ?_ | (refine ACode.s_cond ?_; conv => whnf) | (refine ACode.s_exit ?_; conv => whnf) | (refine ACode.s_ret ?_; conv => whnf) | (refine ACode.s_skip ?_; conv => whnf) | (refine ACode.s_label ?_; conv => whnf))
            refine ⟨8, ?_⟩
            conv => whnf
            rw [bad _ (step_arg k1 hd k4)]
            rfl
          · have k4 : (dayB r[i].da && usesB r[i]) = true := by simpa using k4
            have k5 : usesB r[i] = true := by rw [Bool.and_eq_true] at k4; exact k4.2
            conv => whnf
            repeat (first | refine ACode.seq ?_ | (refine ACode.s_reg tys_ok ?_; conv => whnf) | refine ACode.s_block ?_ | refine ACode.s_scope ?_ | (refine ACode.s_cond ?_; conv => whnf) | (refine ACode.s_exit ?_; conv => whnf) | (refine ACode.s_ret ?_; conv => whnf) | (refine ACode.s_skip ?_; conv => whnf) | (refine ACode.s_label ?_; conv => whnf))
            refine ⟨by omega, (r[i]).v, gi, ?_⟩
            conv => whnf
            repeat (first | refine ACode.seq ?_ | (refine ACode.s_reg tys_ok ?_; conv => whnf) | refine ACode.s_block ?_ | refine ACode.s_scope ?_ | (refine ACode.s_cond ?_; conv => whnf) | (refine ACode.s_exit ?_; conv => whnf) | (refine ACode.s_ret ?_; conv => whnf) | (refine ACode.s_skip ?_; conv => whnf) | (refine ACode.s_label ?_; conv => whnf))
            refine ACall.of_spec (Make_spec l r[i] (by omega) (fun s hs => (hok s hs).mono h60) k5) rfl fun x hx => ?_
            have hstep := step_made k1 hd k4 (l := l)
            cases hm : makeS l r[i] with
            | error e =>
              rw [hm] at hx hstep
              subst hx
              have he : e ≠ 0 := step_ne hstep
              conv => whnf
              repeat (first | refine ACode.seq ?_ | (refine ACode.s_reg tys_ok ?_; conv => whnf) | refine ACode.s_block ?_ | refine ACode.s_scope ?_ | (refine ACode.s_cond ?_; conv => whnf) | (refine ACode.s_exit ?_; conv => whnf) | (refine ACode.s_ret ?_; conv => whnf) | (refine ACode.s_skip ?_; conv => whnf) | (refine ACode.s_label ?_; conv => whnf))
              refine ⟨fun _ => ?_, fun h => absurd h (by simp [he])⟩
              conv => whnf
              repeat (first | refine ACode.seq ?_ | (refine ACode.s_reg tys_ok ?_; conv => whnf) | refine ACode.s_block ?_ | refine ACode.s_scope ?_ | (refine ACode.s_cond ?_; conv => whnf) | (refine ACode.s_exit ?_; conv => whnf) | (refine ACode.s_ret ?_; conv => whnf) | (refine ACode.s_skip ?_; conv => whnf) | (refine ACode.s_label ?_; conv => whnf))
              refine ⟨8, ?_⟩
              conv => whnf
              rw [bad _ hstep]
              rfl
            | ok l' =>
              rw [hm] at hx hstep
              subst hx
              conv => whnf
              repeat (first | refine ACode.seq ?_ | (refine ACode.s_reg tys_ok ?_; conv => whnf) | refine ACode.s_block ?_ | refine ACode.s_scope ?_ | (refine ACode.s_cond ?_; conv => whnf) | (refine ACode.s_exit ?_; conv => whnf) | (refine ACode.s_ret ?_; conv => whnf) | (refine ACode.s_skip ?_; conv => whnf) | (refine ACode.s_label ?_; conv => whnf))
              refine ⟨fun h => absurd h (by decide), fun _ => ?_⟩
              conv => whnf
              repeat (first | refine ACode.seq ?_ | (refine ACode.s_reg tys_ok ?_; conv => whnf) | refine ACode.s_block ?_ | refine ACode.s_scope ?_ | (refine ACode.s_cond ?_; conv => whnf) | (refine ACode.s_exit ?_; conv => whnf) | (refine ACode.s_ret ?_; conv => whnf) | (refine ACode.s_skip ?_; conv => whnf) | (refine ACode.s_label ?_; conv => whnf))
              refine ⟨(i + 1, l'), ?_⟩
              conv => whnf
              repeat (refine And.intro ?_ ?_; (focus (first | rfl | (simp; done) | (first | exact hw1; done))); conv => whnf)
              exact ⟨inv_step h hl hok hrun hstep, by omega⟩
      · have k2 : i = 0 := by simp at k2; omega
        have hd : dateB (prevB r i) r[i].da = false := by subst k2; rfl
        conv => whnf
        repeat (first | refine ACode.seq ?_ | (refine ACode.s_reg tys_ok ?_; conv => whnf) | refine ACode.s_block ?_ | refine ACode.s_scope ?_ | (refine ACode.s_cond ?_; conv => whnf) | (refine ACode.s_exit ?_; conv => whnf) | (refine ACode.s_ret ?_; conv => whnf) | (refine ACode.s_skip ?_; conv => whnf) | (refine ACode.s_label ?_; conv => whnf))
        refine ⟨by omega, (r[i]).v, gi, ?_⟩
        conv => whnf
        repeat (first | refine ACode.seq ?_ | (refine ACode.s_reg tys_ok ?_; conv => whnf) | refine ACode.s_block ?_ | refine ACode.s_scope ?_ | (refine ACode.s_cond ?_; conv => whnf) | (refine ACode.s_exit ?_; conv => whnf) | (refine ACode.s_ret ?_; conv => whnf) | (refine ACode.s_skip ?_; conv => whnf) | (refine ACode.s_label ?_; conv => whnf))
        refine ACall.of_spec (formed_spec r[i] hsm.1 hsm.2.1 hsm.2.2) rfl fun r hr => ?_
        subst hr
        conv => whnf
        repeat (first | refine ACode.seq ?_ | (refine ACode.s_reg tys_ok ?_; conv => whnf) | refine ACode.s_block ?_ | refine ACode.s_scope ?_ | (refine ACode.s_cond ?_; conv => whnf) | (refine ACode.s_exit ?_; conv => whnf) | (refine ACode.s_ret ?_; conv => whnf) | (refine ACode.s_skip ?_; conv => whnf) | (refine ACode.s_label ?_; conv => whnf))
        refine ⟨fun k4 => ?_, fun k4 => ?_⟩
        · have k4 : (dayB r[i].da && usesB r[i]) = false := by rw [Bool.not_eq_true'] at k4; exact k4
          conv => whnf
          repeat (first | refine ACode.seq ?_ | (refine ACode.s_reg tys_ok ?_; conv => whnf) | refine ACode.s_block ?_ | refine ACode.s_scope ?_ | (refine ACode.s_cond ?_; conv => whnf) | (refine ACode.s_exit ?_; conv => whnf) | (refine ACode.s_ret ?_; conv => whnf) | (refine ACode.s_skip ?_; conv => whnf) | (refine ACode.s_label ?_; conv => whnf))
          refine ⟨8, ?_⟩
          conv => whnf
          rw [bad _ (step_arg k1 hd k4)]
          rfl
        · have k4 : (dayB r[i].da && usesB r[i]) = true := by simpa using k4
          have k5 : usesB r[i] = true := by rw [Bool.and_eq_true] at k4; exact k4.2
          conv => whnf
          repeat (first | refine ACode.seq ?_ | (refine ACode.s_reg tys_ok ?_; conv => whnf) | refine ACode.s_block ?_ | refine ACode.s_scope ?_ | (refine ACode.s_cond ?_; conv => whnf) | (refine ACode.s_exit ?_; conv => whnf) | (refine ACode.s_ret ?_; conv => whnf) | (refine ACode.s_skip ?_; conv => whnf) | (refine ACode.s_label ?_; conv => whnf))
          refine ⟨by omega, (r[i]).v, gi, ?_⟩
          conv => whnf
          repeat (first | refine ACode.seq ?_ | (refine ACode.s_reg tys_ok ?_; conv => whnf) | refine ACode.s_block ?_ | refine ACode.s_scope ?_ | (refine ACode.s_cond ?_; conv => whnf) | (refine ACode.s_exit ?_; conv => whnf) | (refine ACode.s_ret ?_; conv => whnf) | (refine ACode.s_skip ?_; conv => whnf) | (refine ACode.s_label ?_; conv => whnf))
          refine ACall.of_spec (Make_spec l r[i] (by omega) (fun s hs => (hok s hs).mono h60) k5) rfl fun x hx => ?_
          have hstep := step_made k1 hd k4 (l := l)
          cases hm : makeS l r[i] with
          | error e =>
            rw [hm] at hx hstep
            subst hx
            have he : e ≠ 0 := step_ne hstep
            conv => whnf
            repeat (first | refine ACode.seq ?_ | (refine ACode.s_reg tys_ok ?_; conv => whnf) | refine ACode.s_block ?_ | refine ACode.s_scope ?_ | (refine ACode.s_cond ?_; conv => whnf) | (refine ACode.s_exit ?_; conv => whnf) | (refine ACode.s_ret ?_; conv => whnf) | (refine ACode.s_skip ?_; conv => whnf) | (refine ACode.s_label ?_; conv => whnf))
            refine ⟨fun _ => ?_, fun h => absurd h (by simp [he])⟩
            conv => whnf
            repeat (first | refine ACode.seq ?_ | (refine ACode.s_reg tys_ok ?_; conv => whnf) | refine ACode.s_block ?_ | refine ACode.s_scope ?_ | (refine ACode.s_cond ?_; conv => whnf) | (refine ACode.s_exit ?_; conv => whnf) | (refine ACode.s_ret ?_; conv => whnf) | (refine ACode.s_skip ?_; conv => whnf) | (refine ACode.s_label ?_; conv => whnf))
            refine ⟨8, ?_⟩
            conv => whnf
            rw [bad _ hstep]
            rfl
          | ok l' =>
            rw [hm] at hx hstep
            subst hx
            conv => whnf
            repeat (first | refine ACode.seq ?_ | (refine ACode.s_reg tys_ok ?_; conv => whnf) | refine ACode.s_block ?_ | refine ACode.s_scope ?_ | (refine ACode.s_cond ?_; conv => whnf) | (refine ACode.s_exit ?_; conv => whnf) | (refine ACode.s_ret ?_; conv => whnf) | (refine ACode.s_skip ?_; conv => whnf) | (refine ACode.s_label ?_; conv => whnf))
            refine ⟨fun h => absurd h (by decide), fun _ => ?_⟩
            conv => whnf
            repeat (first | refine ACode.seq ?_ | (refine ACode.s_reg tys_ok ?_; conv => whnf) | refine ACode.s_block ?_ | refine ACode.s_scope ?_ | (refine ACode.s_cond ?_; conv => whnf) | (refine ACode.s_exit ?_; conv => whnf) | (refine ACode.s_ret ?_; conv => whnf) | (refine ACode.s_skip ?_; conv => whnf) | (refine ACode.s_label ?_; conv => whnf))
            refine ⟨(i + 1, l'), ?_⟩
            conv => whnf
            repeat (refine And.intro ?_ ?_; (focus (first | rfl | (simp; done) | (first | exact hw1; done))); conv => whnf)
            exact ⟨inv_step h hl hok hrun hstep, by omega⟩
    · have h : i = r.length := by simp at h; omega
      conv => whnf
      repeat (first | refine ACode.seq ?_ | (refine ACode.s_reg tys_ok ?_; conv => whnf) | refine ACode.s_block ?_ | refine ACode.s_scope ?_ | (refine ACode.s_cond ?_; conv => whnf) | (refine ACode.s_exit ?_; conv => whnf) | (refine ACode.s_ret ?_; conv => whnf) | (refine ACode.s_skip ?_; conv => whnf) | (refine ACode.s_label ?_; conv => whnf))
      rw [hrun, h, List.drop_length]
      rfl
theorem rCheck_spec (r : List Ch) (hs : smallR r = true) : Ctr Tryd.prog 22 [chs r] (fun x => x = .tuple [.int .i64 (buildS r).2.1, .int .i64 (buildS r).2.2]) := by
  refine Ctr.of_body Tryd.func22 rfl tys_ok (by kernel_rfl) ?_
  conv => whnf
  repeat (first | refine ACode.seq ?_ | (refine ACode.s_reg tys_ok ?_; conv => whnf) | refine ACode.s_block ?_ | refine ACode.s_scope ?_ | (refine ACode.s_cond ?_; conv => whnf) | (refine ACode.s_exit ?_; conv => whnf) | (refine ACode.s_ret ?_; conv => whnf) | (refine ACode.s_skip ?_; conv => whnf) | (refine ACode.s_label ?_; conv => whnf))
  refine ACall.of_spec (run_spec r hs) rfl fun r hr => ?_
  subst hr
  conv => whnf
  repeat (first | refine ACode.seq ?_ | (refine ACode.s_reg tys_ok ?_; conv => whnf) | refine ACode.s_block ?_ | refine ACode.s_scope ?_ | (refine ACode.s_cond ?_; conv => whnf) | (refine ACode.s_exit ?_; conv => whnf) | (refine ACode.s_ret ?_; conv => whnf) | (refine ACode.s_skip ?_; conv => whnf) | (refine ACode.s_label ?_; conv => whnf))
theorem Sound_spec (r : List Ch) : Ctr Tryd.prog 11 [chs r] (fun x => x = .bool (smallR r && soundP r)) := by
  refine Ctr.of_body Tryd.func11 rfl tys_ok (by kernel_rfl) ?_
  conv => whnf
  repeat (first | refine ACode.seq ?_ | (refine ACode.s_reg tys_ok ?_; conv => whnf) | refine ACode.s_block ?_ | refine ACode.s_scope ?_ | (refine ACode.s_cond ?_; conv => whnf) | (refine ACode.s_exit ?_; conv => whnf) | (refine ACode.s_ret ?_; conv => whnf) | (refine ACode.s_skip ?_; conv => whnf) | (refine ACode.s_label ?_; conv => whnf))
  refine ACall.of_spec (Small_spec r) rfl fun r hr => ?_
  subst hr
  conv => whnf
  repeat (first | refine ACode.seq ?_ | (refine ACode.s_reg tys_ok ?_; conv => whnf) | refine ACode.s_block ?_ | refine ACode.s_scope ?_ | (refine ACode.s_cond ?_; conv => whnf) | (refine ACode.s_exit ?_; conv => whnf) | (refine ACode.s_ret ?_; conv => whnf) | (refine ACode.s_skip ?_; conv => whnf) | (refine ACode.s_label ?_; conv => whnf))
  refine ⟨fun h => ?_, fun h => ?_⟩
  · conv => whnf
    repeat (first | refine ACode.seq ?_ | (refine ACode.s_reg tys_ok ?_; conv => whnf) | refine ACode.s_block ?_ | refine ACode.s_scope ?_ | (refine ACode.s_cond ?_; conv => whnf) | (refine ACode.s_exit ?_; conv => whnf) | (refine ACode.s_ret ?_; conv => whnf) | (refine ACode.s_skip ?_; conv => whnf) | (refine ACode.s_label ?_; conv => whnf))
    rw [Bool.not_eq_true'] at h
    rw [h]
    rfl
  · rw [Bool.not_eq_false'] at h
    conv => whnf
    repeat (first | refine ACode.seq ?_ | (refine ACode.s_reg tys_ok ?_; conv => whnf) | refine ACode.s_block ?_ | refine ACode.s_scope ?_ | (refine ACode.s_cond ?_; conv => whnf) | (refine ACode.s_exit ?_; conv => whnf) | (refine ACode.s_ret ?_; conv => whnf) | (refine ACode.s_skip ?_; conv => whnf) | (refine ACode.s_label ?_; conv => whnf))
    refine ACall.of_spec (rCheck_spec r h) rfl fun r hr => ?_
    subst hr
    conv => whnf
    repeat (first | refine ACode.seq ?_ | (refine ACode.s_reg tys_ok ?_; conv => whnf) | refine ACode.s_block ?_ | refine ACode.s_scope ?_ | (refine ACode.s_cond ?_; conv => whnf) | (refine ACode.s_exit ?_; conv => whnf) | (refine ACode.s_ret ?_; conv => whnf) | (refine ACode.s_skip ?_; conv => whnf) | (refine ACode.s_label ?_; conv => whnf))
    rw [h]
    rfl
end Go.Proofs.YtkmhjamdgncpoaaDoor
