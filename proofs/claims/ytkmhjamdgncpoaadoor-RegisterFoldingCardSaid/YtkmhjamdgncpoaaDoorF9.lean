/-
  Check, at, At.
-/
import Derived.Test.YtkmhjamdgncpoaaDoorF7
set_option linter.unusedVariables false
set_option linter.unusedSimpArgs false
namespace Go.Proofs.YtkmhjamdgncpoaaDoor
open Go.Av Go.Shelf Pl Go.RowKit
def untilP (r : List Ch) (day : Int) : List Ch := r.takeWhile fun c => decide (c.da ≤ day)
def soundP (r : List Ch) : Bool := decide ((buildS r).2.1 = 0)
def atP (r : List Ch) (day : Int) : List St := if soundP r then (buildS (untilP r day)).1 else []
theorem edit_ne {s : St} {c : Ch} {e : Int} (h : editS s c = .error e) : e ≠ 0 := by
  unfold editS at h
  repeat' (first | (cases h; done) | (cases h; decide) | split at h)
theorem mk_ne {l : List St} {c : Ch} {e : Int} (h : mkS l c = .error e) : e ≠ 0 := by
  unfold mkS at h
  split at h
  · cases h
  · split at h
    · split at h
      · split at h
        · cases h
        · rename_i he
          cases h
          exact edit_ne he
      · cases h; decide
    · cases h; decide
theorem step_ne {p : Option Int} {i : Nat} {l : List St} {c : Ch} {e : Int} (h : stepS p i l c = .error e) : e ≠ 0 := by
  rw [step_eq] at h
  split at h
  · cases h; decide
  · split at h
    · cases h; decide
    · split at h
      · cases h; decide
      · split at h
        · rename_i he
          cases h
          exact mk_ne he
        · split at h
          · cases h; decide
          · cases h
theorem run_len : ∀ (r : List Ch) (i : Nat) (p : Option Int) (l : List St), (runS r i p l).2.1 = 0 → i ≤ 60 → i + r.length ≤ 60
  | [], i, p, l, _, hi => by simpa using hi
  | c :: r, i, p, l, h, hi => by
    unfold runS at h
    split at h
    · rename_i he
      exact absurd h (step_ne he)
    · rename_i hs
      have h60 : i < 60 := by
        rcases Nat.lt_or_ge i 60 with k | k
        · exact k
        · rw [step_lim k] at hs; cases hs
      have := run_len r (i + 1) _ _ h (by omega)
      simp; omega
theorem sound_len {r : List Ch} (h : soundP r = true) : r.length ≤ 60 := by
  have := run_len r 0 none [] (by unfold soundP buildS at h; simpa using h) (by omega)
  omega
theorem Check_spec (r : List Ch) : Ctr Tryd.prog 12 [chs r] (fun x => x = .tuple [.int .i64 (buildS r).2.1, .int .i64 (buildS r).2.2]) := by
  refine Ctr.of_body Tryd.func12 rfl tys_ok (by kernel_rfl) ?_
  conv => whnf
  repeat (first | refine ACode.seq ?_ | (refine ACode.s_reg tys_ok ?_; conv => whnf) | refine ACode.s_block ?_ | refine ACode.s_scope ?_ | (refine ACode.s_cond ?_; conv => whnf) | (refine ACode.s_exit ?_; conv => whnf) | (refine ACode.s_ret ?_; conv => whnf) | (refine ACode.s_skip ?_; conv => whnf) | (refine ACode.s_label ?_; conv => whnf))
  refine ACall.of_spec (build_spec r) rfl fun r hr => ?_
  subst hr
  conv => whnf
  repeat (first | refine ACode.seq ?_ | (refine ACode.s_reg tys_ok ?_; conv => whnf) | refine ACode.s_block ?_ | refine ACode.s_scope ?_ | (refine ACode.s_cond ?_; conv => whnf) | (refine ACode.s_exit ?_; conv => whnf) | (refine ACode.s_ret ?_; conv => whnf) | (refine ACode.s_skip ?_; conv => whnf) | (refine ACode.s_label ?_; conv => whnf))
set_option maxRecDepth 100000 in
theorem at_spec (r : List Ch) (day : Int) : Ctr Tryd.prog 24 [chs r, .int .i64 day] (fun x => x = .tuple [sts (atP r day), .bool (soundP r)]) := by
  refine Ctr.of_body Tryd.func24 rfl tys_ok (by kernel_rfl) ?_
  conv => whnf
  repeat (first | refine ACode.seq ?_ | (refine ACode.s_reg tys_ok ?_; conv => whnf) | refine ACode.s_block ?_ | refine ACode.s_scope ?_ | (refine ACode.s_cond ?_; conv => whnf) | (refine ACode.s_exit ?_; conv => whnf) | (refine ACode.s_ret ?_; conv => whnf) | (refine ACode.s_skip ?_; conv => whnf) | (refine ACode.s_label ?_; conv => whnf))
  refine ACall.of_spec (build_spec r) rfl fun r hr => ?_
  subst hr
  conv => whnf
  repeat (first | refine ACode.seq ?_ | (refine ACode.s_reg tys_ok ?_; conv => whnf) | refine ACode.s_block ?_ | refine ACode.s_scope ?_ | (refine ACode.s_cond ?_; conv => whnf) | (refine ACode.s_exit ?_; conv => whnf) | (refine ACode.s_ret ?_; conv => whnf) | (refine ACode.s_skip ?_; conv => whnf) | (refine ACode.s_label ?_; conv => whnf))
  refine ⟨fun h => ?_, fun h => ?_⟩
  · have hs : soundP r = false := by unfold soundP; simpa using h
    conv => whnf
    repeat (first | refine ACode.seq ?_ | (refine ACode.s_reg tys_ok ?_; conv => whnf) | refine ACode.s_block ?_ | refine ACode.s_scope ?_ | (refine ACode.s_cond ?_; conv => whnf) | (refine ACode.s_exit ?_; conv => whnf) | (refine ACode.s_ret ?_; conv => whnf) | (refine ACode.s_skip ?_; conv => whnf) | (refine ACode.s_label ?_; conv => whnf))
    refine ⟨8, ?_⟩
    conv => whnf
    unfold atP
    rw [hs]
    rfl
  · have hs : soundP r = true := by unfold soundP; simpa using h
    have hl := sound_len hs
    conv => whnf
    repeat (first | refine ACode.seq ?_ | (refine ACode.s_reg tys_ok ?_; conv => whnf) | refine ACode.s_block ?_ | refine ACode.s_scope ?_ | (refine ACode.s_cond ?_; conv => whnf) | (refine ACode.s_exit ?_; conv => whnf) | (refine ACode.s_ret ?_; conv => whnf) | (refine ACode.s_skip ?_; conv => whnf) | (refine ACode.s_label ?_; conv => whnf))
    refine ACode.loopD (fun k : Nat => mk 45 [(0, chs r), (1, .int .i64 day), (9, .int .i64 k)]) (fun _ => []) (fun k => k ≤ r.length ∧ untilP r day = r.take k ++ untilP (r.drop k) day) (fun k => r.length - k) (fun _ _ => ⟨rfl, trivial⟩) ⟨0, ?_⟩ (fun _ => rfl) fun k hk => ?_
    · conv => whnf
      repeat (refine And.intro ?_ ?_; (focus (first | rfl | (simp; done) | (simp; done))); conv => whnf)
      rfl
    · obtain ⟨hk, ha⟩ := hk
      repeat (first | refine ACode.seq ?_ | (refine ACode.s_reg tys_ok ?_; conv => whnf) | refine ACode.s_block ?_ | refine ACode.s_scope ?_ | (refine ACode.s_cond ?_; conv => whnf) | (refine ACode.s_exit ?_; conv => whnf) | (refine ACode.s_ret ?_; conv => whnf) | (refine ACode.s_skip ?_; conv => whnf) | (refine ACode.s_label ?_; conv => whnf))
      refine ⟨fun h1 => ?_, fun h1 => ?_⟩
      · have h1 : k < r.length := by simpa using h1
        conv => whnf
        repeat (first | refine ACode.seq ?_ | (refine ACode.s_reg tys_ok ?_; conv => whnf) | refine ACode.s_block ?_ | refine ACode.s_scope ?_ | (refine ACode.s_cond ?_; conv => whnf) | (refine ACode.s_exit ?_; conv => whnf) | (refine ACode.s_ret ?_; conv => whnf) | (refine ACode.s_skip ?_; conv => whnf) | (refine ACode.s_label ?_; conv => whnf))
        refine ⟨by omega, (r[k]).v, by simp [h1], ?_⟩
        conv => whnf
        repeat (first | refine ACode.seq ?_ | (refine ACode.s_reg tys_ok ?_; conv => whnf) | refine ACode.s_block ?_ | refine ACode.s_scope ?_ | (refine ACode.s_cond ?_; conv => whnf) | (refine ACode.s_exit ?_; conv => whnf) | (refine ACode.s_ret ?_; conv => whnf) | (refine ACode.s_skip ?_; conv => whnf) | (refine ACode.s_label ?_; conv => whnf))
        refine ⟨fun h2 => ?_, fun h2 => ?_⟩
        · have h2 : (r[k]).da ≤ day := by simpa using h2
          conv => whnf
          repeat (first | refine ACode.seq ?_ | (refine ACode.s_reg tys_ok ?_; conv => whnf) | refine ACode.s_block ?_ | refine ACode.s_scope ?_ | (refine ACode.s_cond ?_; conv => whnf) | (refine ACode.s_exit ?_; conv => whnf) | (refine ACode.s_ret ?_; conv => whnf) | (refine ACode.s_skip ?_; conv => whnf) | (refine ACode.s_label ?_; conv => whnf))
          refine ⟨k + 1, ?_⟩
          conv => whnf
          repeat (refine And.intro ?_ ?_; (focus (first | rfl | (simp; done) | ((show Wr .i64 _ = _; rw [Wr64 _ (by omega) (by omega)]; rfl); done))); conv => whnf)
          exact ⟨⟨by omega, by rw [ha, List.drop_eq_getElem_cons h1, List.take_succ_eq_append_getElem h1]; unfold untilP; rw [List.takeWhile_cons]; simp only [h2, decide_true, if_true, List.append_assoc, List.singleton_append]⟩, by omega⟩
        · have h2 : ¬ (r[k]).da ≤ day := by simpa using h2
          have hu : untilP r day = r.take k := by rw [ha, List.drop_eq_getElem_cons h1]; unfold untilP; rw [List.takeWhile_cons]; simp [h2]
          conv => whnf
          repeat (first | refine ACode.seq ?_ | (refine ACode.s_reg tys_ok ?_; conv => whnf) | refine ACode.s_block ?_ | refine ACode.s_scope ?_ | (refine ACode.s_cond ?_; conv => whnf) | (refine ACode.s_exit ?_; conv => whnf) | (refine ACode.s_ret ?_; conv => whnf) | (refine ACode.s_skip ?_; conv => whnf) | (refine ACode.s_label ?_; conv => whnf))
          have e2 : AV.sl 9 (List.drop (Int.toNat 0) (List.take ((k : Int)).toNat (List.map Ch.v r))) = chs (untilP r day) := by rw [hu]; simp [chs, List.map_take]
          have spec : Ctr Tryd.prog 23 [AV.sl 9 (List.drop (Int.toNat 0) (List.take ((k : Int)).toNat (List.map Ch.v r)))] (fun x => x = resB (buildS (untilP r day))) := by rw [e2]; exact build_spec _
          refine ⟨⟨by omega, by omega, by simp; omega⟩, ?_⟩
          conv => whnf
          repeat (first | refine ACode.seq ?_ | (refine ACode.s_reg tys_ok ?_; conv => whnf) | refine ACode.s_block ?_ | refine ACode.s_scope ?_ | (refine ACode.s_cond ?_; conv => whnf) | (refine ACode.s_exit ?_; conv => whnf) | (refine ACode.s_ret ?_; conv => whnf) | (refine ACode.s_skip ?_; conv => whnf) | (refine ACode.s_label ?_; conv => whnf))
          refine ACall.of_spec spec rfl fun x hx => ?_
          subst hx
          conv => whnf
          repeat (first | refine ACode.seq ?_ | (refine ACode.s_reg tys_ok ?_; conv => whnf) | refine ACode.s_block ?_ | refine ACode.s_scope ?_ | (refine ACode.s_cond ?_; conv => whnf) | (refine ACode.s_exit ?_; conv => whnf) | (refine ACode.s_ret ?_; conv => whnf) | (refine ACode.s_skip ?_; conv => whnf) | (refine ACode.s_label ?_; conv => whnf))
          unfold atP
          rw [hs]
          rfl
      · have h1 : k = r.length := by simp at h1; omega
        have hu : untilP r day = r.take k := by rw [ha, h1, List.drop_length]; simp [untilP]
        conv => whnf
        repeat (first | refine ACode.seq ?_ | (refine ACode.s_reg tys_ok ?_; conv => whnf) | refine ACode.s_block ?_ | refine ACode.s_scope ?_ | (refine ACode.s_cond ?_; conv => whnf) | (refine ACode.s_exit ?_; conv => whnf) | (refine ACode.s_ret ?_; conv => whnf) | (refine ACode.s_skip ?_; conv => whnf) | (refine ACode.s_label ?_; conv => whnf))
        have e2 : AV.sl 9 (List.drop (Int.toNat 0) (List.take ((k : Int)).toNat (List.map Ch.v r))) = chs (untilP r day) := by rw [hu]; simp [chs, List.map_take]
        have spec : Ctr Tryd.prog 23 [AV.sl 9 (List.drop (Int.toNat 0) (List.take ((k : Int)).toNat (List.map Ch.v r)))] (fun x => x = resB (buildS (untilP r day))) := by rw [e2]; exact build_spec _
        refine ⟨⟨by omega, by omega, by simp; omega⟩, ?_⟩
        conv => whnf
        repeat (first | refine ACode.seq ?_ | (refine ACode.s_reg tys_ok ?_; conv => whnf) | refine ACode.s_block ?_ | refine ACode.s_scope ?_ | (refine ACode.s_cond ?_; conv => whnf) | (refine ACode.s_exit ?_; conv => whnf) | (refine ACode.s_ret ?_; conv => whnf) | (refine ACode.s_skip ?_; conv => whnf) | (refine ACode.s_label ?_; conv => whnf))
        refine ACall.of_spec spec rfl fun x hx => ?_
        subst hx
        conv => whnf
        repeat (first | refine ACode.seq ?_ | (refine ACode.s_reg tys_ok ?_; conv => whnf) | refine ACode.s_block ?_ | refine ACode.s_scope ?_ | (refine ACode.s_cond ?_; conv => whnf) | (refine ACode.s_exit ?_; conv => whnf) | (refine ACode.s_ret ?_; conv => whnf) | (refine ACode.s_skip ?_; conv => whnf) | (refine ACode.s_label ?_; conv => whnf))
        unfold atP
        rw [hs]
        rfl
end Go.Proofs.YtkmhjamdgncpoaaDoor
