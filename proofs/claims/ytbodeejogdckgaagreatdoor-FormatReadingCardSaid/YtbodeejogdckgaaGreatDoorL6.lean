/-
  FormatPrinting.
-/
import Derived.Test.YtbodeejogdckgaaGreatDoorL5
set_option linter.unusedVariables false
set_option linter.unusedSimpArgs false
namespace Go.Proofs.YtbodeejogdckgaaGreatDoor
open Go.Av Go.Shelf Pl
theorem print_small {f : Fm} {x : Ad} (hv : validF f = true) (hx : fitsF f x = true) : ∀ s ∈ printF f x, s.length ≤ 1000 := by
  intro s hs
  obtain ⟨l, hl, rfl⟩ := List.mem_map.1 hs
  have hsm := fits_small (valid_good hv).2.2 hx
  have hp := valid_parts hv l hl
  have hfp := fits_parts hx l hl
  have hl8 : l.length ≤ 8 := by
    rw [validF_has] at hv
    simp only [Bool.and_eq_true] at hv
    have := List.all_eq_true.1 hv.1.2 l hl
    unfold lenOK at this
    simp only [Bool.and_eq_true, decide_eq_true_eq] at this
    exact this.2
  unfold lineP
  have hj := join_len [32] 84 (l.map fun p => printP p x) fun y hy => by
    obtain ⟨p, hpl, rfl⟩ := List.mem_map.1 hy
    have h1 := hp p hpl
    have h2 := hfp p hpl
    rcases part_kind h1 with hk | hk | hk | hk | hk | hk
    · unfold partB at h1
      rw [if_pos hk] at h1
      unfold fitB at h1
      simp only [Bool.and_eq_true, decide_eq_true_eq] at h1
      unfold printP
      rw [if_pos hk]
      omega
    · unfold fitP at h2
      rw [if_pos hk] at h2
      simp only [Bool.and_eq_true, decide_eq_true_eq] at h2
      unfold printP
      rw [if_neg (by omega), if_pos hk]
      have := itoa_len (n := x.nu) (by omega) (by omega)
      omega
    all_goals (unfold printP; simp [hk]; omega)
  rw [List.length_map] at hj
  have e : 84 + ([32] : Bs).length = 85 := rfl
  rw [e] at hj
  have := Nat.mul_le_mul_right 85 hl8
  omega
set_option maxRecDepth 100000 in
theorem printing_law (f : Fm) (x : Ad) (hco : x.co.length ≤ 9223372036854775807) : Ctr Tryz.prog 4 [f.v, x.v] (fun r => r = .bool true) := by
  refine Ctr.of_body Tryz.func4 rfl tys_ok (by kernel_rfl) ?_
  conv => whnf
  repeat (first | refine ACode.seq ?_ | (refine ACode.s_reg tys_ok ?_; conv => whnf) | refine ACode.s_block ?_ | refine ACode.s_scope ?_ | (refine ACode.s_cond ?_; conv => whnf) | (refine ACode.s_exit ?_; conv => whnf) | (refine ACode.s_ret ?_; conv => whnf) | (refine ACode.s_skip ?_; conv => whnf) | (refine ACode.s_label ?_; conv => whnf))
  refine ACall.of_spec (head_spec) rfl fun r hr => ?_
  subst hr
  conv => whnf
  repeat (first | refine ACode.seq ?_ | (refine ACode.s_reg tys_ok ?_; conv => whnf) | refine ACode.s_block ?_ | refine ACode.s_scope ?_ | (refine ACode.s_cond ?_; conv => whnf) | (refine ACode.s_exit ?_; conv => whnf) | (refine ACode.s_ret ?_; conv => whnf) | (refine ACode.s_skip ?_; conv => whnf) | (refine ACode.s_label ?_; conv => whnf))
  refine ACall.args (args' := [f.v, strsA []]) (by repeat' first | exact trivial | exact rfl | refine ⟨?_, ?_⟩) ?_
  repeat' (first | (refine And.intro (fun _ => ?_) (fun _ => ?_) <;> conv => whnf) | (refine ACall.of_spec (few_spec f []) rfl fun r hr => ?_; subst hr; conv => whnf) | refine ACode.seq ?_ | (refine ACode.s_reg tys_ok ?_; conv => whnf) | refine ACode.s_block ?_ | refine ACode.s_scope ?_ | (refine ACode.s_cond ?_; conv => whnf) | (refine ACode.s_exit ?_; conv => whnf) | (refine ACode.s_ret ?_; conv => whnf) | (refine ACode.s_skip ?_; conv => whnf) | (refine ACode.s_label ?_; conv => whnf))
  rename_i hfew hsum
  clear hsum
  have hfew : fewB f [] = true := by simpa using hfew
  obtain ⟨hs, hn8, hn200, hL10, hP10⟩ := few_small hfew
  refine ACall.of_spec (print_spec f x hs hco) rfl fun r hr => ?_
  subst hr
  conv => whnf
  repeat (first | refine ACode.seq ?_ | (refine ACode.s_reg tys_ok ?_; conv => whnf) | refine ACode.s_block ?_ | refine ACode.s_scope ?_ | (refine ACode.s_cond ?_; conv => whnf) | (refine ACode.s_exit ?_; conv => whnf) | (refine ACode.s_ret ?_; conv => whnf) | (refine ACode.s_skip ?_; conv => whnf) | (refine ACode.s_label ?_; conv => whnf))
  by_cases hvf : (validF f && fitsF f x) = true
  · have hR : printR f x = (printF f x, 0) := by unfold printR; rw [if_pos hvf]
    rw [hR]
    simp only [Bool.and_eq_true] at hvf
    obtain ⟨hv, hx⟩ := hvf
    have hpl := print_small hv hx
    have hlen : (printF f x).length = f.lines.length := by unfold printF; simp
    obtain ⟨hall, hmem⟩ := print_read hv hx
    have herr := parse_err hv (printF f x)
    have hin : (parseR f (printF f x)).2 = 0 → x ∈ (parseR f (printF f x)).1 := by
      intro h
      unfold parseR at h ⊢
      rw [if_pos hv] at h ⊢
      by_cases hc : countW (printF f x) ≤ 40
      · rw [if_pos hc, if_pos ⟨hlen, hall⟩]
        exact hmem
      · rw [if_neg hc] at h
        cases h
    have h16 := parse_few f (printF f x)
    refine And.intro (fun h => absurd h (by simp)) (fun h => ?_)
    conv => whnf
    conv => whnf
    repeat (first | refine ACode.seq ?_ | (refine ACode.s_reg tys_ok ?_; conv => whnf) | refine ACode.s_block ?_ | refine ACode.s_scope ?_ | (refine ACode.s_cond ?_; conv => whnf) | (refine ACode.s_exit ?_; conv => whnf) | (refine ACode.s_ret ?_; conv => whnf) | (refine ACode.s_skip ?_; conv => whnf) | (refine ACode.s_label ?_; conv => whnf))
    refine ACall.of_spec (parse_spec f (printF f x) hs (by omega) fun l hl => hpl l hl) rfl fun r hr => ?_
    subst hr
    conv => whnf
    repeat (first | refine ACode.seq ?_ | (refine ACode.s_reg tys_ok ?_; conv => whnf) | refine ACode.s_block ?_ | refine ACode.s_scope ?_ | (refine ACode.s_cond ?_; conv => whnf) | (refine ACode.s_exit ?_; conv => whnf) | (refine ACode.s_ret ?_; conv => whnf) | (refine ACode.s_skip ?_; conv => whnf) | (refine ACode.s_label ?_; conv => whnf))
    generalize printF f x = PL at *
    generalize hRe : parseR f PL = R at *
    repeat' (first | (refine And.intro (fun _ => ?_) (fun _ => ?_) <;> conv => whnf) | refine ACode.seq ?_ | (refine ACode.s_reg tys_ok ?_; conv => whnf) | refine ACode.s_block ?_ | refine ACode.s_scope ?_ | (refine ACode.s_cond ?_; conv => whnf) | (refine ACode.s_exit ?_; conv => whnf) | (refine ACode.s_ret ?_; conv => whnf) | (refine ACode.s_skip ?_; conv => whnf) | (refine ACode.s_label ?_; conv => whnf))
    rename_i hg2
    have hg2 : ¬ R.2 = 2 := by simpa using hg2
    have hg0 : R.2 = 0 := by omega
    have hpl8 : PL.length ≤ 10 := by omega
    have hRl : (R.1.map Ad.v).length = R.1.length := by simp
    have hfl : (f.lines.map ptsA).length = f.lines.length := by simp
    have hsl : (strs PL).length = PL.length := by simp
    refine ACode.loopD (fun i : Nat => mk 89 [(2, .ptr 0 0), (3, .ptr 1 0), (4, .lit false), (5, .bool true), (6, strsA PL), (8, .sl 5 (R.1.map Ad.v)), (9, .int .i64 R.2), (10, .bool (decide (x ∈ R.1.take i))), (11, .int .i64 i)]) (fun i => [.cells [.str f.name, .sl 1 (f.lines.map ptsA)], .cells (adA x)]) (fun i => i ≤ R.1.length) (fun i => R.1.length - i) (fun _ _ => ⟨rfl, rfl, rfl, trivial⟩) ⟨0, ?_⟩ (fun _ => rfl) fun i hi => ?_
    · conv => whnf
      repeat (refine And.intro ?_ ?_; (focus (first | rfl | (simp; done))); conv => whnf)
      exact Nat.zero_le _
    · repeat (first | refine ACode.seq ?_ | (refine ACode.s_reg tys_ok ?_; conv => whnf) | refine ACode.s_block ?_ | refine ACode.s_scope ?_ | (refine ACode.s_cond ?_; conv => whnf) | (refine ACode.s_exit ?_; conv => whnf) | (refine ACode.s_ret ?_; conv => whnf) | (refine ACode.s_skip ?_; conv => whnf) | (refine ACode.s_label ?_; conv => whnf))
      refine ⟨fun h => ?_, fun h => ?_⟩
      · have h : i < R.1.length := by have := of_decide_eq_true h; omega
        have hw1 : Wr .i64 ((i : Int) + 1) = ((i + 1 : Nat) : Int) := by rw [Wr64 _ (by omega) (by omega)]; rfl
        have hget : (R.1.map Ad.v)[i]? = some R.1[i].v := by simp [h]
        have hmem : (x ∈ R.1.take (i + 1)) ↔ (x ∈ R.1.take i ∨ R.1[i] = x) := by
          rw [List.take_succ_eq_append_getElem h, List.mem_append, List.mem_singleton]
          exact ⟨fun h => h.imp id Eq.symm, fun h => h.imp id Eq.symm⟩
        conv => whnf
        repeat (first | refine ACode.seq ?_ | (refine ACode.s_reg tys_ok ?_; conv => whnf) | refine ACode.s_block ?_ | refine ACode.s_scope ?_ | (refine ACode.s_cond ?_; conv => whnf) | (refine ACode.s_exit ?_; conv => whnf) | (refine ACode.s_ret ?_; conv => whnf) | (refine ACode.s_skip ?_; conv => whnf) | (refine ACode.s_label ?_; conv => whnf))
        refine ACode.draw [] tys_ok (by kernel_rfl) (by kernel_rfl) ?_
        conv => whnf
        refine ⟨fun g => ?_, fun g => ?_⟩
        · conv => whnf
          repeat (first | refine ACode.seq ?_ | (refine ACode.s_reg tys_ok ?_; conv => whnf) | refine ACode.s_block ?_ | refine ACode.s_scope ?_ | (refine ACode.s_cond ?_; conv => whnf) | (refine ACode.s_exit ?_; conv => whnf) | (refine ACode.s_ret ?_; conv => whnf) | (refine ACode.s_skip ?_; conv => whnf) | (refine ACode.s_label ?_; conv => whnf))
          repeat' (first | (refine And.intro (fun _ => ?_) (fun _ => ?_) <;> conv => whnf) | refine ACode.seq ?_ | (refine ACode.s_reg tys_ok ?_; conv => whnf) | refine ACode.s_block ?_ | refine ACode.s_scope ?_ | (refine ACode.s_cond ?_; conv => whnf) | (refine ACode.s_exit ?_; conv => whnf) | (refine ACode.s_ret ?_; conv => whnf) | (refine ACode.s_skip ?_; conv => whnf) | (refine ACode.s_label ?_; conv => whnf))
          refine ⟨i + 1, ?_⟩
          conv => whnf
          repeat (refine And.intro ?_ ?_; (focus (first | rfl | (simp; done) | (first | exact hw1 | (simp at g; simp [hmem, g]); done))); conv => whnf)
          exact ⟨h, by omega⟩
        · conv => whnf
          refine ⟨by omega, _, hget, ?_⟩
          conv => whnf
          rw [ad_eq]
          conv => whnf
          repeat (first | refine ACode.seq ?_ | (refine ACode.s_reg tys_ok ?_; conv => whnf) | refine ACode.s_block ?_ | refine ACode.s_scope ?_ | (refine ACode.s_cond ?_; conv => whnf) | (refine ACode.s_exit ?_; conv => whnf) | (refine ACode.s_ret ?_; conv => whnf) | (refine ACode.s_skip ?_; conv => whnf) | (refine ACode.s_label ?_; conv => whnf))
          repeat' (first | (refine And.intro (fun _ => ?_) (fun _ => ?_) <;> conv => whnf) | refine ACode.seq ?_ | (refine ACode.s_reg tys_ok ?_; conv => whnf) | refine ACode.s_block ?_ | refine ACode.s_scope ?_ | (refine ACode.s_cond ?_; conv => whnf) | (refine ACode.s_exit ?_; conv => whnf) | (refine ACode.s_ret ?_; conv => whnf) | (refine ACode.s_skip ?_; conv => whnf) | (refine ACode.s_label ?_; conv => whnf))
          all_goals refine ⟨i + 1, ?_⟩
          · rename_i g2
            conv => whnf
            repeat (refine And.intro ?_ ?_; (focus (first | rfl | (simp; done) | (first | exact hw1 | (simp at g2; simp [hmem, g2]); done))); conv => whnf)
            exact ⟨h, by omega⟩
          · rename_i g2
            conv => whnf
            repeat (refine And.intro ?_ ?_; (focus (first | rfl | (simp; done) | (first | exact hw1 | (simp at g g2; simp [hmem, g, g2]); done))); conv => whnf)
            exact ⟨h, by omega⟩
      · have h : i = R.1.length := by have := of_decide_eq_false h; omega
        rw [h, List.take_length, hg0]
        conv => whnf
        repeat (first | refine ACode.seq ?_ | (refine ACode.s_reg tys_ok ?_; conv => whnf) | refine ACode.s_block ?_ | refine ACode.s_scope ?_ | (refine ACode.s_cond ?_; conv => whnf) | (refine ACode.s_exit ?_; conv => whnf) | (refine ACode.s_ret ?_; conv => whnf) | (refine ACode.s_skip ?_; conv => whnf) | (refine ACode.s_label ?_; conv => whnf))
        repeat' (first | (refine And.intro (fun _ => ?_) (fun _ => ?_) <;> conv => whnf) | refine ACode.seq ?_ | (refine ACode.s_reg tys_ok ?_; conv => whnf) | refine ACode.s_block ?_ | refine ACode.s_scope ?_ | (refine ACode.s_cond ?_; conv => whnf) | (refine ACode.s_exit ?_; conv => whnf) | (refine ACode.s_ret ?_; conv => whnf) | (refine ACode.s_skip ?_; conv => whnf) | (refine ACode.s_label ?_; conv => whnf))
        · refine congrArg AV.bool (decide_eq_true ?_)
          rw [hsl, hfl, hlen]
        · rename_i hx
          have hx := of_decide_eq_false hx
          exact absurd (hin hg0) hx
        · rename_i hx
          cases hx
        · rename_i hx
          cases hx
  · have hR : printR f x = ([], 1) := by unfold printR; rw [if_neg hvf]
    rw [hR]
    refine And.intro (fun h => ?_) (fun h => absurd h (by simp))
    conv => whnf
    conv => whnf
    repeat (first | refine ACode.seq ?_ | (refine ACode.s_reg tys_ok ?_; conv => whnf) | refine ACode.s_block ?_ | refine ACode.s_scope ?_ | (refine ACode.s_cond ?_; conv => whnf) | (refine ACode.s_exit ?_; conv => whnf) | (refine ACode.s_ret ?_; conv => whnf) | (refine ACode.s_skip ?_; conv => whnf) | (refine ACode.s_label ?_; conv => whnf))
    repeat' (first | (refine And.intro (fun _ => ?_) (fun _ => ?_) <;> conv => whnf) | refine ACode.seq ?_ | (refine ACode.s_reg tys_ok ?_; conv => whnf) | refine ACode.s_block ?_ | refine ACode.s_scope ?_ | (refine ACode.s_cond ?_; conv => whnf) | (refine ACode.s_exit ?_; conv => whnf) | (refine ACode.s_ret ?_; conv => whnf) | (refine ACode.s_skip ?_; conv => whnf) | (refine ACode.s_label ?_; conv => whnf))
    · rfl
    · rename_i h
      cases h
end Go.Proofs.YtbodeejogdckgaaGreatDoor
