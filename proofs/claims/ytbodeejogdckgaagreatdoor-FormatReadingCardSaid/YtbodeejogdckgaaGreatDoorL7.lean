/-
  FormatReading.
-/
import Derived.Test.YtbodeejogdckgaaGreatDoorL6
import Derived.Test.YtbodeejogdckgaaGreatDoorG6
set_option linter.unusedVariables false
set_option linter.unusedSimpArgs false
namespace Go.Proofs.YtbodeejogdckgaaGreatDoor
open Go.Av Go.Shelf Pl
set_option maxRecDepth 100000 in
theorem reading_law (f : Fm) (ls : List Bs) : Ctr Tryz.prog 5 [f.v, strsA ls] (fun r => r = .bool true) := by
  refine Ctr.of_body Tryz.func5 rfl tys_ok (by kernel_rfl) ?_
  conv => whnf
  repeat (first | refine ACode.seq ?_ | (refine ACode.s_reg tys_ok ?_; conv => whnf) | refine ACode.s_block ?_ | refine ACode.s_scope ?_ | (refine ACode.s_cond ?_; conv => whnf) | (refine ACode.s_exit ?_; conv => whnf) | (refine ACode.s_ret ?_; conv => whnf) | (refine ACode.s_skip ?_; conv => whnf) | (refine ACode.s_label ?_; conv => whnf))
  refine ACall.of_spec (head_spec) rfl fun r hr => ?_
  subst hr
  conv => whnf
  repeat (first | refine ACode.seq ?_ | (refine ACode.s_reg tys_ok ?_; conv => whnf) | refine ACode.s_block ?_ | refine ACode.s_scope ?_ | (refine ACode.s_cond ?_; conv => whnf) | (refine ACode.s_exit ?_; conv => whnf) | (refine ACode.s_ret ?_; conv => whnf) | (refine ACode.s_skip ?_; conv => whnf) | (refine ACode.s_label ?_; conv => whnf))
  repeat' (first | (refine And.intro (fun _ => ?_) (fun _ => ?_) <;> conv => whnf) | (refine ACall.of_spec (few_spec f ls) rfl fun r hr => ?_; subst hr; conv => whnf) | refine ACode.seq ?_ | (refine ACode.s_reg tys_ok ?_; conv => whnf) | refine ACode.s_block ?_ | refine ACode.s_scope ?_ | (refine ACode.s_cond ?_; conv => whnf) | (refine ACode.s_exit ?_; conv => whnf) | (refine ACode.s_ret ?_; conv => whnf) | (refine ACode.s_skip ?_; conv => whnf) | (refine ACode.s_label ?_; conv => whnf))
  rename_i hfew
  have hfew : fewB f ls = true := by simpa using hfew
  obtain ⟨hs, hn8, hn200, hL10, hP10⟩ := few_small hfew
  refine ACall.of_spec (parse_spec f ls hs (by omega) (fun l hl => by have := hn200 l hl; omega)) rfl fun r hr => ?_
  subst hr
  conv => whnf
  repeat (first | refine ACode.seq ?_ | (refine ACode.s_reg tys_ok ?_; conv => whnf) | refine ACode.s_block ?_ | refine ACode.s_scope ?_ | (refine ACode.s_cond ?_; conv => whnf) | (refine ACode.s_exit ?_; conv => whnf) | (refine ACode.s_ret ?_; conv => whnf) | (refine ACode.s_skip ?_; conv => whnf) | (refine ACode.s_label ?_; conv => whnf))
  obtain ⟨hall, hord⟩ := parse_all f ls
  have h16 := parse_few f ls
  have hlt := List.pairwise_iff_getElem.1 hord
  have hnone : (parseR f ls).2 ≠ 0 → (parseR f ls).1 = [] := by
    unfold parseR
    split
    · split
      · split
        · exact fun h => absurd rfl h
        · exact fun _ => rfl
      · exact fun _ => rfl
    · exact fun _ => rfl
  generalize parseR f ls = R at *
  have hmR : (R.1.map Ad.v).length = R.1.length := by simp
  refine ⟨fun h => ?_, fun h => ?_⟩
  · have h : R.2 ≠ 0 := by simpa using h
    rw [hnone h]
    conv => whnf
    repeat (first | refine ACode.seq ?_ | (refine ACode.s_reg tys_ok ?_; conv => whnf) | refine ACode.s_block ?_ | refine ACode.s_scope ?_ | (refine ACode.s_cond ?_; conv => whnf) | (refine ACode.s_exit ?_; conv => whnf) | (refine ACode.s_ret ?_; conv => whnf) | (refine ACode.s_skip ?_; conv => whnf) | (refine ACode.s_label ?_; conv => whnf))
    repeat' (first | (refine And.intro (fun _ => ?_) (fun _ => ?_) <;> conv => whnf) | refine ACode.seq ?_ | (refine ACode.s_reg tys_ok ?_; conv => whnf) | refine ACode.s_block ?_ | refine ACode.s_scope ?_ | (refine ACode.s_cond ?_; conv => whnf) | (refine ACode.s_exit ?_; conv => whnf) | (refine ACode.s_ret ?_; conv => whnf) | (refine ACode.s_skip ?_; conv => whnf) | (refine ACode.s_label ?_; conv => whnf))
    · rfl
    · rename_i h
      cases h
  · have hsl : (strs ls).length = ls.length := by simp
    conv => whnf
    repeat (first | refine ACode.seq ?_ | (refine ACode.s_reg tys_ok ?_; conv => whnf) | refine ACode.s_block ?_ | refine ACode.s_scope ?_ | (refine ACode.s_cond ?_; conv => whnf) | (refine ACode.s_exit ?_; conv => whnf) | (refine ACode.s_ret ?_; conv => whnf) | (refine ACode.s_skip ?_; conv => whnf) | (refine ACode.s_label ?_; conv => whnf))
    refine ACode.loopD (fun i : Nat => mk 101 [(1, strsA ls), (2, .ptr 0 0), (4, .lit false), (5, .bool true), (6, .sl 5 (R.1.map Ad.v)), (8, .int .i64 i)]) (fun i => [.cells [.str f.name, .sl 1 (f.lines.map ptsA)]]) (fun i => i ≤ R.1.length) (fun i => R.1.length - i) (fun _ _ => ⟨rfl, rfl, trivial⟩) ⟨0, ?_⟩ (fun _ => rfl) fun i hi => ?_
    · conv => whnf
      repeat (refine And.intro ?_ ?_; (focus (first | rfl | (simp; done))); conv => whnf)
      exact Nat.zero_le _
    · repeat (first | refine ACode.seq ?_ | (refine ACode.s_reg tys_ok ?_; conv => whnf) | refine ACode.s_block ?_ | refine ACode.s_scope ?_ | (refine ACode.s_cond ?_; conv => whnf) | (refine ACode.s_exit ?_; conv => whnf) | (refine ACode.s_ret ?_; conv => whnf) | (refine ACode.s_skip ?_; conv => whnf) | (refine ACode.s_label ?_; conv => whnf))
      refine ⟨fun h => ?_, fun h => ?_⟩
      · have h : i < R.1.length := by have := of_decide_eq_true h; omega
        have hw1 : Wr .i64 ((i : Int) + 1) = ((i + 1 : Nat) : Int) := by rw [Wr64 _ (by omega) (by omega)]; rfl
        have hgi := ads_get R.1 i h
        have hmem : R.1[i] ∈ R.1 := List.getElem_mem h
        obtain ⟨hv, hln, hfit, hwd⟩ := hall _ hmem
        have hne : ∀ (k : Nat) (hk : k < i), ¬ R.1[k] = R.1[i] := fun k hk e => by
          have h9 := hlt k i (by omega) h hk
          unfold LessA at h9
          rw [e, less_irrefl] at h9
          cases h9
        generalize R.1[i] = x at *
        have hsm := fits_small (valid_good hv).2.2 hfit
        have hPR : printR f x = (printF f x, 0) := by unfold printR; rw [hv, hfit]; rfl
        have hpl := print_small hv hfit
        have hpn : (printF f x).length = ls.length := by unfold printF; simp; omega
        have hps := print_spec f x hs (by omega)
        rw [hPR] at hps
        generalize printF f x = P at *
        have hsP : (strs P).length = P.length := by simp
        conv => whnf
        repeat (first | refine ACode.seq ?_ | (refine ACode.s_reg tys_ok ?_; conv => whnf) | refine ACode.s_block ?_ | refine ACode.s_scope ?_ | (refine ACode.s_cond ?_; conv => whnf) | (refine ACode.s_exit ?_; conv => whnf) | (refine ACode.s_ret ?_; conv => whnf) | (refine ACode.s_skip ?_; conv => whnf) | (refine ACode.s_label ?_; conv => whnf))
        refine ACode.draw [] tys_ok (by kernel_rfl) (by kernel_rfl) ?_
        conv => whnf
        refine ⟨by omega, _, hgi, ?_⟩
        conv => whnf
        refine ⟨_, ⟨hps, rfl⟩, ?_⟩
        conv => whnf
        repeat (first | refine ACode.seq ?_ | (refine ACode.s_reg tys_ok ?_; conv => whnf) | refine ACode.s_block ?_ | refine ACode.s_scope ?_ | (refine ACode.s_cond ?_; conv => whnf) | (refine ACode.s_exit ?_; conv => whnf) | (refine ACode.s_ret ?_; conv => whnf) | (refine ACode.s_skip ?_; conv => whnf) | (refine ACode.s_label ?_; conv => whnf))
        have hrf := rfits_spec f x hs (valid_good hv).1 ⟨by omega, by omega, by omega, by omega⟩
        rw [hfit] at hrf
        refine ACode.draw [] tys_ok (by kernel_rfl) (by kernel_rfl) ?_
        conv => whnf
        refine ⟨by omega, _, hgi, ?_⟩
        conv => whnf
        refine ⟨_, ⟨hrf, rfl⟩, ?_⟩
        conv => whnf
        refine ⟨fun _ => ?_, fun h => by cases h⟩
        conv => whnf
        refine ⟨fun h => by simp at h, fun _ => ?_⟩
        conv => whnf
        refine ⟨fun h => by simp [hpn] at h, fun _ => ?_⟩
        conv => whnf
        repeat (first | refine ACode.seq ?_ | (refine ACode.s_reg tys_ok ?_; conv => whnf) | refine ACode.s_block ?_ | refine ACode.s_scope ?_ | (refine ACode.s_cond ?_; conv => whnf) | (refine ACode.s_exit ?_; conv => whnf) | (refine ACode.s_ret ?_; conv => whnf) | (refine ACode.s_skip ?_; conv => whnf) | (refine ACode.s_label ?_; conv => whnf))
        repeat' (first | (refine And.intro (fun _ => ?_) (fun _ => ?_) <;> conv => whnf) | refine ACode.seq ?_ | (refine ACode.s_reg tys_ok ?_; conv => whnf) | refine ACode.s_block ?_ | refine ACode.s_scope ?_ | (refine ACode.s_cond ?_; conv => whnf) | (refine ACode.s_exit ?_; conv => whnf) | (refine ACode.s_ret ?_; conv => whnf) | (refine ACode.s_skip ?_; conv => whnf) | (refine ACode.s_label ?_; conv => whnf))
        have hwk : ∀ (k : Nat) (h1 : k < P.length) (h2 : k < ls.length), wordsW (upB P[k]) = wordsW (upB ls[k]) := fun k h1 h2 => by
          have e1 : (P.map fun s => wordsW (upB s))[k]? = (ls.map fun s => wordsW (upB s))[k]? := by rw [hwd]
          simpa [h1, h2] using e1
        refine ACode.loopD (fun k : Nat => mk 101 [(1, strsA ls), (2, .ptr 0 0), (4, .lit false), (5, .bool true), (6, .sl 5 (R.1.map Ad.v)), (8, .int .i64 i), (9, strsA P), (11, .int .i64 k)]) (fun k => [HO.cells [.str f.name, .sl 1 (f.lines.map ptsA)]] ++ List.replicate 11 HO.dead ++ List.replicate 18 HO.dead) (fun k => k ≤ P.length) (fun k => P.length - k) (fun _ _ => ⟨rfl, by (conv => whnf); exact ⟨rfl, trivial⟩⟩) ⟨0, ?_⟩ (fun _ => rfl) fun k hk => ?_
        · conv => whnf
          repeat (refine And.intro ?_ ?_; (focus (first | rfl | (simp; done))); conv => whnf)
          exact Nat.zero_le _
        · repeat (first | refine ACode.seq ?_ | (refine ACode.s_reg tys_ok ?_; conv => whnf) | refine ACode.s_block ?_ | refine ACode.s_scope ?_ | (refine ACode.s_cond ?_; conv => whnf) | (refine ACode.s_exit ?_; conv => whnf) | (refine ACode.s_ret ?_; conv => whnf) | (refine ACode.s_skip ?_; conv => whnf) | (refine ACode.s_label ?_; conv => whnf))
          refine ⟨fun h2 => ?_, fun h2 => ?_⟩
          · have h2 : k < P.length := by have := of_decide_eq_true h2; omega
            have h3 : k < ls.length := by omega
            have hw2 : Wr .i64 ((k : Int) + 1) = ((k + 1 : Nat) : Int) := by rw [Wr64 _ (by omega) (by omega)]; rfl
            have hP1 := hpl P[k] (List.getElem_mem h2)
            have hl1 := hn200 ls[k] (List.getElem_mem h3)
            have hwq := hwk k h2 h3
            conv => whnf
            repeat (first | refine ACode.seq ?_ | (refine ACode.s_reg tys_ok ?_; conv => whnf) | refine ACode.s_block ?_ | refine ACode.s_scope ?_ | (refine ACode.s_cond ?_; conv => whnf) | (refine ACode.s_exit ?_; conv => whnf) | (refine ACode.s_ret ?_; conv => whnf) | (refine ACode.s_skip ?_; conv => whnf) | (refine ACode.s_label ?_; conv => whnf))
            refine ACode.draw [] tys_ok (by kernel_rfl) (by kernel_rfl) ?_
            conv => whnf
            refine ⟨by omega, _, strs_get P k h2, ?_⟩
            conv => whnf
            refine ⟨_, ⟨rupper_spec P[k] (by omega), rfl⟩, ?_⟩
            conv => whnf
            refine ⟨_, ⟨rwords_spec (upB P[k]) (by unfold upB; rw [List.length_map]; omega), rfl⟩, ?_⟩
            conv => whnf
            refine ⟨by omega, _, strs_get ls k h3, ?_⟩
            conv => whnf
            refine ⟨_, ⟨rupper_spec ls[k] (by omega), rfl⟩, ?_⟩
            conv => whnf
            refine ⟨_, ⟨rwords_spec (upB ls[k]) (by unfold upB; rw [List.length_map]; omega), rfl⟩, ?_⟩
            conv => whnf
            have hwc := wordsW_count (upB ls[k])
            have hul : (upB ls[k]).length = ls[k].length := List.length_map ..
            rw [hwq]
            refine ⟨_, ⟨strings_spec (wordsW (upB ls[k])) (wordsW (upB ls[k])) (by omega) (by omega), rfl⟩, ?_⟩
            conv => whnf
            refine ⟨fun h => ?_, fun h => by simp at h⟩
            conv => whnf
            repeat (first | refine ACode.seq ?_ | (refine ACode.s_reg tys_ok ?_; conv => whnf) | refine ACode.s_block ?_ | refine ACode.s_scope ?_ | (refine ACode.s_cond ?_; conv => whnf) | (refine ACode.s_exit ?_; conv => whnf) | (refine ACode.s_ret ?_; conv => whnf) | (refine ACode.s_skip ?_; conv => whnf) | (refine ACode.s_label ?_; conv => whnf))
            repeat' (first | (refine And.intro (fun _ => ?_) (fun _ => ?_) <;> conv => whnf) | refine ACode.seq ?_ | (refine ACode.s_reg tys_ok ?_; conv => whnf) | refine ACode.s_block ?_ | refine ACode.s_scope ?_ | (refine ACode.s_cond ?_; conv => whnf) | (refine ACode.s_exit ?_; conv => whnf) | (refine ACode.s_ret ?_; conv => whnf) | (refine ACode.s_skip ?_; conv => whnf) | (refine ACode.s_label ?_; conv => whnf))
            refine ⟨k + 1, ?_⟩
            conv => whnf
            repeat (refine And.intro ?_ ?_; (focus (first | rfl | (simp; done) | (first | exact hw2; done))); conv => whnf)
            exact ⟨by omega, by omega⟩
          · conv => whnf
            repeat (first | refine ACode.seq ?_ | (refine ACode.s_reg tys_ok ?_; conv => whnf) | refine ACode.s_block ?_ | refine ACode.s_scope ?_ | (refine ACode.s_cond ?_; conv => whnf) | (refine ACode.s_exit ?_; conv => whnf) | (refine ACode.s_ret ?_; conv => whnf) | (refine ACode.s_skip ?_; conv => whnf) | (refine ACode.s_label ?_; conv => whnf))
            refine ACode.loopD (fun k : Nat => mk 101 [(1, strsA ls), (2, .ptr 0 0), (4, .lit false), (5, .bool true), (6, .sl 5 (R.1.map Ad.v)), (8, .int .i64 i), (12, .int .i64 k)]) (fun k => [HO.cells [.str f.name, .sl 1 (f.lines.map ptsA)]] ++ List.replicate 11 HO.dead ++ List.replicate 18 HO.dead) (fun k => k ≤ i) (fun k => i - k) (fun _ _ => ⟨rfl, by (conv => whnf); exact ⟨rfl, trivial⟩⟩) ⟨0, ?_⟩ (fun _ => rfl) fun k hk => ?_
            · conv => whnf
              repeat (refine And.intro ?_ ?_; (focus (first | rfl | (simp; done))); conv => whnf)
              exact Nat.zero_le _
            · repeat (first | refine ACode.seq ?_ | (refine ACode.s_reg tys_ok ?_; conv => whnf) | refine ACode.s_block ?_ | refine ACode.s_scope ?_ | (refine ACode.s_cond ?_; conv => whnf) | (refine ACode.s_exit ?_; conv => whnf) | (refine ACode.s_ret ?_; conv => whnf) | (refine ACode.s_skip ?_; conv => whnf) | (refine ACode.s_label ?_; conv => whnf))
              refine ⟨fun h2 => ?_, fun h2 => ?_⟩
              · have h2 : k < i := by have := of_decide_eq_true h2; omega
                have hw2 : Wr .i64 ((k : Int) + 1) = ((k + 1 : Nat) : Int) := by rw [Wr64 _ (by omega) (by omega)]; rfl
                have hgk := ads_get R.1 k (by omega)
                have hnk := hne k h2
                conv => whnf
                repeat (first | refine ACode.seq ?_ | (refine ACode.s_reg tys_ok ?_; conv => whnf) | refine ACode.s_block ?_ | refine ACode.s_scope ?_ | (refine ACode.s_cond ?_; conv => whnf) | (refine ACode.s_exit ?_; conv => whnf) | (refine ACode.s_ret ?_; conv => whnf) | (refine ACode.s_skip ?_; conv => whnf) | (refine ACode.s_label ?_; conv => whnf))
                refine ACode.draw [] tys_ok (by kernel_rfl) (by kernel_rfl) ?_
                conv => whnf
                refine ⟨by omega, _, hgk, ?_⟩
                conv => whnf
                refine ⟨by omega, _, hgi, ?_⟩
                conv => whnf
                rw [ad_eq]
                refine ⟨fun h => absurd (of_decide_eq_true h) hnk, fun _ => ?_⟩
                conv => whnf
                repeat (first | refine ACode.seq ?_ | (refine ACode.s_reg tys_ok ?_; conv => whnf) | refine ACode.s_block ?_ | refine ACode.s_scope ?_ | (refine ACode.s_cond ?_; conv => whnf) | (refine ACode.s_exit ?_; conv => whnf) | (refine ACode.s_ret ?_; conv => whnf) | (refine ACode.s_skip ?_; conv => whnf) | (refine ACode.s_label ?_; conv => whnf))
                repeat' (first | (refine And.intro (fun _ => ?_) (fun _ => ?_) <;> conv => whnf) | refine ACode.seq ?_ | (refine ACode.s_reg tys_ok ?_; conv => whnf) | refine ACode.s_block ?_ | refine ACode.s_scope ?_ | (refine ACode.s_cond ?_; conv => whnf) | (refine ACode.s_exit ?_; conv => whnf) | (refine ACode.s_ret ?_; conv => whnf) | (refine ACode.s_skip ?_; conv => whnf) | (refine ACode.s_label ?_; conv => whnf))
                refine ⟨k + 1, ?_⟩
                conv => whnf
                repeat (refine And.intro ?_ ?_; (focus (first | rfl | (simp; done) | (first | exact hw2; done))); conv => whnf)
                exact ⟨by omega, by omega⟩
              · conv => whnf
                repeat (first | refine ACode.seq ?_ | (refine ACode.s_reg tys_ok ?_; conv => whnf) | refine ACode.s_block ?_ | refine ACode.s_scope ?_ | (refine ACode.s_cond ?_; conv => whnf) | (refine ACode.s_exit ?_; conv => whnf) | (refine ACode.s_ret ?_; conv => whnf) | (refine ACode.s_skip ?_; conv => whnf) | (refine ACode.s_label ?_; conv => whnf))
                refine ⟨i + 1, ?_⟩
                conv => whnf
                repeat (refine And.intro ?_ ?_; (focus (first | rfl | (simp; done) | (first | exact hw1; done))); conv => whnf)
                exact ⟨h, by omega⟩
      · conv => whnf
        repeat (first | refine ACode.seq ?_ | (refine ACode.s_reg tys_ok ?_; conv => whnf) | refine ACode.s_block ?_ | refine ACode.s_scope ?_ | (refine ACode.s_cond ?_; conv => whnf) | (refine ACode.s_exit ?_; conv => whnf) | (refine ACode.s_ret ?_; conv => whnf) | (refine ACode.s_skip ?_; conv => whnf) | (refine ACode.s_label ?_; conv => whnf))
end Go.Proofs.YtbodeejogdckgaaGreatDoor
