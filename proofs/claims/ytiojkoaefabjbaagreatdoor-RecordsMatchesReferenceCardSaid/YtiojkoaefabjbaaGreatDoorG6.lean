/-
  The reference: labels, scanners, complete records, Valid.
-/
import Derived.Test.YtiojkoaefabjbaaGreatDoorF8
set_option linter.unusedVariables false
set_option linter.unusedSimpArgs false
namespace Go.Proofs.YtiojkoaefabjbaaGreatDoor
open Go.Av Go.Shelf Pl Go.RowKit
def capB (n : Nat) : Bool := decide (65 ≤ n) && decide (n ≤ 90)
theorem Capital_spec (b : UInt8) : Ctr Tryz.prog 78 [.int .u8 b.toNat] (fun r => r = .bool (capB b.toNat)) := by
  refine Ctr.of_body Tryz.func78 rfl tys_ok (by kernel_rfl) ?_
  conv => whnf
  refine cd_sound tys_ok _ ?_
  conv => whnf
  repeat' (refine And.intro (fun _ => ?_) (fun _ => ?_) <;> conv => whnf)
  all_goals (refine congrArg AV.bool ?_; rw [Bool.eq_iff_iff]; simp_all [capB] <;> omega)
theorem otherB_cap (n : Nat) : otherB n = (!capB n && (decide (n < 48) || decide (57 < n)) && !decide (n = 46)) := by
  rw [Bool.eq_iff_iff]; simp [otherB, capB]
theorem all_step {α : Type} (p : α → Bool) (l : List α) (k : Nat) (h : k < l.length) : (l.drop k).all p = (p l[k] && (l.drop (k + 1)).all p) := by
  rw [List.drop_eq_getElem_cons h]; rfl
set_option maxRecDepth 10000 in
theorem rlabel_spec (s : List UInt8) (hs : s.length ≤ 9223372036854775807) : Ctr Tryz.prog 49 [.str s] (fun r => r = .bool (labelB s)) := by
  refine Ctr.of_body Tryz.func49 rfl tys_ok (by kernel_rfl) ?_
  conv => whnf
  refine cd_sound tys_ok _ ?_
  conv => whnf
  refine ACode.loopT (fun k : Nat => mk 41 [(0, .str s), (3, .int .i64 k)]) (fun _ => []) (fun k => k ≤ s.length ∧ (s.all fun b => !otherB b.toNat) = (s.drop k).all fun b => !otherB b.toNat) (fun k => s.length - k) ⟨0, ?_⟩ fun k hk => ?_
  · conv => whnf
    repeat (refine And.intro ?_ ?_; (focus (first | rfl | (simp; done))); conv => whnf)
    rfl
  · obtain ⟨hk, he⟩ := hk
    refine cd_sound tys_ok _ ?_
    conv => whnf
    refine ⟨fun hlt => ?_, fun hge => ?_⟩
    · have hlt : k < s.length := by simpa using hlt
      rw [all_step _ s k hlt] at he
      have hg : s.getD (k : Int).toNat 0 = s[k] := by simp [List.getD, hlt]
      conv => whnf
      refine ⟨⟨by omega, by omega⟩, ?_⟩
      conv => whnf
      rw [hg]
      refine ACall.of_spec (Capital_spec s[k]) rfl fun r hr => ?_
      subst hr
      conv => whnf
      have hc := otherB_cap s[k].toNat
      repeat' (first | refine And.intro ⟨by omega, by omega⟩ ?_ | refine And.intro (fun _ => ?_) (fun _ => ?_)) <;> conv => whnf
      all_goals first
        | (refine ⟨k + 1, ?_⟩
           conv => whnf
           repeat (refine And.intro ?_ ?_; (focus (first | rfl | (simp; done) | (rw [Wr64 _ (by omega) (by omega)]; omega; done))); conv => whnf)
           have hn : otherB s[k].toNat = false := by rw [hc]; simp_all <;> omega
           rw [hn] at he
           exact ⟨⟨by omega, he⟩, by omega⟩)
        | (have hn : otherB s[k].toNat = true := by rw [hc]; simp_all <;> omega
           rw [hn] at he
           simp [labelB, he]; done)
    · conv => whnf
      simp at hge
      rw [List.drop_eq_nil_of_le hge] at he
      have he : (s.all fun b => !otherB b.toNat) = true := he
      repeat' (refine And.intro (fun _ => ?_) (fun _ => ?_) <;> conv => whnf)
      all_goals (refine congrArg AV.bool ?_; rw [Bool.eq_iff_iff]; simp_all [labelB] <;> omega)
set_option maxRecDepth 100000 in
theorem rscanner_spec (s : Sn) : Ctr Tryz.prog 31 [s.v] (fun r => r = .bool (scannerB s)) := by
  refine Ctr.lits ?_
  refine Ctr.of_body Tryz.func31 rfl tys_ok (by kernel_rfl) ?_
  conv => whnf
  repeat (first | refine ACode.seq ?_ | (refine ACode.s_reg tys_ok ?_; conv => whnf) | refine ACode.s_block ?_ | refine ACode.s_scope ?_ | (refine ACode.s_cond ?_; conv => whnf) | (refine ACode.s_exit ?_; conv => whnf) | (refine ACode.s_ret ?_; conv => whnf) | (refine ACode.s_skip ?_; conv => whnf) | (refine ACode.s_label ?_; conv => whnf))
  repeat' (first | (refine And.intro (fun _ => ?_) (fun _ => ?_) <;> conv => whnf) | refine ACode.seq ?_ | (refine ACode.s_reg tys_ok ?_; conv => whnf) | refine ACode.s_block ?_ | refine ACode.s_scope ?_ | (refine ACode.s_cond ?_; conv => whnf) | (refine ACode.s_exit ?_; conv => whnf) | (refine ACode.s_ret ?_; conv => whnf) | (refine ACode.s_skip ?_; conv => whnf) | (refine ACode.s_label ?_; conv => whnf))
  all_goals first | exact .inr (congrArg AV.bool (by simp_all [scannerB] <;> intros <;> omega)) | exact .inl (congrArg AV.lit (by simp_all [scannerB] <;> intros <;> omega))
theorem dead_ok' (n : Nat) {F : List HO} : objsOK F (List.replicate n .dead) True := by
  induction n with
  | zero => trivial
  | succ n ih => exact ih
theorem one_ok {F : List HO} {ca : List AV} (h1 : withins F ca = true) (n : Nat) : objsOK F ([.cells ca] ++ List.replicate n .dead) True := ⟨h1, dead_ok' n⟩
theorem contains_iff (x : Bs) (l : List Bs) : l.contains x = true ↔ x ∈ l := List.contains_iff_mem
set_option maxRecDepth 100000 in
theorem rcomplete_spec (r : Rc) (hr : RcOK r) : Ctr Tryz.prog 30 [r.v] (fun x => x = .bool (completeB r)) := by
  refine Ctr.of_body Tryz.func30 rfl tys_ok (by kernel_rfl) ?_
  conv => whnf
  repeat (first | refine ACode.seq ?_ | (refine ACode.s_reg tys_ok ?_; conv => whnf) | refine ACode.s_block ?_ | refine ACode.s_scope ?_ | (refine ACode.s_cond ?_; conv => whnf) | (refine ACode.s_exit ?_; conv => whnf) | (refine ACode.s_ret ?_; conv => whnf) | (refine ACode.s_skip ?_; conv => whnf) | (refine ACode.s_label ?_; conv => whnf))
  repeat' (first | (refine And.intro (fun _ => ?_) (fun _ => ?_) <;> conv => whnf) | (refine ACall.of_spec (rlabel_spec r.la hr.la) rfl fun r hr => ?_; subst hr; conv => whnf) | refine ACode.seq ?_ | (refine ACode.s_reg tys_ok ?_; conv => whnf) | refine ACode.s_block ?_ | refine ACode.s_scope ?_ | (refine ACode.s_cond ?_; conv => whnf) | (refine ACode.s_exit ?_; conv => whnf) | (refine ACode.s_ret ?_; conv => whnf) | (refine ACode.s_skip ?_; conv => whnf) | (refine ACode.s_label ?_; conv => whnf))
  all_goals (try (exact congrArg AV.bool (by simp_all [completeB, strs_len] <;> intros <;> omega)))
  rename_i h1 h2 h3 h4 h5 h6 h7 h8 h9 h10
  have hki : r.ki = 2 := by simpa using h9
  have hcl : r.co.length ≤ 40 := by simp [strs_len] at h10; omega
  have hcb : completeB r = freshB [r.la] r.co := by
    simp at h1 h2 h3 h4 h5 h6 h7
    unfold completeB
    rw [hki]
    simp [h1, h2, h3, h4, h5, h6, h7, hcl]
  rw [hcb]
  refine ACode.loopD (fun k : Nat => mk 95 [(1, .ptr 0 0), (2, .lit false), (3, .int .i64 k)]) (fun _ => [.cells [.int .i64 r.sc, .int .i64 r.nu, .int .i64 r.ki, .int .i64 r.ti, .str r.la, .sl 1 (strs r.co)]])
    (fun k => k ≤ r.co.length ∧ freshB [r.la] r.co = freshB ([r.la] ++ r.co.take k) (r.co.drop k)) (fun k => r.co.length - k) (fun _ _ => ⟨rfl, rfl, trivial⟩) ⟨0, ?_⟩ (fun _ => rfl) fun k hk => ?_
  · conv => whnf
    repeat (refine And.intro ?_ ?_; (focus (first | rfl | (simp; done))); conv => whnf)
    simp
  · obtain ⟨hk, hp⟩ := hk
    repeat (first | refine ACode.seq ?_ | (refine ACode.s_reg tys_ok ?_; conv => whnf) | refine ACode.s_block ?_ | refine ACode.s_scope ?_ | (refine ACode.s_cond ?_; conv => whnf) | (refine ACode.s_exit ?_; conv => whnf) | (refine ACode.s_ret ?_; conv => whnf) | (refine ACode.s_skip ?_; conv => whnf) | (refine ACode.s_label ?_; conv => whnf))
    rw [strs_len]
    refine ⟨fun h => ?_, fun h => ?_⟩
    · have h : k < r.co.length := by simpa using h
      rw [List.drop_eq_getElem_cons h, freshB_cons] at hp
      conv => whnf
      repeat (first | refine ACode.seq ?_ | (refine ACode.s_reg tys_ok ?_; conv => whnf) | refine ACode.s_block ?_ | refine ACode.s_scope ?_ | (refine ACode.s_cond ?_; conv => whnf) | (refine ACode.s_exit ?_; conv => whnf) | (refine ACode.s_ret ?_; conv => whnf) | (refine ACode.s_skip ?_; conv => whnf) | (refine ACode.s_label ?_; conv => whnf))
      refine ACode.draw [] tys_ok (by kernel_rfl) (by kernel_rfl) ?_
      conv => whnf
      refine ⟨by omega, _, strs_get r.co k h, ?_⟩
      conv => whnf
      refine ⟨_, ⟨rlabel_spec r.co[k] (hr.cx _ (List.getElem_mem h)), rfl⟩, ?_⟩
      conv => whnf
      refine ⟨fun h11 => ?_, fun h11 => ?_⟩
      · conv => whnf
        refine ⟨by omega, _, strs_get r.co k h, ?_⟩
        conv => whnf
        refine ⟨fun h12 => ?_, fun h12 => ?_⟩
        · have h12 : r.co[k] = r.la := by simpa using h12
          conv => whnf
          repeat (first | refine ACode.seq ?_ | (refine ACode.s_reg tys_ok ?_; conv => whnf) | refine ACode.s_block ?_ | refine ACode.s_scope ?_ | (refine ACode.s_cond ?_; conv => whnf) | (refine ACode.s_exit ?_; conv => whnf) | (refine ACode.s_ret ?_; conv => whnf) | (refine ACode.s_skip ?_; conv => whnf) | (refine ACode.s_label ?_; conv => whnf))
          refine congrArg AV.bool ?_
          rw [hp, h12]
          simp
        · have h12 : r.co[k] ≠ r.la := by simpa using h12
          conv => whnf
          repeat (first | refine ACode.seq ?_ | (refine ACode.s_reg tys_ok ?_; conv => whnf) | refine ACode.s_block ?_ | refine ACode.s_scope ?_ | (refine ACode.s_cond ?_; conv => whnf) | (refine ACode.s_exit ?_; conv => whnf) | (refine ACode.s_ret ?_; conv => whnf) | (refine ACode.s_skip ?_; conv => whnf) | (refine ACode.s_label ?_; conv => whnf))
          refine ACode.loopD (fun j : Nat => mk 95 [(1, .ptr 0 0), (2, .lit false), (3, .int .i64 k), (4, .int .i64 j)]) (fun _ => [.cells [.int .i64 r.sc, .int .i64 r.nu, .int .i64 r.ki, .int .i64 r.ti, .str r.la, .sl 1 (strs r.co)]] ++ List.replicate 17 .dead)
            (fun j => j ≤ k ∧ r.co[k] ∉ r.co.take j) (fun j => k - j) (fun _ _ => ⟨rfl, one_ok rfl 17⟩) ⟨0, ?_⟩ (fun _ => rfl) fun j hj => ?_
          · conv => whnf
            repeat (refine And.intro ?_ ?_; (focus (first | rfl | (simp; done))); conv => whnf)
            simp
          · obtain ⟨hj, hn⟩ := hj
            repeat (first | refine ACode.seq ?_ | (refine ACode.s_reg tys_ok ?_; conv => whnf) | refine ACode.s_block ?_ | refine ACode.s_scope ?_ | (refine ACode.s_cond ?_; conv => whnf) | (refine ACode.s_exit ?_; conv => whnf) | (refine ACode.s_ret ?_; conv => whnf) | (refine ACode.s_skip ?_; conv => whnf) | (refine ACode.s_label ?_; conv => whnf))
            refine ⟨fun h13 => ?_, fun h13 => ?_⟩
            · have h13 : j < k := by simpa using h13
              conv => whnf
              repeat (first | refine ACode.seq ?_ | (refine ACode.s_reg tys_ok ?_; conv => whnf) | refine ACode.s_block ?_ | refine ACode.s_scope ?_ | (refine ACode.s_cond ?_; conv => whnf) | (refine ACode.s_exit ?_; conv => whnf) | (refine ACode.s_ret ?_; conv => whnf) | (refine ACode.s_skip ?_; conv => whnf) | (refine ACode.s_label ?_; conv => whnf))
              refine ACode.draw [] tys_ok (by kernel_rfl) (by kernel_rfl) ?_
              conv => whnf
              refine ⟨by omega, _, strs_get r.co j (by omega), ?_⟩
              conv => whnf
              refine ⟨by omega, _, strs_get r.co k h, ?_⟩
              conv => whnf
              repeat (first | refine ACode.seq ?_ | (refine ACode.s_reg tys_ok ?_; conv => whnf) | refine ACode.s_block ?_ | refine ACode.s_scope ?_ | (refine ACode.s_cond ?_; conv => whnf) | (refine ACode.s_exit ?_; conv => whnf) | (refine ACode.s_ret ?_; conv => whnf) | (refine ACode.s_skip ?_; conv => whnf) | (refine ACode.s_label ?_; conv => whnf))
              refine ⟨fun h14 => ?_, fun h14 => ?_⟩
              · have h14 : r.co[j] = r.co[k] := by simpa using h14
                conv => whnf
                repeat (first | refine ACode.seq ?_ | (refine ACode.s_reg tys_ok ?_; conv => whnf) | refine ACode.s_block ?_ | refine ACode.s_scope ?_ | (refine ACode.s_cond ?_; conv => whnf) | (refine ACode.s_exit ?_; conv => whnf) | (refine ACode.s_ret ?_; conv => whnf) | (refine ACode.s_skip ?_; conv => whnf) | (refine ACode.s_label ?_; conv => whnf))
                refine congrArg AV.bool ?_
                have hm : ([r.la] ++ r.co.take k).contains r.co[k] = true := by
                  rw [contains_iff, ← h14]
                  exact List.mem_append_right _ (List.mem_iff_getElem.2 ⟨j, by simp; omega, by simp⟩)
                rw [hp, hm]
                simp
              · have h14 : r.co[j] ≠ r.co[k] := by simpa using h14
                conv => whnf
                repeat (first | refine ACode.seq ?_ | (refine ACode.s_reg tys_ok ?_; conv => whnf) | refine ACode.s_block ?_ | refine ACode.s_scope ?_ | (refine ACode.s_cond ?_; conv => whnf) | (refine ACode.s_exit ?_; conv => whnf) | (refine ACode.s_ret ?_; conv => whnf) | (refine ACode.s_skip ?_; conv => whnf) | (refine ACode.s_label ?_; conv => whnf))
                refine ⟨j + 1, ?_⟩
                conv => whnf
                repeat (refine And.intro ?_ ?_; (focus (first | rfl | (simp; done) | (first | (rw [Wr64 _ (by omega) (by omega)]; done) | (rw [Wr64 _ (by omega) (by omega)]; rfl); done))); conv => whnf)
                refine ⟨⟨by omega, ?_⟩, by omega⟩
                rw [List.take_succ_eq_append_getElem (by omega)]
                simp only [List.mem_append, List.mem_singleton, not_or]
                exact ⟨hn, Ne.symm h14⟩
            · have h13 : j = k := by simp at h13; omega
              subst h13
              conv => whnf
              repeat (first | refine ACode.seq ?_ | (refine ACode.s_reg tys_ok ?_; conv => whnf) | refine ACode.s_block ?_ | refine ACode.s_scope ?_ | (refine ACode.s_cond ?_; conv => whnf) | (refine ACode.s_exit ?_; conv => whnf) | (refine ACode.s_ret ?_; conv => whnf) | (refine ACode.s_skip ?_; conv => whnf) | (refine ACode.s_label ?_; conv => whnf))
              refine ⟨j + 1, ?_⟩
              conv => whnf
              repeat (refine And.intro ?_ ?_; (focus (first | rfl | (simp; done) | (first | (rw [Wr64 _ (by omega) (by omega)]; done) | (rw [Wr64 _ (by omega) (by omega)]; rfl); done))); conv => whnf)
              have hm : ([r.la] ++ r.co.take j).contains r.co[j] = false := by
                cases hc : ([r.la] ++ r.co.take j).contains r.co[j] with
                | false => rfl
                | true =>
                  rw [contains_iff] at hc
                  rcases List.mem_append.1 hc with hc | hc
                  · exact absurd (List.mem_singleton.1 hc) h12
                  · exact absurd hc hn
              refine ⟨⟨by omega, ?_⟩, by omega⟩
              rw [hp, hm, h11, List.take_succ_eq_append_getElem h, List.append_assoc]
              rfl
      · conv => whnf
        repeat (first | refine ACode.seq ?_ | (refine ACode.s_reg tys_ok ?_; conv => whnf) | refine ACode.s_block ?_ | refine ACode.s_scope ?_ | (refine ACode.s_cond ?_; conv => whnf) | (refine ACode.s_exit ?_; conv => whnf) | (refine ACode.s_ret ?_; conv => whnf) | (refine ACode.s_skip ?_; conv => whnf) | (refine ACode.s_label ?_; conv => whnf))
        refine congrArg AV.bool ?_
        rw [hp, h11]
        rfl
    · have h : k = r.co.length := by simp at h; omega
      conv => whnf
      repeat (first | refine ACode.seq ?_ | (refine ACode.s_reg tys_ok ?_; conv => whnf) | refine ACode.s_block ?_ | refine ACode.s_scope ?_ | (refine ACode.s_cond ?_; conv => whnf) | (refine ACode.s_exit ?_; conv => whnf) | (refine ACode.s_ret ?_; conv => whnf) | (refine ACode.s_skip ?_; conv => whnf) | (refine ACode.s_label ?_; conv => whnf))
      refine congrArg AV.bool ?_
      rw [hp, h, List.drop_length]
      rfl
end Go.Proofs.YtiojkoaefabjbaaGreatDoor
