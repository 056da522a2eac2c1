/-
  The reference: Parse.
-/
import Derived.Test.YtiojkoaefabjbaaGreatDoorG8
set_option linter.unusedVariables false
set_option linter.unusedSimpArgs false
namespace Go.Proofs.YtiojkoaefabjbaaGreatDoor
open Go.Av Go.Shelf Pl Go.RowKit
set_option maxRecDepth 100000 in
theorem rparse_spec (text : Bs) (hl : text.length ≤ 1500) : Ctr Tryz.prog 12 [.str text] (ParseR text) := by
  refine Ctr.of_body Tryz.func12 rfl tys_ok (by kernel_rfl) ?_
  conv => whnf
  repeat (first | refine ACode.seq ?_ | (refine ACode.s_reg tys_ok ?_; conv => whnf) | refine ACode.s_block ?_ | refine ACode.s_scope ?_ | (refine ACode.s_cond ?_; conv => whnf) | (refine ACode.s_exit ?_; conv => whnf) | (refine ACode.s_ret ?_; conv => whnf) | (refine ACode.s_skip ?_; conv => whnf) | (refine ACode.s_label ?_; conv => whnf))
  refine ACall.of_spec (rsplit_spec text (by omega)) rfl fun r hr => ?_
  subst hr
  conv => whnf
  repeat (first | refine ACode.seq ?_ | (refine ACode.s_reg tys_ok ?_; conv => whnf) | refine ACode.s_block ?_ | refine ACode.s_scope ?_ | (refine ACode.s_cond ?_; conv => whnf) | (refine ACode.s_exit ?_; conv => whnf) | (refine ACode.s_ret ?_; conv => whnf) | (refine ACode.s_skip ?_; conv => whnf) | (refine ACode.s_label ?_; conv => whnf))
  have hpw := @parse_words text
  have hct := @cand_text text
  have hwl : ∀ w ∈ splitB text, w.length ≤ 100000 := fun w hw => by have := splitB_mem text w hw; omega
  have hwn : (splitB text).length ≤ 1501 := by have := splitB_len text; have := (List.count_le_length : List.count 32 text ≤ text.length); omega
  generalize splitB text = ws at *
  refine ⟨fun h => ?_, fun h => ?_⟩
  · have h : ws.length < 5 := by simp [strs_len] at h; omega
    conv => whnf
    repeat (first | refine ACode.seq ?_ | (refine ACode.s_reg tys_ok ?_; conv => whnf) | refine ACode.s_block ?_ | refine ACode.s_scope ?_ | (refine ACode.s_cond ?_; conv => whnf) | (refine ACode.s_exit ?_; conv => whnf) | (refine ACode.s_ret ?_; conv => whnf) | (refine ACode.s_skip ?_; conv => whnf) | (refine ACode.s_label ?_; conv => whnf))
    refine ⟨1, ?_⟩
    conv => whnf
    exact .inr ⟨fun r h3 h4 => by have := hpw h3 h4; rw [this] at h; simp [wordsR] at h; omega, rfl⟩
  · have h : 5 ≤ ws.length := by simp [strs_len] at h; omega
    conv => whnf
    repeat (first | refine ACode.seq ?_ | (refine ACode.s_reg tys_ok ?_; conv => whnf) | refine ACode.s_block ?_ | refine ACode.s_scope ?_ | (refine ACode.s_cond ?_; conv => whnf) | (refine ACode.s_exit ?_; conv => whnf) | (refine ACode.s_ret ?_; conv => whnf) | (refine ACode.s_skip ?_; conv => whnf) | (refine ACode.s_label ?_; conv => whnf))
    refine ACode.draw [19] tys_ok (by kernel_rfl) (by kernel_rfl) ?_
    conv => whnf
    refine ⟨by decide, .str ws[1], strs_at ws 1 (by omega), ?_⟩
    conv => whnf
    refine ⟨_, ⟨number_spec ws[1] (hwl _ (List.getElem_mem _)), rfl⟩, ?_⟩
    conv => whnf
    refine ⟨by decide, .str ws[2], strs_at ws 2 (by omega), ?_⟩
    conv => whnf
    refine ⟨_, ⟨number_spec ws[2] (hwl _ (List.getElem_mem _)), rfl⟩, ?_⟩
    conv => whnf
    refine ⟨by decide, .str ws[3], strs_at ws 3 (by omega), ?_⟩
    conv => whnf
    refine ⟨_, ⟨number_spec ws[3] (hwl _ (List.getElem_mem _)), rfl⟩, ?_⟩
    conv => whnf
    refine ⟨by decide, .str ws[4], strs_at ws 4 (by omega), ?_⟩
    conv => whnf
    refine ⟨by rw [strs_len]; omega, ?_⟩
    rw [show List.drop (Int.toNat 5) (List.take (((strs ws).length : Nat) : Int).toNat (strs ws)) = strs (ws.drop 5) by rw [Int.toNat_natCast, List.take_length]; simp [strs]]
    conv => whnf
    repeat (first | refine ACode.seq ?_ | (refine ACode.s_reg tys_ok ?_; conv => whnf) | refine ACode.s_block ?_ | refine ACode.s_scope ?_ | (refine ACode.s_cond ?_; conv => whnf) | (refine ACode.s_exit ?_; conv => whnf) | (refine ACode.s_ret ?_; conv => whnf) | (refine ACode.s_skip ?_; conv => whnf) | (refine ACode.s_label ?_; conv => whnf))
    refine ⟨by decide, .str ws[0], strs_at ws 0 (by omega), ?_⟩
    conv => whnf
    repeat (first | refine ACode.seq ?_ | (refine ACode.s_reg tys_ok ?_; conv => whnf) | refine ACode.s_block ?_ | refine ACode.s_scope ?_ | (refine ACode.s_cond ?_; conv => whnf) | (refine ACode.s_exit ?_; conv => whnf) | (refine ACode.s_ret ?_; conv => whnf) | (refine ACode.s_skip ?_; conv => whnf) | (refine ACode.s_label ?_; conv => whnf))
    have hct := hct h
    refine ⟨fun h3 => ?_, fun h3 => ?_⟩
    · have h3 : ws[0] = [115, 99, 97, 110] := by simpa using h3
      conv => whnf
      repeat (first | refine ACode.seq ?_ | (refine ACode.s_reg tys_ok ?_; conv => whnf) | refine ACode.s_block ?_ | refine ACode.s_scope ?_ | (refine ACode.s_cond ?_; conv => whnf) | (refine ACode.s_exit ?_; conv => whnf) | (refine ACode.s_ret ?_; conv => whnf) | (refine ACode.s_skip ?_; conv => whnf) | (refine ACode.s_label ?_; conv => whnf))
      refine ⟨by decide, .str ws[0], strs_at ws 0 (by omega), ?_⟩
      conv => whnf
      repeat (first | refine ACode.seq ?_ | (refine ACode.s_reg tys_ok ?_; conv => whnf) | refine ACode.s_block ?_ | refine ACode.s_scope ?_ | (refine ACode.s_cond ?_; conv => whnf) | (refine ACode.s_exit ?_; conv => whnf) | (refine ACode.s_ret ?_; conv => whnf) | (refine ACode.s_skip ?_; conv => whnf) | (refine ACode.s_label ?_; conv => whnf))
      refine ⟨fun h4 => ?_, fun h4 => ?_⟩
      · exfalso
        have h4 : ws[0] = [109, 97, 110, 105, 102, 101, 115, 116] := by simpa using h4
        rw [h3] at h4
        exact absurd h4 (by decide)
      · skip
        have hcand : candR ws h = ⟨numR ws[1], numR ws[2], 1, numR ws[3], ws[4], ws.drop 5⟩ := by unfold candR kindW; simp only [h3]; try simp
        rw [hcand] at hct
        have hcc : ∀ r, completeB r = true → textR r = text → r = ⟨numR ws[1], numR ws[2], 1, numR ws[3], ws[4], ws.drop 5⟩ := fun r h6 h7 => by rw [← hcand]; exact (cand_of h6 ws (hpw h6 h7) h).symm
        have hok : RcOK ⟨numR ws[1], numR ws[2], 1, numR ws[3], ws[4], ws.drop 5⟩ := ⟨by have := hwl _ (List.getElem_mem (show 4 < ws.length by omega)); simp only; omega, by simp; omega, fun x hx => by have := hwl x (List.mem_of_mem_drop hx); omega⟩
        conv => whnf
        repeat (first | refine ACode.seq ?_ | (refine ACode.s_reg tys_ok ?_; conv => whnf) | refine ACode.s_block ?_ | refine ACode.s_scope ?_ | (refine ACode.s_cond ?_; conv => whnf) | (refine ACode.s_exit ?_; conv => whnf) | (refine ACode.s_ret ?_; conv => whnf) | (refine ACode.s_skip ?_; conv => whnf) | (refine ACode.s_label ?_; conv => whnf))
        refine ACall.of_spec (rcomplete_spec ⟨numR ws[1], numR ws[2], 1, numR ws[3], ws[4], ws.drop 5⟩ hok) rfl fun r hr => ?_
        subst hr
        conv => whnf
        repeat (first | refine ACode.seq ?_ | (refine ACode.s_reg tys_ok ?_; conv => whnf) | refine ACode.s_block ?_ | refine ACode.s_scope ?_ | (refine ACode.s_cond ?_; conv => whnf) | (refine ACode.s_exit ?_; conv => whnf) | (refine ACode.s_ret ?_; conv => whnf) | (refine ACode.s_skip ?_; conv => whnf) | (refine ACode.s_label ?_; conv => whnf))
        refine ⟨fun h6 => ?_, fun h6 => ?_⟩
        · have h6 : completeB ⟨numR ws[1], numR ws[2], 1, numR ws[3], ws[4], ws.drop 5⟩ = false := by simpa using h6
          conv => whnf
          repeat (first | refine ACode.seq ?_ | (refine ACode.s_reg tys_ok ?_; conv => whnf) | refine ACode.s_block ?_ | refine ACode.s_scope ?_ | (refine ACode.s_cond ?_; conv => whnf) | (refine ACode.s_exit ?_; conv => whnf) | (refine ACode.s_ret ?_; conv => whnf) | (refine ACode.s_skip ?_; conv => whnf) | (refine ACode.s_label ?_; conv => whnf))
          refine ⟨1, ?_⟩
          conv => whnf
          refine .inr ⟨fun r h8 h9 => ?_, rfl⟩
          have := hcc r h8 h9
          subst this
          rw [h6] at h8
          cases h8
        · have h6 : completeB ⟨numR ws[1], numR ws[2], 1, numR ws[3], ws[4], ws.drop 5⟩ = true := by simpa using h6
          conv => whnf
          repeat (first | refine ACode.seq ?_ | (refine ACode.s_reg tys_ok ?_; conv => whnf) | refine ACode.s_block ?_ | refine ACode.s_scope ?_ | (refine ACode.s_cond ?_; conv => whnf) | (refine ACode.s_exit ?_; conv => whnf) | (refine ACode.s_ret ?_; conv => whnf) | (refine ACode.s_skip ?_; conv => whnf) | (refine ACode.s_label ?_; conv => whnf))
          exact .inl ⟨_, h6, hct h6, rfl⟩
    · have h3 : ws[0] ≠ [115, 99, 97, 110] := by simpa using h3
      conv => whnf
      repeat (first | refine ACode.seq ?_ | (refine ACode.s_reg tys_ok ?_; conv => whnf) | refine ACode.s_block ?_ | refine ACode.s_scope ?_ | (refine ACode.s_cond ?_; conv => whnf) | (refine ACode.s_exit ?_; conv => whnf) | (refine ACode.s_ret ?_; conv => whnf) | (refine ACode.s_skip ?_; conv => whnf) | (refine ACode.s_label ?_; conv => whnf))
      refine ⟨by decide, .str ws[0], strs_at ws 0 (by omega), ?_⟩
      conv => whnf
      repeat (first | refine ACode.seq ?_ | (refine ACode.s_reg tys_ok ?_; conv => whnf) | refine ACode.s_block ?_ | refine ACode.s_scope ?_ | (refine ACode.s_cond ?_; conv => whnf) | (refine ACode.s_exit ?_; conv => whnf) | (refine ACode.s_ret ?_; conv => whnf) | (refine ACode.s_skip ?_; conv => whnf) | (refine ACode.s_label ?_; conv => whnf))
      refine ⟨fun h4 => ?_, fun h4 => ?_⟩
      · have h4 : ws[0] = [109, 97, 110, 105, 102, 101, 115, 116] := by simpa using h4
        have hcand : candR ws h = ⟨numR ws[1], numR ws[2], 2, numR ws[3], ws[4], ws.drop 5⟩ := by unfold candR kindW; simp only [h4]; try simp
        rw [hcand] at hct
        have hcc : ∀ r, completeB r = true → textR r = text → r = ⟨numR ws[1], numR ws[2], 2, numR ws[3], ws[4], ws.drop 5⟩ := fun r h6 h7 => by rw [← hcand]; exact (cand_of h6 ws (hpw h6 h7) h).symm
        have hok : RcOK ⟨numR ws[1], numR ws[2], 2, numR ws[3], ws[4], ws.drop 5⟩ := ⟨by have := hwl _ (List.getElem_mem (show 4 < ws.length by omega)); simp only; omega, by simp; omega, fun x hx => by have := hwl x (List.mem_of_mem_drop hx); omega⟩
        conv => whnf
        repeat (first | refine ACode.seq ?_ | (refine ACode.s_reg tys_ok ?_; conv => whnf) | refine ACode.s_block ?_ | refine ACode.s_scope ?_ | (refine ACode.s_cond ?_; conv => whnf) | (refine ACode.s_exit ?_; conv => whnf) | (refine ACode.s_ret ?_; conv => whnf) | (refine ACode.s_skip ?_; conv => whnf) | (refine ACode.s_label ?_; conv => whnf))
        refine ACall.of_spec (rcomplete_spec ⟨numR ws[1], numR ws[2], 2, numR ws[3], ws[4], ws.drop 5⟩ hok) rfl fun r hr => ?_
        subst hr
        conv => whnf
        repeat (first | refine ACode.seq ?_ | (refine ACode.s_reg tys_ok ?_; conv => whnf) | refine ACode.s_block ?_ | refine ACode.s_scope ?_ | (refine ACode.s_cond ?_; conv => whnf) | (refine ACode.s_exit ?_; conv => whnf) | (refine ACode.s_ret ?_; conv => whnf) | (refine ACode.s_skip ?_; conv => whnf) | (refine ACode.s_label ?_; conv => whnf))
        refine ⟨fun h6 => ?_, fun h6 => ?_⟩
        · have h6 : completeB ⟨numR ws[1], numR ws[2], 2, numR ws[3], ws[4], ws.drop 5⟩ = false := by simpa using h6
          conv => whnf
          repeat (first | refine ACode.seq ?_ | (refine ACode.s_reg tys_ok ?_; conv => whnf) | refine ACode.s_block ?_ | refine ACode.s_scope ?_ | (refine ACode.s_cond ?_; conv => whnf) | (refine ACode.s_exit ?_; conv => whnf) | (refine ACode.s_ret ?_; conv => whnf) | (refine ACode.s_skip ?_; conv => whnf) | (refine ACode.s_label ?_; conv => whnf))
          refine ⟨1, ?_⟩
          conv => whnf
          refine .inr ⟨fun r h8 h9 => ?_, rfl⟩
          have := hcc r h8 h9
          subst this
          rw [h6] at h8
          cases h8
        · have h6 : completeB ⟨numR ws[1], numR ws[2], 2, numR ws[3], ws[4], ws.drop 5⟩ = true := by simpa using h6
          conv => whnf
          repeat (first | refine ACode.seq ?_ | (refine ACode.s_reg tys_ok ?_; conv => whnf) | refine ACode.s_block ?_ | refine ACode.s_scope ?_ | (refine ACode.s_cond ?_; conv => whnf) | (refine ACode.s_exit ?_; conv => whnf) | (refine ACode.s_ret ?_; conv => whnf) | (refine ACode.s_skip ?_; conv => whnf) | (refine ACode.s_label ?_; conv => whnf))
          exact .inl ⟨_, h6, hct h6, rfl⟩
      · have h4 : ws[0] ≠ [109, 97, 110, 105, 102, 101, 115, 116] := by simpa using h4
        have hcand : candR ws h = ⟨numR ws[1], numR ws[2], 0, numR ws[3], ws[4], ws.drop 5⟩ := by unfold candR kindW; simp only [if_neg h3, if_neg h4]; try simp
        rw [hcand] at hct
        have hcc : ∀ r, completeB r = true → textR r = text → r = ⟨numR ws[1], numR ws[2], 0, numR ws[3], ws[4], ws.drop 5⟩ := fun r h6 h7 => by rw [← hcand]; exact (cand_of h6 ws (hpw h6 h7) h).symm
        have hok : RcOK ⟨numR ws[1], numR ws[2], 0, numR ws[3], ws[4], ws.drop 5⟩ := ⟨by have := hwl _ (List.getElem_mem (show 4 < ws.length by omega)); simp only; omega, by simp; omega, fun x hx => by have := hwl x (List.mem_of_mem_drop hx); omega⟩
        conv => whnf
        repeat (first | refine ACode.seq ?_ | (refine ACode.s_reg tys_ok ?_; conv => whnf) | refine ACode.s_block ?_ | refine ACode.s_scope ?_ | (refine ACode.s_cond ?_; conv => whnf) | (refine ACode.s_exit ?_; conv => whnf) | (refine ACode.s_ret ?_; conv => whnf) | (refine ACode.s_skip ?_; conv => whnf) | (refine ACode.s_label ?_; conv => whnf))
        refine ACall.of_spec (rcomplete_spec ⟨numR ws[1], numR ws[2], 0, numR ws[3], ws[4], ws.drop 5⟩ hok) rfl fun r hr => ?_
        subst hr
        conv => whnf
        repeat (first | refine ACode.seq ?_ | (refine ACode.s_reg tys_ok ?_; conv => whnf) | refine ACode.s_block ?_ | refine ACode.s_scope ?_ | (refine ACode.s_cond ?_; conv => whnf) | (refine ACode.s_exit ?_; conv => whnf) | (refine ACode.s_ret ?_; conv => whnf) | (refine ACode.s_skip ?_; conv => whnf) | (refine ACode.s_label ?_; conv => whnf))
        refine ⟨fun h6 => ?_, fun h6 => ?_⟩
        · have h6 : completeB ⟨numR ws[1], numR ws[2], 0, numR ws[3], ws[4], ws.drop 5⟩ = false := by simpa using h6
          conv => whnf
          repeat (first | refine ACode.seq ?_ | (refine ACode.s_reg tys_ok ?_; conv => whnf) | refine ACode.s_block ?_ | refine ACode.s_scope ?_ | (refine ACode.s_cond ?_; conv => whnf) | (refine ACode.s_exit ?_; conv => whnf) | (refine ACode.s_ret ?_; conv => whnf) | (refine ACode.s_skip ?_; conv => whnf) | (refine ACode.s_label ?_; conv => whnf))
          refine ⟨1, ?_⟩
          conv => whnf
          refine .inr ⟨fun r h8 h9 => ?_, rfl⟩
          have := hcc r h8 h9
          subst this
          rw [h6] at h8
          cases h8
        · have h6 : completeB ⟨numR ws[1], numR ws[2], 0, numR ws[3], ws[4], ws.drop 5⟩ = true := by simpa using h6
          conv => whnf
          repeat (first | refine ACode.seq ?_ | (refine ACode.s_reg tys_ok ?_; conv => whnf) | refine ACode.s_block ?_ | refine ACode.s_scope ?_ | (refine ACode.s_cond ?_; conv => whnf) | (refine ACode.s_exit ?_; conv => whnf) | (refine ACode.s_ret ?_; conv => whnf) | (refine ACode.s_skip ?_; conv => whnf) | (refine ACode.s_label ?_; conv => whnf))
          exact .inl ⟨_, h6, hct h6, rfl⟩
end Go.Proofs.YtiojkoaefabjbaaGreatDoor
