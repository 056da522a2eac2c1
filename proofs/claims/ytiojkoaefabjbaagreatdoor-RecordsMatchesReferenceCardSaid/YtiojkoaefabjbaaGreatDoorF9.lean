/-
  records.Parse.
-/
import Derived.Test.YtiojkoaefabjbaaGreatDoorF8
import Derived.Test.YtiojkoaefabjbaaGreatDoorF4
set_option linter.unusedVariables false
set_option linter.unusedSimpArgs false
namespace Go.Proofs.YtiojkoaefabjbaaGreatDoor
open Go.Av Go.Shelf Pl Go.RowKit
def zeroR : Rc := ⟨0, 0, 0, 0, [], []⟩
/-- What Parse hands back. -/
def ParseR (text : Bs) (x : AV) : Prop :=
  (∃ r, completeB r = true ∧ textR r = text ∧ x = .tuple [r.v, .int .i64 0]) ∨ ((∀ r, completeB r = true → textR r ≠ text) ∧ x = .tuple [zeroR.v, .int .i64 1])
theorem parse_words {text : Bs} {r : Rc} (h : completeB r = true) (ht : textR r = text) : splitB text = wordsR r := by rw [← ht]; exact split_text h
theorem parse_long {text : Bs} {r : Rc} (h : completeB r = true) (ht : textR r = text) : text.length ≤ 945 := by
  rw [← ht]
  unfold textR
  rw [if_pos h]
  exact text_len (complete_facts h)
theorem strs_at (l : List Bs) (i : Nat) (h : i < l.length) : (strs l)[i]? = some (.str l[i]) := strs_get l i h
set_option maxRecDepth 100000 in
theorem parse_spec (text : Bs) (hl : text.length ≤ 9223372036854775807) : Ctr Tryz.prog 11 [.str text] (ParseR text) := by
  refine Ctr.of_body Tryz.func11 rfl tys_ok (by kernel_rfl) ?_
  conv => whnf
  repeat (first | refine ACode.seq ?_ | (refine ACode.s_reg tys_ok ?_; conv => whnf) | refine ACode.s_block ?_ | refine ACode.s_scope ?_ | (refine ACode.s_cond ?_; conv => whnf) | (refine ACode.s_exit ?_; conv => whnf) | (refine ACode.s_ret ?_; conv => whnf) | (refine ACode.s_skip ?_; conv => whnf) | (refine ACode.s_label ?_; conv => whnf))
  refine ⟨fun h => ?_, fun h => ?_⟩
  · have h : 1000 < text.length := by simp at h; omega
    conv => whnf
    repeat (first | refine ACode.seq ?_ | (refine ACode.s_reg tys_ok ?_; conv => whnf) | refine ACode.s_block ?_ | refine ACode.s_scope ?_ | (refine ACode.s_cond ?_; conv => whnf) | (refine ACode.s_exit ?_; conv => whnf) | (refine ACode.s_ret ?_; conv => whnf) | (refine ACode.s_skip ?_; conv => whnf) | (refine ACode.s_label ?_; conv => whnf))
    refine ⟨1, ?_⟩
    conv => whnf
    exact .inr ⟨fun r h1 h2 => by have := parse_long h1 h2; omega, rfl⟩
  · have h : text.length ≤ 1000 := by simp at h; omega
    conv => whnf
    repeat (first | refine ACode.seq ?_ | (refine ACode.s_reg tys_ok ?_; conv => whnf) | refine ACode.s_block ?_ | refine ACode.s_scope ?_ | (refine ACode.s_cond ?_; conv => whnf) | (refine ACode.s_exit ?_; conv => whnf) | (refine ACode.s_ret ?_; conv => whnf) | (refine ACode.s_skip ?_; conv => whnf) | (refine ACode.s_label ?_; conv => whnf))
    refine ACall.of_spec (split_spec text (by omega)) rfl fun r hr => ?_
    subst hr
    conv => whnf
    repeat (first | refine ACode.seq ?_ | (refine ACode.s_reg tys_ok ?_; conv => whnf) | refine ACode.s_block ?_ | refine ACode.s_scope ?_ | (refine ACode.s_cond ?_; conv => whnf) | (refine ACode.s_exit ?_; conv => whnf) | (refine ACode.s_ret ?_; conv => whnf) | (refine ACode.s_skip ?_; conv => whnf) | (refine ACode.s_label ?_; conv => whnf))
    have hpw := @parse_words text
    have hwl : ∀ w ∈ splitB text, w.length ≤ 100000 := fun w hw => by have := splitB_mem text w hw; omega
    have hwn : (splitB text).length ≤ 1001 := by have := splitB_len text; have := (List.count_le_length : List.count 32 text ≤ text.length); omega
    generalize splitB text = ws at *
    refine ⟨fun h2 => ?_, fun h2 => ?_⟩
    · have h2 : ws.length < 5 := by simp [strs_len] at h2; omega
      conv => whnf
      repeat (first | refine ACode.seq ?_ | (refine ACode.s_reg tys_ok ?_; conv => whnf) | refine ACode.s_block ?_ | refine ACode.s_scope ?_ | (refine ACode.s_cond ?_; conv => whnf) | (refine ACode.s_exit ?_; conv => whnf) | (refine ACode.s_ret ?_; conv => whnf) | (refine ACode.s_skip ?_; conv => whnf) | (refine ACode.s_label ?_; conv => whnf))
      refine ⟨1, ?_⟩
      conv => whnf
      exact .inr ⟨fun r h3 h4 => by have := hpw h3 h4; rw [this] at h2; simp [wordsR] at h2; omega, rfl⟩
    · have h2 : 5 ≤ ws.length := by simp [strs_len] at h2; omega
      conv => whnf
      repeat (first | refine ACode.seq ?_ | (refine ACode.s_reg tys_ok ?_; conv => whnf) | refine ACode.s_block ?_ | refine ACode.s_scope ?_ | (refine ACode.s_cond ?_; conv => whnf) | (refine ACode.s_exit ?_; conv => whnf) | (refine ACode.s_ret ?_; conv => whnf) | (refine ACode.s_skip ?_; conv => whnf) | (refine ACode.s_label ?_; conv => whnf))
      refine ⟨by decide, .str ws[4], strs_at ws 4 (by omega), ?_⟩
      conv => whnf
      repeat (first | refine ACode.seq ?_ | (refine ACode.s_reg tys_ok ?_; conv => whnf) | refine ACode.s_block ?_ | refine ACode.s_scope ?_ | (refine ACode.s_cond ?_; conv => whnf) | (refine ACode.s_exit ?_; conv => whnf) | (refine ACode.s_ret ?_; conv => whnf) | (refine ACode.s_skip ?_; conv => whnf) | (refine ACode.s_label ?_; conv => whnf))
      refine ⟨by decide, .str ws[0], strs_at ws 0 (by omega), ?_⟩
      conv => whnf
      repeat (first | refine ACode.seq ?_ | (refine ACode.s_reg tys_ok ?_; conv => whnf) | refine ACode.s_block ?_ | refine ACode.s_scope ?_ | (refine ACode.s_cond ?_; conv => whnf) | (refine ACode.s_exit ?_; conv => whnf) | (refine ACode.s_ret ?_; conv => whnf) | (refine ACode.s_skip ?_; conv => whnf) | (refine ACode.s_label ?_; conv => whnf))
      refine ⟨fun h3 => ?_, fun h3 => ?_⟩
      · have hki : (ws[0] = [109, 97, 110, 105, 102, 101, 115, 116] ∧ (2 : Int) = 2) ∨ (ws[0] ≠ [109, 97, 110, 105, 102, 101, 115, 116] ∧ (2 : Int) = 1) := .inl ⟨by simpa using h3, rfl⟩
        conv => whnf
        repeat (first | refine ACode.seq ?_ | (refine ACode.s_reg tys_ok ?_; conv => whnf) | refine ACode.s_block ?_ | refine ACode.s_scope ?_ | (refine ACode.s_cond ?_; conv => whnf) | (refine ACode.s_exit ?_; conv => whnf) | (refine ACode.s_ret ?_; conv => whnf) | (refine ACode.s_skip ?_; conv => whnf) | (refine ACode.s_label ?_; conv => whnf))
        refine ACode.loopT (fun s : Nat × Int × Int × Int => mk 72 [(0, .str text), (2, .ptr 0 0), (3, .int .i64 0), (4, .sl 1 (strs ws)), (5, .ptr 1 0), (32, .own 2 1 0 3), (33, .int .i64 3), (34, .int .i64 s.1)])
          (fun s => [.cells [.int .i64 0, .int .i64 0, .int .i64 0, .int .i64 0, .str [], .raw (.slice none 0 0)], .cells [.int .i64 s.2.1, .int .i64 s.2.2.1, .int .i64 2, .int .i64 s.2.2.2, .str ws[4], .raw (.slice none 0 0)], .arr 50 1 [.ptr 1 0, .ptr 1 1, .ptr 1 3]])
          (fun s => s.1 ≤ 3 ∧ (if 1 ≤ s.1 then Lib.atoiAll ws[1] = .ok s.2.1 else s.2.1 = 0) ∧ (if 2 ≤ s.1 then Lib.atoiAll ws[2] = .ok s.2.2.1 else s.2.2.1 = 0) ∧ (if 3 ≤ s.1 then Lib.atoiAll ws[3] = .ok s.2.2.2 else s.2.2.2 = 0)) (fun s => 3 - s.1) ⟨(0, 0, 0, 0), ?_⟩ fun ⟨k, a, b, c⟩ hk => ?_
        · conv => whnf
          repeat (refine And.intro ?_ ?_; (focus (first | rfl | (simp; done))); conv => whnf)
        · obtain ⟨hk, hka, hkb, hkc⟩ := hk
          simp only at hk hka hkb hkc
          repeat (first | refine ACode.seq ?_ | (refine ACode.s_reg tys_ok ?_; conv => whnf) | refine ACode.s_block ?_ | refine ACode.s_scope ?_ | (refine ACode.s_cond ?_; conv => whnf) | (refine ACode.s_exit ?_; conv => whnf) | (refine ACode.s_ret ?_; conv => whnf) | (refine ACode.s_skip ?_; conv => whnf) | (refine ACode.s_label ?_; conv => whnf))
          refine ⟨fun h4 => ?_, fun h4 => ?_⟩
          · have h4 : k = 0 ∨ k = 1 ∨ k = 2 := by simp at h4; omega
            rcases h4 with rfl | rfl | rfl
            · conv => whnf
              repeat (first | refine ACode.seq ?_ | (refine ACode.s_reg tys_ok ?_; conv => whnf) | refine ACode.s_block ?_ | refine ACode.s_scope ?_ | (refine ACode.s_cond ?_; conv => whnf) | (refine ACode.s_exit ?_; conv => whnf) | (refine ACode.s_ret ?_; conv => whnf) | (refine ACode.s_skip ?_; conv => whnf) | (refine ACode.s_label ?_; conv => whnf))
              refine ⟨by simp, ?_⟩
              conv => whnf
              refine ⟨_, rfl, ?_⟩
              conv => whnf
              repeat (first | refine ACode.seq ?_ | (refine ACode.s_reg tys_ok ?_; conv => whnf) | refine ACode.s_block ?_ | refine ACode.s_scope ?_ | (refine ACode.s_cond ?_; conv => whnf) | (refine ACode.s_exit ?_; conv => whnf) | (refine ACode.s_ret ?_; conv => whnf) | (refine ACode.s_skip ?_; conv => whnf) | (refine ACode.s_label ?_; conv => whnf))
              have hw : Wr .i64 (1 + ((0 : Nat) : Int)) = 1 := by rw [Wr64 _ (by decide) (by decide)]; rfl
              refine ⟨by show 0 ≤ Wr .i64 (1 + ((0 : Nat) : Int)); rw [hw]; decide, .str ws[1], by show (strs ws)[(Wr .i64 (1 + ((0 : Nat) : Int))).toNat]? = _; rw [hw]; exact strs_at ws 1 (by omega), ?_⟩
              conv => whnf
              repeat (first | refine ACode.seq ?_ | (refine ACode.s_reg tys_ok ?_; conv => whnf) | refine ACode.s_block ?_ | refine ACode.s_scope ?_ | (refine ACode.s_cond ?_; conv => whnf) | (refine ACode.s_exit ?_; conv => whnf) | (refine ACode.s_ret ?_; conv => whnf) | (refine ACode.s_skip ?_; conv => whnf) | (refine ACode.s_label ?_; conv => whnf))
              refine ACall.of_spec (atoi_spec ws[1] (hwl _ (List.getElem_mem _))) rfl fun r hr => ?_
              rcases hr with ⟨v, hv, rfl⟩ | ⟨hv, v, rfl⟩
              · conv => whnf
                repeat (first | refine ACode.seq ?_ | (refine ACode.s_reg tys_ok ?_; conv => whnf) | refine ACode.s_block ?_ | refine ACode.s_scope ?_ | (refine ACode.s_cond ?_; conv => whnf) | (refine ACode.s_exit ?_; conv => whnf) | (refine ACode.s_ret ?_; conv => whnf) | (refine ACode.s_skip ?_; conv => whnf) | (refine ACode.s_label ?_; conv => whnf))
                refine ⟨(1, v, b, c), ?_⟩
                conv => whnf
                repeat (refine And.intro ?_ ?_; (focus (first | rfl | (simp; done) | (first | (rw [Wr64 _ (by simp) (by simp)]; rfl); done))); conv => whnf)
                refine ⟨⟨by simp, ?_, ?_, ?_⟩, by simp⟩ <;> simp_all
              · conv => whnf
                repeat (first | refine ACode.seq ?_ | (refine ACode.s_reg tys_ok ?_; conv => whnf) | refine ACode.s_block ?_ | refine ACode.s_scope ?_ | (refine ACode.s_cond ?_; conv => whnf) | (refine ACode.s_exit ?_; conv => whnf) | (refine ACode.s_ret ?_; conv => whnf) | (refine ACode.s_skip ?_; conv => whnf) | (refine ACode.s_label ?_; conv => whnf))
                refine ⟨1, ?_⟩
                conv => whnf
                refine .inr ⟨fun r h5 h6 => ?_, rfl⟩
                have hww := hpw h5 h6
                have hf := complete_facts h5
                subst hww
                exact hv r.sc (atoi_itoa hf.sc0 hf.sc1)
            · conv => whnf
              repeat (first | refine ACode.seq ?_ | (refine ACode.s_reg tys_ok ?_; conv => whnf) | refine ACode.s_block ?_ | refine ACode.s_scope ?_ | (refine ACode.s_cond ?_; conv => whnf) | (refine ACode.s_exit ?_; conv => whnf) | (refine ACode.s_ret ?_; conv => whnf) | (refine ACode.s_skip ?_; conv => whnf) | (refine ACode.s_label ?_; conv => whnf))
              refine ⟨by simp, ?_⟩
              conv => whnf
              refine ⟨_, rfl, ?_⟩
              conv => whnf
              repeat (first | refine ACode.seq ?_ | (refine ACode.s_reg tys_ok ?_; conv => whnf) | refine ACode.s_block ?_ | refine ACode.s_scope ?_ | (refine ACode.s_cond ?_; conv => whnf) | (refine ACode.s_exit ?_; conv => whnf) | (refine ACode.s_ret ?_; conv => whnf) | (refine ACode.s_skip ?_; conv => whnf) | (refine ACode.s_label ?_; conv => whnf))
              have hw : Wr .i64 (1 + ((1 : Nat) : Int)) = 2 := by rw [Wr64 _ (by decide) (by decide)]; rfl
              refine ⟨by show 0 ≤ Wr .i64 (1 + ((1 : Nat) : Int)); rw [hw]; decide, .str ws[2], by show (strs ws)[(Wr .i64 (1 + ((1 : Nat) : Int))).toNat]? = _; rw [hw]; exact strs_at ws 2 (by omega), ?_⟩
              conv => whnf
              repeat (first | refine ACode.seq ?_ | (refine ACode.s_reg tys_ok ?_; conv => whnf) | refine ACode.s_block ?_ | refine ACode.s_scope ?_ | (refine ACode.s_cond ?_; conv => whnf) | (refine ACode.s_exit ?_; conv => whnf) | (refine ACode.s_ret ?_; conv => whnf) | (refine ACode.s_skip ?_; conv => whnf) | (refine ACode.s_label ?_; conv => whnf))
              refine ACall.of_spec (atoi_spec ws[2] (hwl _ (List.getElem_mem _))) rfl fun r hr => ?_
              rcases hr with ⟨v, hv, rfl⟩ | ⟨hv, v, rfl⟩
              · conv => whnf
                repeat (first | refine ACode.seq ?_ | (refine ACode.s_reg tys_ok ?_; conv => whnf) | refine ACode.s_block ?_ | refine ACode.s_scope ?_ | (refine ACode.s_cond ?_; conv => whnf) | (refine ACode.s_exit ?_; conv => whnf) | (refine ACode.s_ret ?_; conv => whnf) | (refine ACode.s_skip ?_; conv => whnf) | (refine ACode.s_label ?_; conv => whnf))
                refine ⟨(2, a, v, c), ?_⟩
                conv => whnf
                repeat (refine And.intro ?_ ?_; (focus (first | rfl | (simp; done) | (first | (rw [Wr64 _ (by simp) (by simp)]; rfl); done))); conv => whnf)
                refine ⟨⟨by simp, ?_, ?_, ?_⟩, by simp⟩ <;> simp_all
              · conv => whnf
                repeat (first | refine ACode.seq ?_ | (refine ACode.s_reg tys_ok ?_; conv => whnf) | refine ACode.s_block ?_ | refine ACode.s_scope ?_ | (refine ACode.s_cond ?_; conv => whnf) | (refine ACode.s_exit ?_; conv => whnf) | (refine ACode.s_ret ?_; conv => whnf) | (refine ACode.s_skip ?_; conv => whnf) | (refine ACode.s_label ?_; conv => whnf))
                refine ⟨1, ?_⟩
                conv => whnf
                refine .inr ⟨fun r h5 h6 => ?_, rfl⟩
                have hww := hpw h5 h6
                have hf := complete_facts h5
                subst hww
                exact hv r.nu (atoi_itoa hf.nu0 hf.nu1)
            · conv => whnf
              repeat (first | refine ACode.seq ?_ | (refine ACode.s_reg tys_ok ?_; conv => whnf) | refine ACode.s_block ?_ | refine ACode.s_scope ?_ | (refine ACode.s_cond ?_; conv => whnf) | (refine ACode.s_exit ?_; conv => whnf) | (refine ACode.s_ret ?_; conv => whnf) | (refine ACode.s_skip ?_; conv => whnf) | (refine ACode.s_label ?_; conv => whnf))
              refine ⟨by simp, ?_⟩
              conv => whnf
              refine ⟨_, rfl, ?_⟩
              conv => whnf
              repeat (first | refine ACode.seq ?_ | (refine ACode.s_reg tys_ok ?_; conv => whnf) | refine ACode.s_block ?_ | refine ACode.s_scope ?_ | (refine ACode.s_cond ?_; conv => whnf) | (refine ACode.s_exit ?_; conv => whnf) | (refine ACode.s_ret ?_; conv => whnf) | (refine ACode.s_skip ?_; conv => whnf) | (refine ACode.s_label ?_; conv => whnf))
              have hw : Wr .i64 (1 + ((2 : Nat) : Int)) = 3 := by rw [Wr64 _ (by decide) (by decide)]; rfl
              refine ⟨by show 0 ≤ Wr .i64 (1 + ((2 : Nat) : Int)); rw [hw]; decide, .str ws[3], by show (strs ws)[(Wr .i64 (1 + ((2 : Nat) : Int))).toNat]? = _; rw [hw]; exact strs_at ws 3 (by omega), ?_⟩
              conv => whnf
              repeat (first | refine ACode.seq ?_ | (refine ACode.s_reg tys_ok ?_; conv => whnf) | refine ACode.s_block ?_ | refine ACode.s_scope ?_ | (refine ACode.s_cond ?_; conv => whnf) | (refine ACode.s_exit ?_; conv => whnf) | (refine ACode.s_ret ?_; conv => whnf) | (refine ACode.s_skip ?_; conv => whnf) | (refine ACode.s_label ?_; conv => whnf))
              refine ACall.of_spec (atoi_spec ws[3] (hwl _ (List.getElem_mem _))) rfl fun r hr => ?_
              rcases hr with ⟨v, hv, rfl⟩ | ⟨hv, v, rfl⟩
              · conv => whnf
                repeat (first | refine ACode.seq ?_ | (refine ACode.s_reg tys_ok ?_; conv => whnf) | refine ACode.s_block ?_ | refine ACode.s_scope ?_ | (refine ACode.s_cond ?_; conv => whnf) | (refine ACode.s_exit ?_; conv => whnf) | (refine ACode.s_ret ?_; conv => whnf) | (refine ACode.s_skip ?_; conv => whnf) | (refine ACode.s_label ?_; conv => whnf))
                refine ⟨(3, a, b, v), ?_⟩
                conv => whnf
                repeat (refine And.intro ?_ ?_; (focus (first | rfl | (simp; done) | (first | (rw [Wr64 _ (by simp) (by simp)]; rfl); done))); conv => whnf)
                refine ⟨⟨by simp, ?_, ?_, ?_⟩, by simp⟩ <;> simp_all
              · conv => whnf
                repeat (first | refine ACode.seq ?_ | (refine ACode.s_reg tys_ok ?_; conv => whnf) | refine ACode.s_block ?_ | refine ACode.s_scope ?_ | (refine ACode.s_cond ?_; conv => whnf) | (refine ACode.s_exit ?_; conv => whnf) | (refine ACode.s_ret ?_; conv => whnf) | (refine ACode.s_skip ?_; conv => whnf) | (refine ACode.s_label ?_; conv => whnf))
                refine ⟨1, ?_⟩
                conv => whnf
                refine .inr ⟨fun r h5 h6 => ?_, rfl⟩
                have hww := hpw h5 h6
                have hf := complete_facts h5
                subst hww
                exact hv r.ti (atoi_itoa hf.ti0 hf.ti1)
          · have h4 : k = 3 := by simp at h4; omega
            subst h4
            simp at hka hkb hkc
            conv => whnf
            repeat (first | refine ACode.seq ?_ | (refine ACode.s_reg tys_ok ?_; conv => whnf) | refine ACode.s_block ?_ | refine ACode.s_scope ?_ | (refine ACode.s_cond ?_; conv => whnf) | (refine ACode.s_exit ?_; conv => whnf) | (refine ACode.s_ret ?_; conv => whnf) | (refine ACode.s_skip ?_; conv => whnf) | (refine ACode.s_label ?_; conv => whnf))
            refine ⟨fun h5 => ?_, fun h5 => ?_⟩
            · have h5 : 5 < ws.length := by simp [strs_len] at h5; omega
              conv => whnf
              repeat (first | refine ACode.seq ?_ | (refine ACode.s_reg tys_ok ?_; conv => whnf) | refine ACode.s_block ?_ | refine ACode.s_scope ?_ | (refine ACode.s_cond ?_; conv => whnf) | (refine ACode.s_exit ?_; conv => whnf) | (refine ACode.s_ret ?_; conv => whnf) | (refine ACode.s_skip ?_; conv => whnf) | (refine ACode.s_label ?_; conv => whnf))
              refine ⟨by rw [strs_len]; omega, ?_⟩
              rw [show List.drop (Int.toNat 5) (List.take (((strs ws).length : Nat) : Int).toNat (strs ws)) = strs (ws.drop 5) by rw [Int.toNat_natCast, List.take_length]; simp [strs]]
              conv => whnf
              repeat (first | refine ACode.seq ?_ | (refine ACode.s_reg tys_ok ?_; conv => whnf) | refine ACode.s_block ?_ | refine ACode.s_scope ?_ | (refine ACode.s_cond ?_; conv => whnf) | (refine ACode.s_exit ?_; conv => whnf) | (refine ACode.s_ret ?_; conv => whnf) | (refine ACode.s_skip ?_; conv => whnf) | (refine ACode.s_label ?_; conv => whnf))
              have hq : ∀ r, completeB r = true → textR r = text → r = ⟨a, b, 2, c, ws[4], ws.drop 5⟩ := fun r h6 h7 => cand_eq h6 (hpw h6 h7) h2 hka hkb hkc hki
              have hok : RcOK ⟨a, b, 2, c, ws[4], ws.drop 5⟩ := ⟨by have := hwl _ (List.getElem_mem (show 4 < ws.length by omega)); simp only; omega, by simp; omega, fun x hx => by have := hwl x (List.mem_of_mem_drop hx); omega⟩
              refine ACall.of_spec (complete_spec ⟨a, b, 2, c, ws[4], ws.drop 5⟩ hok.la hok.co hok.cx) rfl fun r hr => ?_
              subst hr
              conv => whnf
              repeat (first | refine ACode.seq ?_ | (refine ACode.s_reg tys_ok ?_; conv => whnf) | refine ACode.s_block ?_ | refine ACode.s_scope ?_ | (refine ACode.s_cond ?_; conv => whnf) | (refine ACode.s_exit ?_; conv => whnf) | (refine ACode.s_ret ?_; conv => whnf) | (refine ACode.s_skip ?_; conv => whnf) | (refine ACode.s_label ?_; conv => whnf))
              refine ⟨fun h6 => ?_, fun h6 => ?_⟩
              · have h6 : completeB ⟨a, b, 2, c, ws[4], ws.drop 5⟩ = true := by simpa using h6
                conv => whnf
                repeat (first | refine ACode.seq ?_ | (refine ACode.s_reg tys_ok ?_; conv => whnf) | refine ACode.s_block ?_ | refine ACode.s_scope ?_ | (refine ACode.s_cond ?_; conv => whnf) | (refine ACode.s_exit ?_; conv => whnf) | (refine ACode.s_ret ?_; conv => whnf) | (refine ACode.s_skip ?_; conv => whnf) | (refine ACode.s_label ?_; conv => whnf))
                skip
                refine ACall.of_spec (text_spec ⟨a, b, 2, c, ws[4], ws.drop 5⟩ hok) rfl fun r hr => ?_
                subst hr
                conv => whnf
                repeat (first | refine ACode.seq ?_ | (refine ACode.s_reg tys_ok ?_; conv => whnf) | refine ACode.s_block ?_ | refine ACode.s_scope ?_ | (refine ACode.s_cond ?_; conv => whnf) | (refine ACode.s_exit ?_; conv => whnf) | (refine ACode.s_ret ?_; conv => whnf) | (refine ACode.s_skip ?_; conv => whnf) | (refine ACode.s_label ?_; conv => whnf))
                refine ⟨fun h7 => ?_, fun h7 => ?_⟩
                · have h7 : textR ⟨a, b, 2, c, ws[4], ws.drop 5⟩ ≠ text := by simpa using h7
                  conv => whnf
                  repeat (first | refine ACode.seq ?_ | (refine ACode.s_reg tys_ok ?_; conv => whnf) | refine ACode.s_block ?_ | refine ACode.s_scope ?_ | (refine ACode.s_cond ?_; conv => whnf) | (refine ACode.s_exit ?_; conv => whnf) | (refine ACode.s_ret ?_; conv => whnf) | (refine ACode.s_skip ?_; conv => whnf) | (refine ACode.s_label ?_; conv => whnf))
                  refine ⟨1, ?_⟩
                  conv => whnf
                  refine .inr ⟨fun r h8 h9 => ?_, rfl⟩
                  have := hq r h8 h9
                  subst this
                  exact h7 h9
                · have h7 : textR ⟨a, b, 2, c, ws[4], ws.drop 5⟩ = text := by simpa using h7
                  conv => whnf
                  repeat (first | refine ACode.seq ?_ | (refine ACode.s_reg tys_ok ?_; conv => whnf) | refine ACode.s_block ?_ | refine ACode.s_scope ?_ | (refine ACode.s_cond ?_; conv => whnf) | (refine ACode.s_exit ?_; conv => whnf) | (refine ACode.s_ret ?_; conv => whnf) | (refine ACode.s_skip ?_; conv => whnf) | (refine ACode.s_label ?_; conv => whnf))
                  exact .inl ⟨_, h6, h7, rfl⟩
              · have h6 : completeB ⟨a, b, 2, c, ws[4], ws.drop 5⟩ = false := by simpa using h6
                conv => whnf
                repeat (first | refine ACode.seq ?_ | (refine ACode.s_reg tys_ok ?_; conv => whnf) | refine ACode.s_block ?_ | refine ACode.s_scope ?_ | (refine ACode.s_cond ?_; conv => whnf) | (refine ACode.s_exit ?_; conv => whnf) | (refine ACode.s_ret ?_; conv => whnf) | (refine ACode.s_skip ?_; conv => whnf) | (refine ACode.s_label ?_; conv => whnf))
                refine ⟨1, ?_⟩
                conv => whnf
                refine .inr ⟨fun r h8 h9 => ?_, rfl⟩
                have := hq r h8 h9
                subst this
                rw [h6] at h8
                cases h8
            · have h5 : ws.length = 5 := by simp [strs_len] at h5; omega
              conv => whnf
              repeat (first | refine ACode.seq ?_ | (refine ACode.s_reg tys_ok ?_; conv => whnf) | refine ACode.s_block ?_ | refine ACode.s_scope ?_ | (refine ACode.s_cond ?_; conv => whnf) | (refine ACode.s_exit ?_; conv => whnf) | (refine ACode.s_ret ?_; conv => whnf) | (refine ACode.s_skip ?_; conv => whnf) | (refine ACode.s_label ?_; conv => whnf))
              have hd : ws.drop 5 = [] := List.drop_eq_nil_of_le (by omega)
              refine ACall.args (args' := [(Rc.mk a b 2 c ws[4] []).v]) ⟨⟨rfl, rfl, rfl, rfl, rfl, trivial, trivial⟩, trivial⟩ ?_
              rw [← hd]
              have hq : ∀ r, completeB r = true → textR r = text → r = ⟨a, b, 2, c, ws[4], ws.drop 5⟩ := fun r h6 h7 => cand_eq h6 (hpw h6 h7) h2 hka hkb hkc hki
              have hok : RcOK ⟨a, b, 2, c, ws[4], ws.drop 5⟩ := ⟨by have := hwl _ (List.getElem_mem (show 4 < ws.length by omega)); simp only; omega, by simp; omega, fun x hx => by have := hwl x (List.mem_of_mem_drop hx); omega⟩
              refine ACall.of_spec (complete_spec ⟨a, b, 2, c, ws[4], ws.drop 5⟩ hok.la hok.co hok.cx) rfl fun r hr => ?_
              subst hr
              conv => whnf
              repeat (first | refine ACode.seq ?_ | (refine ACode.s_reg tys_ok ?_; conv => whnf) | refine ACode.s_block ?_ | refine ACode.s_scope ?_ | (refine ACode.s_cond ?_; conv => whnf) | (refine ACode.s_exit ?_; conv => whnf) | (refine ACode.s_ret ?_; conv => whnf) | (refine ACode.s_skip ?_; conv => whnf) | (refine ACode.s_label ?_; conv => whnf))
              refine ⟨fun h6 => ?_, fun h6 => ?_⟩
              · have h6 : completeB ⟨a, b, 2, c, ws[4], ws.drop 5⟩ = true := by simpa using h6
                conv => whnf
                repeat (first | refine ACode.seq ?_ | (refine ACode.s_reg tys_ok ?_; conv => whnf) | refine ACode.s_block ?_ | refine ACode.s_scope ?_ | (refine ACode.s_cond ?_; conv => whnf) | (refine ACode.s_exit ?_; conv => whnf) | (refine ACode.s_ret ?_; conv => whnf) | (refine ACode.s_skip ?_; conv => whnf) | (refine ACode.s_label ?_; conv => whnf))
                refine ACall.args (args' := [(Rc.mk a b 2 c ws[4] []).v]) ⟨⟨rfl, rfl, rfl, rfl, rfl, trivial, trivial⟩, trivial⟩ ?_
                rw [← hd]
                refine ACall.of_spec (text_spec ⟨a, b, 2, c, ws[4], ws.drop 5⟩ hok) rfl fun r hr => ?_
                subst hr
                conv => whnf
                repeat (first | refine ACode.seq ?_ | (refine ACode.s_reg tys_ok ?_; conv => whnf) | refine ACode.s_block ?_ | refine ACode.s_scope ?_ | (refine ACode.s_cond ?_; conv => whnf) | (refine ACode.s_exit ?_; conv => whnf) | (refine ACode.s_ret ?_; conv => whnf) | (refine ACode.s_skip ?_; conv => whnf) | (refine ACode.s_label ?_; conv => whnf))
                refine ⟨fun h7 => ?_, fun h7 => ?_⟩
                · have h7 : textR ⟨a, b, 2, c, ws[4], ws.drop 5⟩ ≠ text := by simpa using h7
                  conv => whnf
                  repeat (first | refine ACode.seq ?_ | (refine ACode.s_reg tys_ok ?_; conv => whnf) | refine ACode.s_block ?_ | refine ACode.s_scope ?_ | (refine ACode.s_cond ?_; conv => whnf) | (refine ACode.s_exit ?_; conv => whnf) | (refine ACode.s_ret ?_; conv => whnf) | (refine ACode.s_skip ?_; conv => whnf) | (refine ACode.s_label ?_; conv => whnf))
                  refine ⟨1, ?_⟩
                  conv => whnf
                  refine .inr ⟨fun r h8 h9 => ?_, rfl⟩
                  have := hq r h8 h9
                  subst this
                  exact h7 h9
                · have h7 : textR ⟨a, b, 2, c, ws[4], ws.drop 5⟩ = text := by simpa using h7
                  conv => whnf
                  repeat (first | refine ACode.seq ?_ | (refine ACode.s_reg tys_ok ?_; conv => whnf) | refine ACode.s_block ?_ | refine ACode.s_scope ?_ | (refine ACode.s_cond ?_; conv => whnf) | (refine ACode.s_exit ?_; conv => whnf) | (refine ACode.s_ret ?_; conv => whnf) | (refine ACode.s_skip ?_; conv => whnf) | (refine ACode.s_label ?_; conv => whnf))
                  refine ⟨1, ?_⟩
                  conv => whnf
                  refine .inl ⟨_, h6, h7, ?_⟩
                  rw [hd]
                  rfl
              · have h6 : completeB ⟨a, b, 2, c, ws[4], ws.drop 5⟩ = false := by simpa using h6
                conv => whnf
                repeat (first | refine ACode.seq ?_ | (refine ACode.s_reg tys_ok ?_; conv => whnf) | refine ACode.s_block ?_ | refine ACode.s_scope ?_ | (refine ACode.s_cond ?_; conv => whnf) | (refine ACode.s_exit ?_; conv => whnf) | (refine ACode.s_ret ?_; conv => whnf) | (refine ACode.s_skip ?_; conv => whnf) | (refine ACode.s_label ?_; conv => whnf))
                refine ⟨1, ?_⟩
                conv => whnf
                refine .inr ⟨fun r h8 h9 => ?_, rfl⟩
                have := hq r h8 h9
                subst this
                rw [h6] at h8
                cases h8
      · have hki : (ws[0] = [109, 97, 110, 105, 102, 101, 115, 116] ∧ (1 : Int) = 2) ∨ (ws[0] ≠ [109, 97, 110, 105, 102, 101, 115, 116] ∧ (1 : Int) = 1) := .inr ⟨by simpa using h3, rfl⟩
        conv => whnf
        repeat (first | refine ACode.seq ?_ | (refine ACode.s_reg tys_ok ?_; conv => whnf) | refine ACode.s_block ?_ | refine ACode.s_scope ?_ | (refine ACode.s_cond ?_; conv => whnf) | (refine ACode.s_exit ?_; conv => whnf) | (refine ACode.s_ret ?_; conv => whnf) | (refine ACode.s_skip ?_; conv => whnf) | (refine ACode.s_label ?_; conv => whnf))
        refine ACode.loopT (fun s : Nat × Int × Int × Int => mk 72 [(0, .str text), (2, .ptr 0 0), (3, .int .i64 0), (4, .sl 1 (strs ws)), (5, .ptr 1 0), (32, .own 2 1 0 3), (33, .int .i64 3), (34, .int .i64 s.1)])
          (fun s => [.cells [.int .i64 0, .int .i64 0, .int .i64 0, .int .i64 0, .str [], .raw (.slice none 0 0)], .cells [.int .i64 s.2.1, .int .i64 s.2.2.1, .int .i64 1, .int .i64 s.2.2.2, .str ws[4], .raw (.slice none 0 0)], .arr 50 1 [.ptr 1 0, .ptr 1 1, .ptr 1 3]])
          (fun s => s.1 ≤ 3 ∧ (if 1 ≤ s.1 then Lib.atoiAll ws[1] = .ok s.2.1 else s.2.1 = 0) ∧ (if 2 ≤ s.1 then Lib.atoiAll ws[2] = .ok s.2.2.1 else s.2.2.1 = 0) ∧ (if 3 ≤ s.1 then Lib.atoiAll ws[3] = .ok s.2.2.2 else s.2.2.2 = 0)) (fun s => 3 - s.1) ⟨(0, 0, 0, 0), ?_⟩ fun ⟨k, a, b, c⟩ hk => ?_
        · conv => whnf
          repeat (refine And.intro ?_ ?_; (focus (first | rfl | (simp; done))); conv => whnf)
        · obtain ⟨hk, hka, hkb, hkc⟩ := hk
          simp only at hk hka hkb hkc
          repeat (first | refine ACode.seq ?_ | (refine ACode.s_reg tys_ok ?_; conv => whnf) | refine ACode.s_block ?_ | refine ACode.s_scope ?_ | (refine ACode.s_cond ?_; conv => whnf) | (refine ACode.s_exit ?_; conv => whnf) | (refine ACode.s_ret ?_; conv => whnf) | (refine ACode.s_skip ?_; conv => whnf) | (refine ACode.s_label ?_; conv => whnf))
          refine ⟨fun h4 => ?_, fun h4 => ?_⟩
          · have h4 : k = 0 ∨ k = 1 ∨ k = 2 := by simp at h4; omega
            rcases h4 with rfl | rfl | rfl
            · conv => whnf
              repeat (first | refine ACode.seq ?_ | (refine ACode.s_reg tys_ok ?_; conv => whnf) | refine ACode.s_block ?_ | refine ACode.s_scope ?_ | (refine ACode.s_cond ?_; conv => whnf) | (refine ACode.s_exit ?_; conv => whnf) | (refine ACode.s_ret ?_; conv => whnf) | (refine ACode.s_skip ?_; conv => whnf) | (refine ACode.s_label ?_; conv => whnf))
              refine ⟨by simp, ?_⟩
              conv => whnf
              refine ⟨_, rfl, ?_⟩
              conv => whnf
              repeat (first | refine ACode.seq ?_ | (refine ACode.s_reg tys_ok ?_; conv => whnf) | refine ACode.s_block ?_ | refine ACode.s_scope ?_ | (refine ACode.s_cond ?_; conv => whnf) | (refine ACode.s_exit ?_; conv => whnf) | (refine ACode.s_ret ?_; conv => whnf) | (refine ACode.s_skip ?_; conv => whnf) | (refine ACode.s_label ?_; conv => whnf))
              have hw : Wr .i64 (1 + ((0 : Nat) : Int)) = 1 := by rw [Wr64 _ (by decide) (by decide)]; rfl
              refine ⟨by show 0 ≤ Wr .i64 (1 + ((0 : Nat) : Int)); rw [hw]; decide, .str ws[1], by show (strs ws)[(Wr .i64 (1 + ((0 : Nat) : Int))).toNat]? = _; rw [hw]; exact strs_at ws 1 (by omega), ?_⟩
              conv => whnf
              repeat (first | refine ACode.seq ?_ | (refine ACode.s_reg tys_ok ?_; conv => whnf) | refine ACode.s_block ?_ | refine ACode.s_scope ?_ | (refine ACode.s_cond ?_; conv => whnf) | (refine ACode.s_exit ?_; conv => whnf) | (refine ACode.s_ret ?_; conv => whnf) | (refine ACode.s_skip ?_; conv => whnf) | (refine ACode.s_label ?_; conv => whnf))
              refine ACall.of_spec (atoi_spec ws[1] (hwl _ (List.getElem_mem _))) rfl fun r hr => ?_
              rcases hr with ⟨v, hv, rfl⟩ | ⟨hv, v, rfl⟩
              · conv => whnf
                repeat (first | refine ACode.seq ?_ | (refine ACode.s_reg tys_ok ?_; conv => whnf) | refine ACode.s_block ?_ | refine ACode.s_scope ?_ | (refine ACode.s_cond ?_; conv => whnf) | (refine ACode.s_exit ?_; conv => whnf) | (refine ACode.s_ret ?_; conv => whnf) | (refine ACode.s_skip ?_; conv => whnf) | (refine ACode.s_label ?_; conv => whnf))
                refine ⟨(1, v, b, c), ?_⟩
                conv => whnf
                repeat (refine And.intro ?_ ?_; (focus (first | rfl | (simp; done) | (first | (rw [Wr64 _ (by simp) (by simp)]; rfl); done))); conv => whnf)
                refine ⟨⟨by simp, ?_, ?_, ?_⟩, by simp⟩ <;> simp_all
              · conv => whnf
                repeat (first | refine ACode.seq ?_ | (refine ACode.s_reg tys_ok ?_; conv => whnf) | refine ACode.s_block ?_ | refine ACode.s_scope ?_ | (refine ACode.s_cond ?_; conv => whnf) | (refine ACode.s_exit ?_; conv => whnf) | (refine ACode.s_ret ?_; conv => whnf) | (refine ACode.s_skip ?_; conv => whnf) | (refine ACode.s_label ?_; conv => whnf))
                refine ⟨1, ?_⟩
                conv => whnf
                refine .inr ⟨fun r h5 h6 => ?_, rfl⟩
                have hww := hpw h5 h6
                have hf := complete_facts h5
                subst hww
                exact hv r.sc (atoi_itoa hf.sc0 hf.sc1)
            · conv => whnf
              repeat (first | refine ACode.seq ?_ | (refine ACode.s_reg tys_ok ?_; conv => whnf) | refine ACode.s_block ?_ | refine ACode.s_scope ?_ | (refine ACode.s_cond ?_; conv => whnf) | (refine ACode.s_exit ?_; conv => whnf) | (refine ACode.s_ret ?_; conv => whnf) | (refine ACode.s_skip ?_; conv => whnf) | (refine ACode.s_label ?_; conv => whnf))
              refine ⟨by simp, ?_⟩
              conv => whnf
              refine ⟨_, rfl, ?_⟩
              conv => whnf
              repeat (first | refine ACode.seq ?_ | (refine ACode.s_reg tys_ok ?_; conv => whnf) | refine ACode.s_block ?_ | refine ACode.s_scope ?_ | (refine ACode.s_cond ?_; conv => whnf) | (refine ACode.s_exit ?_; conv => whnf) | (refine ACode.s_ret ?_; conv => whnf) | (refine ACode.s_skip ?_; conv => whnf) | (refine ACode.s_label ?_; conv => whnf))
              have hw : Wr .i64 (1 + ((1 : Nat) : Int)) = 2 := by rw [Wr64 _ (by decide) (by decide)]; rfl
              refine ⟨by show 0 ≤ Wr .i64 (1 + ((1 : Nat) : Int)); rw [hw]; decide, .str ws[2], by show (strs ws)[(Wr .i64 (1 + ((1 : Nat) : Int))).toNat]? = _; rw [hw]; exact strs_at ws 2 (by omega), ?_⟩
              conv => whnf
              repeat (first | refine ACode.seq ?_ | (refine ACode.s_reg tys_ok ?_; conv => whnf) | refine ACode.s_block ?_ | refine ACode.s_scope ?_ | (refine ACode.s_cond ?_; conv => whnf) | (refine ACode.s_exit ?_; conv => whnf) | (refine ACode.s_ret ?_; conv => whnf) | (refine ACode.s_skip ?_; conv => whnf) | (refine ACode.s_label ?_; conv => whnf))
              refine ACall.of_spec (atoi_spec ws[2] (hwl _ (List.getElem_mem _))) rfl fun r hr => ?_
              rcases hr with ⟨v, hv, rfl⟩ | ⟨hv, v, rfl⟩
              · conv => whnf
                repeat (first | refine ACode.seq ?_ | (refine ACode.s_reg tys_ok ?_; conv => whnf) | refine ACode.s_block ?_ | refine ACode.s_scope ?_ | (refine ACode.s_cond ?_; conv => whnf) | (refine ACode.s_exit ?_; conv => whnf) | (refine ACode.s_ret ?_; conv => whnf) | (refine ACode.s_skip ?_; conv => whnf) | (refine ACode.s_label ?_; conv => whnf))
                refine ⟨(2, a, v, c), ?_⟩
                conv => whnf
                repeat (refine And.intro ?_ ?_; (focus (first | rfl | (simp; done) | (first | (rw [Wr64 _ (by simp) (by simp)]; rfl); done))); conv => whnf)
                refine ⟨⟨by simp, ?_, ?_, ?_⟩, by simp⟩ <;> simp_all
              · conv => whnf
                repeat (first | refine ACode.seq ?_ | (refine ACode.s_reg tys_ok ?_; conv => whnf) | refine ACode.s_block ?_ | refine ACode.s_scope ?_ | (refine ACode.s_cond ?_; conv => whnf) | (refine ACode.s_exit ?_; conv => whnf) | (refine ACode.s_ret ?_; conv => whnf) | (refine ACode.s_skip ?_; conv => whnf) | (refine ACode.s_label ?_; conv => whnf))
                refine ⟨1, ?_⟩
                conv => whnf
                refine .inr ⟨fun r h5 h6 => ?_, rfl⟩
                have hww := hpw h5 h6
                have hf := complete_facts h5
                subst hww
                exact hv r.nu (atoi_itoa hf.nu0 hf.nu1)
            · conv => whnf
              repeat (first | refine ACode.seq ?_ | (refine ACode.s_reg tys_ok ?_; conv => whnf) | refine ACode.s_block ?_ | refine ACode.s_scope ?_ | (refine ACode.s_cond ?_; conv => whnf) | (refine ACode.s_exit ?_; conv => whnf) | (refine ACode.s_ret ?_; conv => whnf) | (refine ACode.s_skip ?_; conv => whnf) | (refine ACode.s_label ?_; conv => whnf))
              refine ⟨by simp, ?_⟩
              conv => whnf
              refine ⟨_, rfl, ?_⟩
              conv => whnf
              repeat (first | refine ACode.seq ?_ | (refine ACode.s_reg tys_ok ?_; conv => whnf) | refine ACode.s_block ?_ | refine ACode.s_scope ?_ | (refine ACode.s_cond ?_; conv => whnf) | (refine ACode.s_exit ?_; conv => whnf) | (refine ACode.s_ret ?_; conv => whnf) | (refine ACode.s_skip ?_; conv => whnf) | (refine ACode.s_label ?_; conv => whnf))
              have hw : Wr .i64 (1 + ((2 : Nat) : Int)) = 3 := by rw [Wr64 _ (by decide) (by decide)]; rfl
              refine ⟨by show 0 ≤ Wr .i64 (1 + ((2 : Nat) : Int)); rw [hw]; decide, .str ws[3], by show (strs ws)[(Wr .i64 (1 + ((2 : Nat) : Int))).toNat]? = _; rw [hw]; exact strs_at ws 3 (by omega), ?_⟩
              conv => whnf
              repeat (first | refine ACode.seq ?_ | (refine ACode.s_reg tys_ok ?_; conv => whnf) | refine ACode.s_block ?_ | refine ACode.s_scope ?_ | (refine ACode.s_cond ?_; conv => whnf) | (refine ACode.s_exit ?_; conv => whnf) | (refine ACode.s_ret ?_; conv => whnf) | (refine ACode.s_skip ?_; conv => whnf) | (refine ACode.s_label ?_; conv => whnf))
              refine ACall.of_spec (atoi_spec ws[3] (hwl _ (List.getElem_mem _))) rfl fun r hr => ?_
              rcases hr with ⟨v, hv, rfl⟩ | ⟨hv, v, rfl⟩
              · conv => whnf
                repeat (first | refine ACode.seq ?_ | (refine ACode.s_reg tys_ok ?_; conv => whnf) | refine ACode.s_block ?_ | refine ACode.s_scope ?_ | (refine ACode.s_cond ?_; conv => whnf) | (refine ACode.s_exit ?_; conv => whnf) | (refine ACode.s_ret ?_; conv => whnf) | (refine ACode.s_skip ?_; conv => whnf) | (refine ACode.s_label ?_; conv => whnf))
                refine ⟨(3, a, b, v), ?_⟩
                conv => whnf
                repeat (refine And.intro ?_ ?_; (focus (first | rfl | (simp; done) | (first | (rw [Wr64 _ (by simp) (by simp)]; rfl); done))); conv => whnf)
                refine ⟨⟨by simp, ?_, ?_, ?_⟩, by simp⟩ <;> simp_all
              · conv => whnf
                repeat (first | refine ACode.seq ?_ | (refine ACode.s_reg tys_ok ?_; conv => whnf) | refine ACode.s_block ?_ | refine ACode.s_scope ?_ | (refine ACode.s_cond ?_; conv => whnf) | (refine ACode.s_exit ?_; conv => whnf) | (refine ACode.s_ret ?_; conv => whnf) | (refine ACode.s_skip ?_; conv => whnf) | (refine ACode.s_label ?_; conv => whnf))
                refine ⟨1, ?_⟩
                conv => whnf
                refine .inr ⟨fun r h5 h6 => ?_, rfl⟩
                have hww := hpw h5 h6
                have hf := complete_facts h5
                subst hww
                exact hv r.ti (atoi_itoa hf.ti0 hf.ti1)
          · have h4 : k = 3 := by simp at h4; omega
            subst h4
            simp at hka hkb hkc
            conv => whnf
            repeat (first | refine ACode.seq ?_ | (refine ACode.s_reg tys_ok ?_; conv => whnf) | refine ACode.s_block ?_ | refine ACode.s_scope ?_ | (refine ACode.s_cond ?_; conv => whnf) | (refine ACode.s_exit ?_; conv => whnf) | (refine ACode.s_ret ?_; conv => whnf) | (refine ACode.s_skip ?_; conv => whnf) | (refine ACode.s_label ?_; conv => whnf))
            refine ⟨fun h5 => ?_, fun h5 => ?_⟩
            · have h5 : 5 < ws.length := by simp [strs_len] at h5; omega
              conv => whnf
              repeat (first | refine ACode.seq ?_ | (refine ACode.s_reg tys_ok ?_; conv => whnf) | refine ACode.s_block ?_ | refine ACode.s_scope ?_ | (refine ACode.s_cond ?_; conv => whnf) | (refine ACode.s_exit ?_; conv => whnf) | (refine ACode.s_ret ?_; conv => whnf) | (refine ACode.s_skip ?_; conv => whnf) | (refine ACode.s_label ?_; conv => whnf))
              refine ⟨by rw [strs_len]; omega, ?_⟩
              rw [show List.drop (Int.toNat 5) (List.take (((strs ws).length : Nat) : Int).toNat (strs ws)) = strs (ws.drop 5) by rw [Int.toNat_natCast, List.take_length]; simp [strs]]
              conv => whnf
              repeat (first | refine ACode.seq ?_ | (refine ACode.s_reg tys_ok ?_; conv => whnf) | refine ACode.s_block ?_ | refine ACode.s_scope ?_ | (refine ACode.s_cond ?_; conv => whnf) | (refine ACode.s_exit ?_; conv => whnf) | (refine ACode.s_ret ?_; conv => whnf) | (refine ACode.s_skip ?_; conv => whnf) | (refine ACode.s_label ?_; conv => whnf))
              have hq : ∀ r, completeB r = true → textR r = text → r = ⟨a, b, 1, c, ws[4], ws.drop 5⟩ := fun r h6 h7 => cand_eq h6 (hpw h6 h7) h2 hka hkb hkc hki
              have hok : RcOK ⟨a, b, 1, c, ws[4], ws.drop 5⟩ := ⟨by have := hwl _ (List.getElem_mem (show 4 < ws.length by omega)); simp only; omega, by simp; omega, fun x hx => by have := hwl x (List.mem_of_mem_drop hx); omega⟩
              refine ACall.of_spec (complete_spec ⟨a, b, 1, c, ws[4], ws.drop 5⟩ hok.la hok.co hok.cx) rfl fun r hr => ?_
              subst hr
              conv => whnf
              repeat (first | refine ACode.seq ?_ | (refine ACode.s_reg tys_ok ?_; conv => whnf) | refine ACode.s_block ?_ | refine ACode.s_scope ?_ | (refine ACode.s_cond ?_; conv => whnf) | (refine ACode.s_exit ?_; conv => whnf) | (refine ACode.s_ret ?_; conv => whnf) | (refine ACode.s_skip ?_; conv => whnf) | (refine ACode.s_label ?_; conv => whnf))
              refine ⟨fun h6 => ?_, fun h6 => ?_⟩
              · have h6 : completeB ⟨a, b, 1, c, ws[4], ws.drop 5⟩ = true := by simpa using h6
                conv => whnf
                repeat (first | refine ACode.seq ?_ | (refine ACode.s_reg tys_ok ?_; conv => whnf) | refine ACode.s_block ?_ | refine ACode.s_scope ?_ | (refine ACode.s_cond ?_; conv => whnf) | (refine ACode.s_exit ?_; conv => whnf) | (refine ACode.s_ret ?_; conv => whnf) | (refine ACode.s_skip ?_; conv => whnf) | (refine ACode.s_label ?_; conv => whnf))
                skip
                refine ACall.of_spec (text_spec ⟨a, b, 1, c, ws[4], ws.drop 5⟩ hok) rfl fun r hr => ?_
                subst hr
                conv => whnf
                repeat (first | refine ACode.seq ?_ | (refine ACode.s_reg tys_ok ?_; conv => whnf) | refine ACode.s_block ?_ | refine ACode.s_scope ?_ | (refine ACode.s_cond ?_; conv => whnf) | (refine ACode.s_exit ?_; conv => whnf) | (refine ACode.s_ret ?_; conv => whnf) | (refine ACode.s_skip ?_; conv => whnf) | (refine ACode.s_label ?_; conv => whnf))
                refine ⟨fun h7 => ?_, fun h7 => ?_⟩
                · have h7 : textR ⟨a, b, 1, c, ws[4], ws.drop 5⟩ ≠ text := by simpa using h7
                  conv => whnf
                  repeat (first | refine ACode.seq ?_ | (refine ACode.s_reg tys_ok ?_; conv => whnf) | refine ACode.s_block ?_ | refine ACode.s_scope ?_ | (refine ACode.s_cond ?_; conv => whnf) | (refine ACode.s_exit ?_; conv => whnf) | (refine ACode.s_ret ?_; conv => whnf) | (refine ACode.s_skip ?_; conv => whnf) | (refine ACode.s_label ?_; conv => whnf))
                  refine ⟨1, ?_⟩
                  conv => whnf
                  refine .inr ⟨fun r h8 h9 => ?_, rfl⟩
                  have := hq r h8 h9
                  subst this
                  exact h7 h9
                · have h7 : textR ⟨a, b, 1, c, ws[4], ws.drop 5⟩ = text := by simpa using h7
                  conv => whnf
                  repeat (first | refine ACode.seq ?_ | (refine ACode.s_reg tys_ok ?_; conv => whnf) | refine ACode.s_block ?_ | refine ACode.s_scope ?_ | (refine ACode.s_cond ?_; conv => whnf) | (refine ACode.s_exit ?_; conv => whnf) | (refine ACode.s_ret ?_; conv => whnf) | (refine ACode.s_skip ?_; conv => whnf) | (refine ACode.s_label ?_; conv => whnf))
                  exact .inl ⟨_, h6, h7, rfl⟩
              · have h6 : completeB ⟨a, b, 1, c, ws[4], ws.drop 5⟩ = false := by simpa using h6
                conv => whnf
                repeat (first | refine ACode.seq ?_ | (refine ACode.s_reg tys_ok ?_; conv => whnf) | refine ACode.s_block ?_ | refine ACode.s_scope ?_ | (refine ACode.s_cond ?_; conv => whnf) | (refine ACode.s_exit ?_; conv => whnf) | (refine ACode.s_ret ?_; conv => whnf) | (refine ACode.s_skip ?_; conv => whnf) | (refine ACode.s_label ?_; conv => whnf))
                refine ⟨1, ?_⟩
                conv => whnf
                refine .inr ⟨fun r h8 h9 => ?_, rfl⟩
                have := hq r h8 h9
                subst this
                rw [h6] at h8
                cases h8
            · have h5 : ws.length = 5 := by simp [strs_len] at h5; omega
              conv => whnf
              repeat (first | refine ACode.seq ?_ | (refine ACode.s_reg tys_ok ?_; conv => whnf) | refine ACode.s_block ?_ | refine ACode.s_scope ?_ | (refine ACode.s_cond ?_; conv => whnf) | (refine ACode.s_exit ?_; conv => whnf) | (refine ACode.s_ret ?_; conv => whnf) | (refine ACode.s_skip ?_; conv => whnf) | (refine ACode.s_label ?_; conv => whnf))
              have hd : ws.drop 5 = [] := List.drop_eq_nil_of_le (by omega)
              refine ACall.args (args' := [(Rc.mk a b 1 c ws[4] []).v]) ⟨⟨rfl, rfl, rfl, rfl, rfl, trivial, trivial⟩, trivial⟩ ?_
              rw [← hd]
              have hq : ∀ r, completeB r = true → textR r = text → r = ⟨a, b, 1, c, ws[4], ws.drop 5⟩ := fun r h6 h7 => cand_eq h6 (hpw h6 h7) h2 hka hkb hkc hki
              have hok : RcOK ⟨a, b, 1, c, ws[4], ws.drop 5⟩ := ⟨by have := hwl _ (List.getElem_mem (show 4 < ws.length by omega)); simp only; omega, by simp; omega, fun x hx => by have := hwl x (List.mem_of_mem_drop hx); omega⟩
              refine ACall.of_spec (complete_spec ⟨a, b, 1, c, ws[4], ws.drop 5⟩ hok.la hok.co hok.cx) rfl fun r hr => ?_
              subst hr
              conv => whnf
              repeat (first | refine ACode.seq ?_ | (refine ACode.s_reg tys_ok ?_; conv => whnf) | refine ACode.s_block ?_ | refine ACode.s_scope ?_ | (refine ACode.s_cond ?_; conv => whnf) | (refine ACode.s_exit ?_; conv => whnf) | (refine ACode.s_ret ?_; conv => whnf) | (refine ACode.s_skip ?_; conv => whnf) | (refine ACode.s_label ?_; conv => whnf))
              refine ⟨fun h6 => ?_, fun h6 => ?_⟩
              · have h6 : completeB ⟨a, b, 1, c, ws[4], ws.drop 5⟩ = true := by simpa using h6
                conv => whnf
                repeat (first | refine ACode.seq ?_ | (refine ACode.s_reg tys_ok ?_; conv => whnf) | refine ACode.s_block ?_ | refine ACode.s_scope ?_ | (refine ACode.s_cond ?_; conv => whnf) | (refine ACode.s_exit ?_; conv => whnf) | (refine ACode.s_ret ?_; conv => whnf) | (refine ACode.s_skip ?_; conv => whnf) | (refine ACode.s_label ?_; conv => whnf))
                refine ACall.args (args' := [(Rc.mk a b 1 c ws[4] []).v]) ⟨⟨rfl, rfl, rfl, rfl, rfl, trivial, trivial⟩, trivial⟩ ?_
                rw [← hd]
                refine ACall.of_spec (text_spec ⟨a, b, 1, c, ws[4], ws.drop 5⟩ hok) rfl fun r hr => ?_
                subst hr
                conv => whnf
                repeat (first | refine ACode.seq ?_ | (refine ACode.s_reg tys_ok ?_; conv => whnf) | refine ACode.s_block ?_ | refine ACode.s_scope ?_ | (refine ACode.s_cond ?_; conv => whnf) | (refine ACode.s_exit ?_; conv => whnf) | (refine ACode.s_ret ?_; conv => whnf) | (refine ACode.s_skip ?_; conv => whnf) | (refine ACode.s_label ?_; conv => whnf))
                refine ⟨fun h7 => ?_, fun h7 => ?_⟩
                · have h7 : textR ⟨a, b, 1, c, ws[4], ws.drop 5⟩ ≠ text := by simpa using h7
                  conv => whnf
                  repeat (first | refine ACode.seq ?_ | (refine ACode.s_reg tys_ok ?_; conv => whnf) | refine ACode.s_block ?_ | refine ACode.s_scope ?_ | (refine ACode.s_cond ?_; conv => whnf) | (refine ACode.s_exit ?_; conv => whnf) | (refine ACode.s_ret ?_; conv => whnf) | (refine ACode.s_skip ?_; conv => whnf) | (refine ACode.s_label ?_; conv => whnf))
                  refine ⟨1, ?_⟩
                  conv => whnf
                  refine .inr ⟨fun r h8 h9 => ?_, rfl⟩
                  have := hq r h8 h9
                  subst this
                  exact h7 h9
                · have h7 : textR ⟨a, b, 1, c, ws[4], ws.drop 5⟩ = text := by simpa using h7
                  conv => whnf
                  repeat (first | refine ACode.seq ?_ | (refine ACode.s_reg tys_ok ?_; conv => whnf) | refine ACode.s_block ?_ | refine ACode.s_scope ?_ | (refine ACode.s_cond ?_; conv => whnf) | (refine ACode.s_exit ?_; conv => whnf) | (refine ACode.s_ret ?_; conv => whnf) | (refine ACode.s_skip ?_; conv => whnf) | (refine ACode.s_label ?_; conv => whnf))
                  refine ⟨1, ?_⟩
                  conv => whnf
                  refine .inl ⟨_, h6, h7, ?_⟩
                  rw [hd]
                  rfl
              · have h6 : completeB ⟨a, b, 1, c, ws[4], ws.drop 5⟩ = false := by simpa using h6
                conv => whnf
                repeat (first | refine ACode.seq ?_ | (refine ACode.s_reg tys_ok ?_; conv => whnf) | refine ACode.s_block ?_ | refine ACode.s_scope ?_ | (refine ACode.s_cond ?_; conv => whnf) | (refine ACode.s_exit ?_; conv => whnf) | (refine ACode.s_ret ?_; conv => whnf) | (refine ACode.s_skip ?_; conv => whnf) | (refine ACode.s_label ?_; conv => whnf))
                refine ⟨1, ?_⟩
                conv => whnf
                refine .inr ⟨fun r h8 h9 => ?_, rfl⟩
                have := hq r h8 h9
                subst this
                rw [h6] at h8
                cases h8
end Go.Proofs.YtiojkoaefabjbaaGreatDoor
