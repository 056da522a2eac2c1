/-
  RecordsTexts.
-/
import Derived.Test.YtiojkoaefabjbaaGreatDoorL1
set_option linter.unusedVariables false
set_option linter.unusedSimpArgs false
namespace Go.Proofs.YtiojkoaefabjbaaGreatDoor
open Go.Av Go.Shelf Pl Go.RowKit
theorem textR_ne {r : Rc} (h : textR r ≠ []) : completeB r = true := by
  cases hc : completeB r with
  | true => rfl
  | false => exact absurd (by unfold textR; rw [hc]; rfl) h
theorem complete_ok {r : Rc} (h : completeB r = true) : RcOK r := by
  have hf := complete_facts h
  have h1 := label_len hf.la
  exact ⟨by omega, by have := hf.cos.1; omega, fun x hx => by have := label_len (hf.cos.2 x hx); omega⟩
set_option maxHeartbeats 4000000 in
set_option maxRecDepth 100000 in
theorem texts_law (r : Rc) (text : Bs) (hl : text.length ≤ 9223372036854775807) : Ctr Tryz.prog 7 [r.v, .str text] (fun x => x = .bool true) := by
  refine Ctr.lits ?_
  refine Ctr.of_body Tryz.func7 rfl tys_ok (by kernel_rfl) ?_
  conv => whnf
  repeat (first | refine ACode.seq ?_ | (refine ACode.s_reg tys_ok ?_; conv => whnf) | refine ACode.s_block ?_ | refine ACode.s_scope ?_ | (refine ACode.s_cond ?_; conv => whnf) | (refine ACode.s_exit ?_; conv => whnf) | (refine ACode.s_ret ?_; conv => whnf) | (refine ACode.s_skip ?_; conv => whnf) | (refine ACode.s_label ?_; conv => whnf))
  refine ACall.of_spec (head_spec) rfl fun r hr => ?_
  subst hr
  conv => whnf
  repeat (first | refine ACode.seq ?_ | (refine ACode.s_reg tys_ok ?_; conv => whnf) | refine ACode.s_block ?_ | refine ACode.s_scope ?_ | (refine ACode.s_cond ?_; conv => whnf) | (refine ACode.s_exit ?_; conv => whnf) | (refine ACode.s_ret ?_; conv => whnf) | (refine ACode.s_skip ?_; conv => whnf) | (refine ACode.s_label ?_; conv => whnf))
  repeat' (first | (refine And.intro (fun _ => ?_) (fun _ => ?_) <;> conv => whnf) | (refine ACall.of_spec (short_spec r) rfl fun r hr => ?_; subst hr; conv => whnf) | refine ACode.seq ?_ | (refine ACode.s_reg tys_ok ?_; conv => whnf) | refine ACode.s_block ?_ | refine ACode.s_scope ?_ | (refine ACode.s_cond ?_; conv => whnf) | (refine ACode.s_exit ?_; conv => whnf) | (refine ACode.s_ret ?_; conv => whnf) | (refine ACode.s_skip ?_; conv => whnf) | (refine ACode.s_label ?_; conv => whnf))
  all_goals (try exact .inr rfl)
  rename_i h1 h2
  have hr := short_ok (r := r) (by simpa using h1)
  have h2 : text.length ≤ 1500 := by simp at h2; omega
  refine ACall.of_spec (text_spec r hr) rfl fun r hr => ?_
  subst hr
  conv => whnf
  repeat (first | refine ACode.seq ?_ | (refine ACode.s_reg tys_ok ?_; conv => whnf) | refine ACode.s_block ?_ | refine ACode.s_scope ?_ | (refine ACode.s_cond ?_; conv => whnf) | (refine ACode.s_exit ?_; conv => whnf) | (refine ACode.s_ret ?_; conv => whnf) | (refine ACode.s_skip ?_; conv => whnf) | (refine ACode.s_label ?_; conv => whnf))
  refine ⟨fun h => ?_, fun h => ?_⟩
  · have h : textR r ≠ [] := by simpa using h
    have hc := textR_ne h
    conv => whnf
    repeat (first | refine ACode.seq ?_ | (refine ACode.s_reg tys_ok ?_; conv => whnf) | refine ACode.s_block ?_ | refine ACode.s_scope ?_ | (refine ACode.s_cond ?_; conv => whnf) | (refine ACode.s_exit ?_; conv => whnf) | (refine ACode.s_ret ?_; conv => whnf) | (refine ACode.s_skip ?_; conv => whnf) | (refine ACode.s_label ?_; conv => whnf))
    refine ACall.of_spec (parse_yes (by have := text_len (complete_facts hc); unfold textR; rw [if_pos hc]; omega) hc rfl) rfl fun r hr => ?_
    subst hr
    conv => whnf
    repeat (first | refine ACode.seq ?_ | (refine ACode.s_reg tys_ok ?_; conv => whnf) | refine ACode.s_block ?_ | refine ACode.s_scope ?_ | (refine ACode.s_cond ?_; conv => whnf) | (refine ACode.s_exit ?_; conv => whnf) | (refine ACode.s_ret ?_; conv => whnf) | (refine ACode.s_skip ?_; conv => whnf) | (refine ACode.s_label ?_; conv => whnf))
    refine ⟨fun _ => ?_, fun h => absurd h (by simp)⟩
    conv => whnf
    repeat (first | refine ACode.seq ?_ | (refine ACode.s_reg tys_ok ?_; conv => whnf) | refine ACode.s_block ?_ | refine ACode.s_scope ?_ | (refine ACode.s_cond ?_; conv => whnf) | (refine ACode.s_exit ?_; conv => whnf) | (refine ACode.s_ret ?_; conv => whnf) | (refine ACode.s_skip ?_; conv => whnf) | (refine ACode.s_label ?_; conv => whnf))
    refine ACall.of_spec (rcompare_spec r r hr.co) rfl fun r hr => ?_
    subst hr
    conv => whnf
    repeat (first | refine ACode.seq ?_ | (refine ACode.s_reg tys_ok ?_; conv => whnf) | refine ACode.s_block ?_ | refine ACode.s_scope ?_ | (refine ACode.s_cond ?_; conv => whnf) | (refine ACode.s_exit ?_; conv => whnf) | (refine ACode.s_ret ?_; conv => whnf) | (refine ACode.s_skip ?_; conv => whnf) | (refine ACode.s_label ?_; conv => whnf))
    rw [cmpR_ok.self]
    refine ⟨fun h => absurd h (by simp), fun _ => ?_⟩
    conv => whnf
    repeat (first | refine ACode.seq ?_ | (refine ACode.s_reg tys_ok ?_; conv => whnf) | refine ACode.s_block ?_ | refine ACode.s_scope ?_ | (refine ACode.s_cond ?_; conv => whnf) | (refine ACode.s_exit ?_; conv => whnf) | (refine ACode.s_ret ?_; conv => whnf) | (refine ACode.s_skip ?_; conv => whnf) | (refine ACode.s_label ?_; conv => whnf))
    refine ACall.of_spec (parse_spec text hl) rfl fun x hx => ?_
    rcases hx with ⟨q, hq1, hq2, rfl⟩ | ⟨hq, rfl⟩
    · conv => whnf
      repeat (first | refine ACode.seq ?_ | (refine ACode.s_reg tys_ok ?_; conv => whnf) | refine ACode.s_block ?_ | refine ACode.s_scope ?_ | (refine ACode.s_cond ?_; conv => whnf) | (refine ACode.s_exit ?_; conv => whnf) | (refine ACode.s_ret ?_; conv => whnf) | (refine ACode.s_skip ?_; conv => whnf) | (refine ACode.s_label ?_; conv => whnf))
      repeat (first | (refine ACall.of_spec (text_spec q (complete_ok hq1)) rfl fun r hr => ?_; subst hr; conv => whnf) | (refine no_br ?_ (fun _ => ?_); (focus (first | (simp [hq2]; done) | (simp; done); done)); conv => whnf) | (refine yes_br ?_ (fun _ => ?_); (focus (first | (simp [hq2]; done) | (simp; done); done)); conv => whnf) | refine ACode.seq ?_ | (refine ACode.s_reg tys_ok ?_; conv => whnf) | refine ACode.s_block ?_ | refine ACode.s_scope ?_ | (refine ACode.s_cond ?_; conv => whnf) | (refine ACode.s_exit ?_; conv => whnf) | (refine ACode.s_ret ?_; conv => whnf) | (refine ACode.s_skip ?_; conv => whnf) | (refine ACode.s_label ?_; conv => whnf))
      exact .inr rfl
    · conv => whnf
      repeat (first | refine ACode.seq ?_ | (refine ACode.s_reg tys_ok ?_; conv => whnf) | refine ACode.s_block ?_ | refine ACode.s_scope ?_ | (refine ACode.s_cond ?_; conv => whnf) | (refine ACode.s_exit ?_; conv => whnf) | (refine ACode.s_ret ?_; conv => whnf) | (refine ACode.s_skip ?_; conv => whnf) | (refine ACode.s_label ?_; conv => whnf))
      repeat (first | (refine no_br ?_ (fun _ => ?_); (focus (first | (simp; done); done)); conv => whnf) | (refine yes_br ?_ (fun _ => ?_); (focus (first | (simp; done); done)); conv => whnf) | refine ACode.seq ?_ | (refine ACode.s_reg tys_ok ?_; conv => whnf) | refine ACode.s_block ?_ | refine ACode.s_scope ?_ | (refine ACode.s_cond ?_; conv => whnf) | (refine ACode.s_exit ?_; conv => whnf) | (refine ACode.s_ret ?_; conv => whnf) | (refine ACode.s_skip ?_; conv => whnf) | (refine ACode.s_label ?_; conv => whnf))
      refine ACall.args (args' := [zeroR.v, zeroR.v]) ⟨⟨rfl, rfl, rfl, rfl, rfl, rfl, trivial⟩, ⟨rfl, rfl, rfl, rfl, rfl, trivial, trivial⟩, trivial⟩ ?_
      refine ACall.of_spec (rcompare_spec zeroR zeroR (by decide)) rfl fun r hr => ?_
      subst hr
      conv => whnf
      repeat (first | refine ACode.seq ?_ | (refine ACode.s_reg tys_ok ?_; conv => whnf) | refine ACode.s_block ?_ | refine ACode.s_scope ?_ | (refine ACode.s_cond ?_; conv => whnf) | (refine ACode.s_exit ?_; conv => whnf) | (refine ACode.s_ret ?_; conv => whnf) | (refine ACode.s_skip ?_; conv => whnf) | (refine ACode.s_label ?_; conv => whnf))
      rw [cmpR_ok.self]
      repeat (first | (refine no_br ?_ (fun _ => ?_); (focus (first | (simp; done); done)); conv => whnf) | (refine yes_br ?_ (fun _ => ?_); (focus (first | (simp; done); done)); conv => whnf) | refine ACode.seq ?_ | (refine ACode.s_reg tys_ok ?_; conv => whnf) | refine ACode.s_block ?_ | refine ACode.s_scope ?_ | (refine ACode.s_cond ?_; conv => whnf) | (refine ACode.s_exit ?_; conv => whnf) | (refine ACode.s_ret ?_; conv => whnf) | (refine ACode.s_skip ?_; conv => whnf) | (refine ACode.s_label ?_; conv => whnf))
      exact .inr rfl
  · conv => whnf
    repeat (first | refine ACode.seq ?_ | (refine ACode.s_reg tys_ok ?_; conv => whnf) | refine ACode.s_block ?_ | refine ACode.s_scope ?_ | (refine ACode.s_cond ?_; conv => whnf) | (refine ACode.s_exit ?_; conv => whnf) | (refine ACode.s_ret ?_; conv => whnf) | (refine ACode.s_skip ?_; conv => whnf) | (refine ACode.s_label ?_; conv => whnf))
    refine ACall.of_spec (parse_spec text hl) rfl fun x hx => ?_
    rcases hx with ⟨q, hq1, hq2, rfl⟩ | ⟨hq, rfl⟩
    · conv => whnf
      repeat (first | refine ACode.seq ?_ | (refine ACode.s_reg tys_ok ?_; conv => whnf) | refine ACode.s_block ?_ | refine ACode.s_scope ?_ | (refine ACode.s_cond ?_; conv => whnf) | (refine ACode.s_exit ?_; conv => whnf) | (refine ACode.s_ret ?_; conv => whnf) | (refine ACode.s_skip ?_; conv => whnf) | (refine ACode.s_label ?_; conv => whnf))
      repeat (first | (refine ACall.of_spec (text_spec q (complete_ok hq1)) rfl fun r hr => ?_; subst hr; conv => whnf) | (refine no_br ?_ (fun _ => ?_); (focus (first | (simp [hq2]; done) | (simp; done); done)); conv => whnf) | (refine yes_br ?_ (fun _ => ?_); (focus (first | (simp [hq2]; done) | (simp; done); done)); conv => whnf) | refine ACode.seq ?_ | (refine ACode.s_reg tys_ok ?_; conv => whnf) | refine ACode.s_block ?_ | refine ACode.s_scope ?_ | (refine ACode.s_cond ?_; conv => whnf) | (refine ACode.s_exit ?_; conv => whnf) | (refine ACode.s_ret ?_; conv => whnf) | (refine ACode.s_skip ?_; conv => whnf) | (refine ACode.s_label ?_; conv => whnf))
      exact .inr rfl
    · conv => whnf
      repeat (first | refine ACode.seq ?_ | (refine ACode.s_reg tys_ok ?_; conv => whnf) | refine ACode.s_block ?_ | refine ACode.s_scope ?_ | (refine ACode.s_cond ?_; conv => whnf) | (refine ACode.s_exit ?_; conv => whnf) | (refine ACode.s_ret ?_; conv => whnf) | (refine ACode.s_skip ?_; conv => whnf) | (refine ACode.s_label ?_; conv => whnf))
      repeat (first | (refine no_br ?_ (fun _ => ?_); (focus (first | (simp; done); done)); conv => whnf) | (refine yes_br ?_ (fun _ => ?_); (focus (first | (simp; done); done)); conv => whnf) | refine ACode.seq ?_ | (refine ACode.s_reg tys_ok ?_; conv => whnf) | refine ACode.s_block ?_ | refine ACode.s_scope ?_ | (refine ACode.s_cond ?_; conv => whnf) | (refine ACode.s_exit ?_; conv => whnf) | (refine ACode.s_ret ?_; conv => whnf) | (refine ACode.s_skip ?_; conv => whnf) | (refine ACode.s_label ?_; conv => whnf))
      refine ACall.args (args' := [zeroR.v, zeroR.v]) ⟨⟨rfl, rfl, rfl, rfl, rfl, rfl, trivial⟩, ⟨rfl, rfl, rfl, rfl, rfl, trivial, trivial⟩, trivial⟩ ?_
      refine ACall.of_spec (rcompare_spec zeroR zeroR (by decide)) rfl fun r hr => ?_
      subst hr
      conv => whnf
      repeat (first | refine ACode.seq ?_ | (refine ACode.s_reg tys_ok ?_; conv => whnf) | refine ACode.s_block ?_ | refine ACode.s_scope ?_ | (refine ACode.s_cond ?_; conv => whnf) | (refine ACode.s_exit ?_; conv => whnf) | (refine ACode.s_ret ?_; conv => whnf) | (refine ACode.s_skip ?_; conv => whnf) | (refine ACode.s_label ?_; conv => whnf))
      rw [cmpR_ok.self]
      repeat (first | (refine no_br ?_ (fun _ => ?_); (focus (first | (simp; done); done)); conv => whnf) | (refine yes_br ?_ (fun _ => ?_); (focus (first | (simp; done); done)); conv => whnf) | refine ACode.seq ?_ | (refine ACode.s_reg tys_ok ?_; conv => whnf) | refine ACode.s_block ?_ | refine ACode.s_scope ?_ | (refine ACode.s_cond ?_; conv => whnf) | (refine ACode.s_exit ?_; conv => whnf) | (refine ACode.s_ret ?_; conv => whnf) | (refine ACode.s_skip ?_; conv => whnf) | (refine ACode.s_label ?_; conv => whnf))
      exact .inr rfl
end Go.Proofs.YtiojkoaefabjbaaGreatDoor
