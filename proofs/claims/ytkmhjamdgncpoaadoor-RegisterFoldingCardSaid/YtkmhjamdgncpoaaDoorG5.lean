/-
  The law: two points with addresses that are equal by folding are one point.
-/
import Derived.Test.YtkmhjamdgncpoaaDoorG1
import Derived.Test.YtkmhjamdgncpoaaDoorL2
set_option linter.unusedVariables false
set_option linter.unusedSimpArgs false
namespace Go.Proofs.YtkmhjamdgncpoaaDoor
open Go.Av Go.Shelf Pl Go.RowKit
theorem sound_of {r : List Ch} (h : (!(smallR r && soundP r)) = false) : soundP r = true := by
  rw [Bool.not_eq_false', Bool.and_eq_true] at h
  exact h.2
theorem name_cases {r : List Ch} (h : soundP r = true) (day : Int) (p : Pt) : nameP r day p = (ad0, 3) ∨ ∃ s, Has (atP r day) p s ∧ nameP r day p = (adS s p, 0) := by
  rw [nameP_eq h]
  rcases name_err (atP r day) p with h0 | h0
  · right
    obtain ⟨s, h1, h2⟩ := name_ok (l := atP r day) (p := p) (a := (nameL (atP r day) p).1) (by rw [← h0])
    exact ⟨s, h1, by rw [name_has h1]⟩
  · exact .inl h0
theorem pt_dec (p q : Pt) : (decide (p.s = q.s) && (decide (p.n = q.n) && true)) = decide (p = q) := by
  obtain ⟨p1, p2⟩ := p
  obtain ⟨q1, q2⟩ := q
  simp
theorem has_ok {r : List Ch} {day : Int} {p : Pt} {s : St} (h : Has (atP r day) p s) : StOK s 60 := (at_good r day).1 s (List.mem_of_getElem? h.at_)
theorem one_iff {l : List St} (hf : Free l) {p q : Pt} {s o : St} (hp : Has l p s) (hq : Has l q o) : p = q ↔ (s.co = o.co ∧ p.n + s.sh = q.n + o.sh ∧ eqF s.na o.na = true) := by
  constructor
  · rintro rfl
    have := hp.at_
    rw [hq.at_] at this
    cases this
    exact ⟨rfl, rfl, eqF_iff.2 rfl⟩
  · rintro ⟨h1, h2, h3⟩
    have hi := means_one hf (a := adS s p) (b := adS o q) h1 h2 (eqF_iff.1 h3) hp.at_ hq.at_ (has_means hp (named_self s)) (has_means hq (named_self o))
    have := hp.at_
    rw [hi, hq.at_] at this
    cases this
    have h4 := hp.pos
    have h5 := hq.pos
    obtain ⟨p1, p2⟩ := p
    obtain ⟨q1, q2⟩ := q
    simp only at hi h2 h4 h5
    rw [show p1 = q1 by omega, show p2 = q2 by omega]
set_option maxRecDepth 100000 in
theorem onepoint_law (r : List Ch) (day : Int) (p q : Pt) : Ctr Tryd.prog 5 [chs r, .int .i64 day, p.v, q.v] (fun x => x = .bool true) := by
  refine Ctr.of_body Tryd.func5 rfl tys_ok (by kernel_rfl) ?_
  conv => whnf
  repeat (first | refine ACode.seq ?_ | (refine ACode.s_reg tys_ok ?_; conv => whnf) | refine ACode.s_block ?_ | refine ACode.s_scope ?_ | (refine ACode.s_cond ?_; conv => whnf) | (refine ACode.s_exit ?_; conv => whnf) | (refine ACode.s_ret ?_; conv => whnf) | (refine ACode.s_skip ?_; conv => whnf) | (refine ACode.s_label ?_; conv => whnf))
  refine ACall.of_spec (head_spec) rfl fun r hr => ?_
  subst hr
  conv => whnf
  repeat (first | refine ACode.seq ?_ | (refine ACode.s_reg tys_ok ?_; conv => whnf) | refine ACode.s_block ?_ | refine ACode.s_scope ?_ | (refine ACode.s_cond ?_; conv => whnf) | (refine ACode.s_exit ?_; conv => whnf) | (refine ACode.s_ret ?_; conv => whnf) | (refine ACode.s_skip ?_; conv => whnf) | (refine ACode.s_label ?_; conv => whnf))
  refine ACall.of_spec (Sound_spec r) rfl fun r hr => ?_
  subst hr
  conv => whnf
  repeat (first | refine ACode.seq ?_ | (refine ACode.s_reg tys_ok ?_; conv => whnf) | refine ACode.s_block ?_ | refine ACode.s_scope ?_ | (refine ACode.s_cond ?_; conv => whnf) | (refine ACode.s_exit ?_; conv => whnf) | (refine ACode.s_ret ?_; conv => whnf) | (refine ACode.s_skip ?_; conv => whnf) | (refine ACode.s_label ?_; conv => whnf))
  refine ⟨fun h => ?_, fun h => ?_⟩
  · conv => whnf
    repeat (first | refine ACode.seq ?_ | (refine ACode.s_reg tys_ok ?_; conv => whnf) | refine ACode.s_block ?_ | refine ACode.s_scope ?_ | (refine ACode.s_cond ?_; conv => whnf) | (refine ACode.s_exit ?_; conv => whnf) | (refine ACode.s_ret ?_; conv => whnf) | (refine ACode.s_skip ?_; conv => whnf) | (refine ACode.s_label ?_; conv => whnf))
  have hs := sound_of h
  clear h
  conv => whnf
  repeat (first | refine ACode.seq ?_ | (refine ACode.s_reg tys_ok ?_; conv => whnf) | refine ACode.s_block ?_ | refine ACode.s_scope ?_ | (refine ACode.s_cond ?_; conv => whnf) | (refine ACode.s_exit ?_; conv => whnf) | (refine ACode.s_ret ?_; conv => whnf) | (refine ACode.s_skip ?_; conv => whnf) | (refine ACode.s_label ?_; conv => whnf))
  rcases name_cases hs day p with hp | ⟨s, hp, ep⟩
  · refine ACall.of_spec (name_t hp) rfl fun r hr => ?_
    subst hr
    conv => whnf
    repeat (first | refine ACode.seq ?_ | (refine ACode.s_reg tys_ok ?_; conv => whnf) | refine ACode.s_block ?_ | refine ACode.s_scope ?_ | (refine ACode.s_cond ?_; conv => whnf) | (refine ACode.s_exit ?_; conv => whnf) | (refine ACode.s_ret ?_; conv => whnf) | (refine ACode.s_skip ?_; conv => whnf) | (refine ACode.s_label ?_; conv => whnf))
    refine ACall.of_spec (Name_spec r day q) rfl fun r hr => ?_
    subst hr
    conv => whnf
    repeat (first | refine ACode.seq ?_ | (refine ACode.s_reg tys_ok ?_; conv => whnf) | refine ACode.s_block ?_ | refine ACode.s_scope ?_ | (refine ACode.s_cond ?_; conv => whnf) | (refine ACode.s_exit ?_; conv => whnf) | (refine ACode.s_ret ?_; conv => whnf) | (refine ACode.s_skip ?_; conv => whnf) | (refine ACode.s_label ?_; conv => whnf))
    repeat (first | (refine ⟨fun _ => ?_, fun h => absurd h (by decide +kernel)⟩; conv => whnf) | (refine ⟨fun h => absurd h (by decide +kernel), fun _ => ?_⟩; conv => whnf) | (refine ⟨by decide, _, rfl, ?_⟩; conv => whnf) | refine ACode.seq ?_ | (refine ACode.s_reg tys_ok ?_; conv => whnf) | refine ACode.s_block ?_ | refine ACode.s_scope ?_ | (refine ACode.s_cond ?_; conv => whnf) | (refine ACode.s_exit ?_; conv => whnf) | (refine ACode.s_ret ?_; conv => whnf) | (refine ACode.s_skip ?_; conv => whnf) | (refine ACode.s_label ?_; conv => whnf))
  refine ACall.of_spec (name_t ep) rfl fun r hr => ?_
  subst hr
  conv => whnf
  repeat (first | refine ACode.seq ?_ | (refine ACode.s_reg tys_ok ?_; conv => whnf) | refine ACode.s_block ?_ | refine ACode.s_scope ?_ | (refine ACode.s_cond ?_; conv => whnf) | (refine ACode.s_exit ?_; conv => whnf) | (refine ACode.s_ret ?_; conv => whnf) | (refine ACode.s_skip ?_; conv => whnf) | (refine ACode.s_label ?_; conv => whnf))
  rcases name_cases hs day q with hq | ⟨o, hq, eq⟩
  · refine ACall.of_spec (name_t hq) rfl fun r hr => ?_
    subst hr
    conv => whnf
    repeat (first | refine ACode.seq ?_ | (refine ACode.s_reg tys_ok ?_; conv => whnf) | refine ACode.s_block ?_ | refine ACode.s_scope ?_ | (refine ACode.s_cond ?_; conv => whnf) | (refine ACode.s_exit ?_; conv => whnf) | (refine ACode.s_ret ?_; conv => whnf) | (refine ACode.s_skip ?_; conv => whnf) | (refine ACode.s_label ?_; conv => whnf))
    repeat (first | (refine ⟨fun _ => ?_, fun h => absurd h (by decide +kernel)⟩; conv => whnf) | (refine ⟨fun h => absurd h (by decide +kernel), fun _ => ?_⟩; conv => whnf) | (refine ⟨by decide, _, rfl, ?_⟩; conv => whnf) | refine ACode.seq ?_ | (refine ACode.s_reg tys_ok ?_; conv => whnf) | refine ACode.s_block ?_ | refine ACode.s_scope ?_ | (refine ACode.s_cond ?_; conv => whnf) | (refine ACode.s_exit ?_; conv => whnf) | (refine ACode.s_ret ?_; conv => whnf) | (refine ACode.s_skip ?_; conv => whnf) | (refine ACode.s_label ?_; conv => whnf))
  refine ACall.of_spec (name_t eq) rfl fun r hr => ?_
  subst hr
  conv => whnf
  repeat (first | refine ACode.seq ?_ | (refine ACode.s_reg tys_ok ?_; conv => whnf) | refine ACode.s_block ?_ | refine ACode.s_scope ?_ | (refine ACode.s_cond ?_; conv => whnf) | (refine ACode.s_exit ?_; conv => whnf) | (refine ACode.s_ret ?_; conv => whnf) | (refine ACode.s_skip ?_; conv => whnf) | (refine ACode.s_label ?_; conv => whnf))
  repeat (first | (refine ⟨fun _ => ?_, fun h => absurd h (by decide +kernel)⟩; conv => whnf) | (refine ⟨fun h => absurd h (by decide +kernel), fun _ => ?_⟩; conv => whnf) | (refine ⟨by decide, _, rfl, ?_⟩; conv => whnf) | refine ACode.seq ?_ | (refine ACode.s_reg tys_ok ?_; conv => whnf) | refine ACode.s_block ?_ | refine ACode.s_scope ?_ | (refine ACode.s_cond ?_; conv => whnf) | (refine ACode.s_exit ?_; conv => whnf) | (refine ACode.s_ret ?_; conv => whnf) | (refine ACode.s_skip ?_; conv => whnf) | (refine ACode.s_label ?_; conv => whnf))
  have hi := one_iff (at_free hs day) hp hq
  repeat' (first | (refine And.intro (fun _ => ?_) (fun _ => ?_) <;> conv => whnf) | (refine ACall.of_spec (Equal_spec s.na o.na (by have := (has_ok hp).na; omega)) rfl fun r hr => ?_; subst hr; conv => whnf) | refine ACode.seq ?_ | (refine ACode.s_reg tys_ok ?_; conv => whnf) | refine ACode.s_block ?_ | refine ACode.s_scope ?_ | (refine ACode.s_cond ?_; conv => whnf) | (refine ACode.s_exit ?_; conv => whnf) | (refine ACode.s_ret ?_; conv => whnf) | (refine ACode.s_skip ?_; conv => whnf) | (refine ACode.s_label ?_; conv => whnf))
  all_goals first
    | (rename_i z; cases z; done)
    | (refine congrArg AV.bool ?_
       rw [pt_dec, show decide (p = q) = decide (s.co = o.co ∧ p.n + s.sh = q.n + o.sh ∧ eqF s.na o.na = true) from decide_eq_decide.2 hi]
       clear hi hp hq ep eq
       unfold adS at *
       simp_all)
end Go.Proofs.YtkmhjamdgncpoaaDoor
