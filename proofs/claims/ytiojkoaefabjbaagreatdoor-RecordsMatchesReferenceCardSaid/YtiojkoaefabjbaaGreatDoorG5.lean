/-
  The examples have the results that are written down.
-/
import Derived.Test.YtiojkoaefabjbaaGreatDoorG4
set_option linter.unusedVariables false
set_option linter.unusedSimpArgs false
namespace Go.Proofs.YtiojkoaefabjbaaGreatDoor
open Go.Av Go.Shelf Pl Go.RowKit
theorem closed4 {a b c d : AV} (ha : closed a = true) (hb : closed b = true) (hc : closed c = true) (hd : closed d = true) : ∀ e ∈ [a, b, c, d], closed e = true := by
  intro e he
  simp only [List.mem_cons, List.not_mem_nil, or_false] at he
  rcases he with rfl | rfl | rfl | rfl <;> assumption
theorem closed2 {a b : AV} (ha : closed a = true) (hb : closed b = true) : ∀ e ∈ [a, b], closed e = true := by
  intro e he
  simp only [List.mem_cons, List.not_mem_nil, or_false] at he
  rcases he with rfl | rfl <;> assumption
def exX : Rc := { exA with la := [97, 49] }
theorem okA : RcOK exA := ⟨by decide, by decide, by decide⟩
theorem okB : RcOK exB := ⟨by decide, by decide, by decide⟩
theorem okX : RcOK exX := ⟨by decide, by decide, by decide⟩
theorem same_ex : Ctr Tryz.prog 19 [rcs [exB, exA], rcs [exB, exA]] (fun x => x = .bool true) :=
  (same_spec [exB, exA] [exB, exA] (by decide) (by decide)).weak fun x hx => by rw [hx]; simp
theorem cmp_ex : Ctr Tryz.prog 18 [exB.v, exB.v] (fun x => x = .int .i64 0) :=
  (rcompare_spec exB exB (by decide)).weak fun x hx => by rw [hx, cmpR_ok.self]
theorem txA : Ctr Tryz.prog 15 [exA.v] (fun x => x = .str tA) := (text_spec exA okA).weak fun x hx => by rw [hx, textA]
theorem txB : Ctr Tryz.prog 15 [exB.v] (fun x => x = .str tB) := (text_spec exB okB).weak fun x hx => by rw [hx, textB]
theorem txX : Ctr Tryz.prog 15 [exX.v] (fun x => x = .str []) := (text_spec exX okX).weak fun x hx => by
  rw [hx]
  unfold textR
  rw [if_neg (by decide)]
theorem val1 : Ctr Tryz.prog 13 [sns exL, exA.v] (fun x => x = .bool true) := (valid_spec exL exA okA).weak fun x hx => by
  have : validB exL exA = true := by decide
  rw [hx, this]
theorem val2 : Ctr Tryz.prog 13 [sns [⟨0, 0, 5⟩], exA.v] (fun x => x = .bool false) := (valid_spec [⟨0, 0, 5⟩] exA okA).weak fun x hx => by
  have : validB [⟨0, 0, 5⟩] exA = false := by decide
  rw [hx, this]
theorem cmp1 : Ctr Tryz.prog 17 [exB.v, exA.v] (fun x => x = .int .i64 (-1)) := (compare_spec exB exA (by decide)).weak fun x hx => by
  have : cmpR exB exA = -1 := by decide
  rw [hx, this]
theorem cmp2 : Ctr Tryz.prog 17 [exA.v, exA.v] (fun x => x = .int .i64 0) := (compare_spec exA exA (by decide)).weak fun x hx => by rw [hx, cmpR_ok.self]
set_option maxHeartbeats 4000000 in
set_option maxRecDepth 100000 in
theorem head_spec : Ctr Tryz.prog 9 [] (fun r => r = .bool true) := by
  refine Ctr.lits ?_
  refine Ctr.of_body Tryz.func9 rfl tys_ok (by kernel_rfl) ?_
  conv => whnf
  repeat (first | refine ACode.seq ?_ | (refine ACode.s_reg tys_ok ?_; conv => whnf) | refine ACode.s_block ?_ | refine ACode.s_scope ?_ | (refine ACode.s_cond ?_; conv => whnf) | (refine ACode.s_exit ?_; conv => whnf) | (refine ACode.s_ret ?_; conv => whnf) | (refine ACode.s_skip ?_; conv => whnf) | (refine ACode.s_label ?_; conv => whnf))
  refine ACall.of_spec (example_spec) rfl fun r hr => ?_
  subst hr
  conv => whnf
  repeat (first | refine ACode.seq ?_ | (refine ACode.s_reg tys_ok ?_; conv => whnf) | refine ACode.s_block ?_ | refine ACode.s_scope ?_ | (refine ACode.s_cond ?_; conv => whnf) | (refine ACode.s_exit ?_; conv => whnf) | (refine ACode.s_ret ?_; conv => whnf) | (refine ACode.s_skip ?_; conv => whnf) | (refine ACode.s_label ?_; conv => whnf))
  refine ACall.freeze 2 ?_ (by kernel_rfl)
  conv => whnf
  refine ⟨closed4 rfl rfl rfl rfl, ?_⟩
  conv => whnf
  repeat (refine ⟨(by first | rfl | (simp; done) : (_ : Nat) = _), ?_⟩; conv => whnf)
  refine ACall.args1 (args' := [sns exL, rcs [exA, exB, exA, zeroR]]) (by repeat' first | exact trivial | exact rfl | refine ⟨?_, ?_⟩) ?_
  refine ACall.of_spec (normal_ex) rfl fun r hr => ?_
  subst hr
  conv => whnf
  repeat (first | refine ACode.seq ?_ | (refine ACode.s_reg tys_ok ?_; conv => whnf) | refine ACode.s_block ?_ | refine ACode.s_scope ?_ | (refine ACode.s_cond ?_; conv => whnf) | (refine ACode.s_exit ?_; conv => whnf) | (refine ACode.s_ret ?_; conv => whnf) | (refine ACode.s_skip ?_; conv => whnf) | (refine ACode.s_label ?_; conv => whnf))
  refine ACall.of_spec (parse_yes (by decide) compB textB) rfl fun r hr => ?_
  subst hr
  conv => whnf
  repeat (first | refine ACode.seq ?_ | (refine ACode.s_reg tys_ok ?_; conv => whnf) | refine ACode.s_block ?_ | refine ACode.s_scope ?_ | (refine ACode.s_cond ?_; conv => whnf) | (refine ACode.s_exit ?_; conv => whnf) | (refine ACode.s_ret ?_; conv => whnf) | (refine ACode.s_skip ?_; conv => whnf) | (refine ACode.s_label ?_; conv => whnf))
  refine ACall.of_spec (parse_no (by decide) none2) rfl fun r hr => ?_
  subst hr
  conv => whnf
  repeat (first | refine ACode.seq ?_ | (refine ACode.s_reg tys_ok ?_; conv => whnf) | refine ACode.s_block ?_ | refine ACode.s_scope ?_ | (refine ACode.s_cond ?_; conv => whnf) | (refine ACode.s_exit ?_; conv => whnf) | (refine ACode.s_ret ?_; conv => whnf) | (refine ACode.s_skip ?_; conv => whnf) | (refine ACode.s_label ?_; conv => whnf))
  refine ACall.of_spec (parse_no (by decide) none3) rfl fun r hr => ?_
  subst hr
  conv => whnf
  repeat (first | refine ACode.seq ?_ | (refine ACode.s_reg tys_ok ?_; conv => whnf) | refine ACode.s_block ?_ | refine ACode.s_scope ?_ | (refine ACode.s_cond ?_; conv => whnf) | (refine ACode.s_exit ?_; conv => whnf) | (refine ACode.s_ret ?_; conv => whnf) | (refine ACode.s_skip ?_; conv => whnf) | (refine ACode.s_label ?_; conv => whnf))
  refine ACode.draw [] tys_ok (by kernel_rfl) (by kernel_rfl) ?_
  conv => whnf
  refine ⟨⟨rfl, closed2 rfl rfl⟩, ?_⟩
  conv => whnf
  refine ⟨_, ⟨same_ex, rfl⟩, ?_⟩
  conv => whnf
  refine ⟨fun _ => ?_, fun h => absurd h (by decide)⟩
  conv => whnf
  refine ⟨fun _ => ?_, fun h => absurd h (by decide)⟩
  conv => whnf
  refine ⟨_, ⟨cmp_ex, rfl⟩, ?_⟩
  conv => whnf
  refine ⟨fun _ => ?_, fun h => absurd h (by decide)⟩
  conv => whnf
  refine ⟨fun _ => ?_, fun h => absurd h (by decide)⟩
  conv => whnf
  refine ⟨fun _ => ?_, fun h => absurd h (by decide)⟩
  conv => whnf
  refine ⟨_, ⟨txA, rfl⟩, ?_⟩
  conv => whnf
  refine ⟨fun _ => ?_, fun h => absurd h (by decide)⟩
  conv => whnf
  refine ⟨_, ⟨txB, rfl⟩, ?_⟩
  conv => whnf
  refine ⟨fun _ => ?_, fun h => absurd h (by decide)⟩
  conv => whnf
  refine ⟨_, ⟨txX, rfl⟩, ?_⟩
  conv => whnf
  refine ⟨fun _ => ?_, fun h => absurd h (by decide)⟩
  conv => whnf
  refine ⟨_, ⟨val1, rfl⟩, ?_⟩
  conv => whnf
  refine ⟨fun _ => ?_, fun h => absurd h (by decide)⟩
  conv => whnf
  refine ⟨by decide, ?_⟩
  conv => whnf
  refine ⟨_, ⟨val2, rfl⟩, ?_⟩
  conv => whnf
  refine ⟨fun h => absurd h (by decide), fun _ => ?_⟩
  conv => whnf
  refine ⟨_, ⟨cmp1, rfl⟩, ?_⟩
  conv => whnf
  refine ⟨fun _ => ?_, fun h => absurd h (by decide)⟩
  conv => whnf
  refine ⟨_, ⟨cmp2, rfl⟩, ?_⟩
  conv => whnf
  refine ⟨fun _ => ?_, fun h => absurd h (by decide)⟩
  conv => whnf
  repeat (first | refine ACode.seq ?_ | (refine ACode.s_reg tys_ok ?_; conv => whnf) | refine ACode.s_block ?_ | refine ACode.s_scope ?_ | (refine ACode.s_cond ?_; conv => whnf) | (refine ACode.s_exit ?_; conv => whnf) | (refine ACode.s_ret ?_; conv => whnf) | (refine ACode.s_skip ?_; conv => whnf) | (refine ACode.s_label ?_; conv => whnf))
  exact .inr rfl
end Go.Proofs.YtiojkoaefabjbaaGreatDoor
