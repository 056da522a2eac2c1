/-
  The reference: formed.
-/
import Derived.Test.YtkmhjamdgncpoaaDoorR4
set_option linter.unusedVariables false
set_option linter.unusedSimpArgs false
namespace Go.Proofs.YtkmhjamdgncpoaaDoor
open Go.Av Go.Shelf Pl Go.RowKit
abbrev chA (da ki sr : Int) (co tw na : Bs) (lo hi sh : Int) : AV := .agg [.int .i64 da, .int .i64 ki, .int .i64 sr, .str co, .str tw, .str na, .int .i64 lo, .int .i64 hi, .int .i64 sh]
set_option maxRecDepth 100000 in
set_option maxHeartbeats 4000000 in
theorem formed1 (da sr : Int) (co tw na : Bs) (lo hi sh : Int) (h1 : na.length ≤ 1000) (h2 : co.length ≤ 1000) (h3 : tw.length ≤ 1000) : Ctr Tryd.prog 41 [chA da 1 sr co tw na lo hi sh] (fun r => r = .bool (dayB da && usesB ⟨da, 1, sr, co, tw, na, lo, hi, sh⟩)) := by
  refine Ctr.of_body Tryd.func41 rfl tys_ok (by kernel_rfl) ?_
  conv => whnf
  repeat (first | refine ACode.seq ?_ | (refine ACode.s_reg tys_ok ?_; conv => whnf) | refine ACode.s_block ?_ | refine ACode.s_scope ?_ | (refine ACode.s_cond ?_; conv => whnf) | (refine ACode.s_exit ?_; conv => whnf) | (refine ACode.s_ret ?_; conv => whnf) | (refine ACode.s_skip ?_; conv => whnf) | (refine ACode.s_label ?_; conv => whnf))
  repeat' (first | (refine ⟨fun _ => ?_, fun h => absurd h (by decide +kernel)⟩; conv => whnf) | (refine ⟨fun h => absurd h (by decide +kernel), fun _ => ?_⟩; conv => whnf) | (refine And.intro (fun _ => ?_) (fun _ => ?_) <;> conv => whnf) | (refine ACall.of_spec (rIsName_spec na h1) rfl fun r hr => ?_; subst hr; conv => whnf) | (refine ACall.of_spec (rIsCode_spec co h2) rfl fun r hr => ?_; subst hr; conv => whnf) | (refine ACall.of_spec (rIsName_spec tw h3) rfl fun r hr => ?_; subst hr; conv => whnf) | (refine ACall.of_spec (house_spec lo) rfl fun r hr => ?_; subst hr; conv => whnf) | (refine ACall.of_spec (house_spec hi) rfl fun r hr => ?_; subst hr; conv => whnf) | refine ACode.seq ?_ | (refine ACode.s_reg tys_ok ?_; conv => whnf) | refine ACode.s_block ?_ | refine ACode.s_scope ?_ | (refine ACode.s_cond ?_; conv => whnf) | (refine ACode.s_exit ?_; conv => whnf) | (refine ACode.s_ret ?_; conv => whnf) | (refine ACode.s_skip ?_; conv => whnf) | (refine ACode.s_label ?_; conv => whnf))
  all_goals clear h1 h2 h3
  all_goals (refine congrArg AV.bool ?_; unfold dayB usesB; simp_all <;> omega)
set_option maxRecDepth 100000 in
set_option maxHeartbeats 4000000 in
theorem formed2 (da sr : Int) (co tw na : Bs) (lo hi sh : Int) (h1 : na.length ≤ 1000) (h2 : co.length ≤ 1000) (h3 : tw.length ≤ 1000) : Ctr Tryd.prog 41 [chA da 2 sr co tw na lo hi sh] (fun r => r = .bool (dayB da && usesB ⟨da, 2, sr, co, tw, na, lo, hi, sh⟩)) := by
  refine Ctr.of_body Tryd.func41 rfl tys_ok (by kernel_rfl) ?_
  conv => whnf
  repeat (first | refine ACode.seq ?_ | (refine ACode.s_reg tys_ok ?_; conv => whnf) | refine ACode.s_block ?_ | refine ACode.s_scope ?_ | (refine ACode.s_cond ?_; conv => whnf) | (refine ACode.s_exit ?_; conv => whnf) | (refine ACode.s_ret ?_; conv => whnf) | (refine ACode.s_skip ?_; conv => whnf) | (refine ACode.s_label ?_; conv => whnf))
  repeat' (first | (refine ⟨fun _ => ?_, fun h => absurd h (by decide +kernel)⟩; conv => whnf) | (refine ⟨fun h => absurd h (by decide +kernel), fun _ => ?_⟩; conv => whnf) | (refine And.intro (fun _ => ?_) (fun _ => ?_) <;> conv => whnf) | (refine ACall.of_spec (rIsName_spec na h1) rfl fun r hr => ?_; subst hr; conv => whnf) | (refine ACall.of_spec (rIsCode_spec co h2) rfl fun r hr => ?_; subst hr; conv => whnf) | (refine ACall.of_spec (rIsName_spec tw h3) rfl fun r hr => ?_; subst hr; conv => whnf) | (refine ACall.of_spec (house_spec lo) rfl fun r hr => ?_; subst hr; conv => whnf) | (refine ACall.of_spec (house_spec hi) rfl fun r hr => ?_; subst hr; conv => whnf) | refine ACode.seq ?_ | (refine ACode.s_reg tys_ok ?_; conv => whnf) | refine ACode.s_block ?_ | refine ACode.s_scope ?_ | (refine ACode.s_cond ?_; conv => whnf) | (refine ACode.s_exit ?_; conv => whnf) | (refine ACode.s_ret ?_; conv => whnf) | (refine ACode.s_skip ?_; conv => whnf) | (refine ACode.s_label ?_; conv => whnf))
  all_goals clear h1 h2 h3
  all_goals (refine congrArg AV.bool ?_; unfold dayB usesB; simp_all <;> omega)
set_option maxRecDepth 100000 in
set_option maxHeartbeats 4000000 in
theorem formed3 (da sr : Int) (co tw na : Bs) (lo hi sh : Int) (h1 : na.length ≤ 1000) (h2 : co.length ≤ 1000) (h3 : tw.length ≤ 1000) : Ctr Tryd.prog 41 [chA da 3 sr co tw na lo hi sh] (fun r => r = .bool (dayB da && usesB ⟨da, 3, sr, co, tw, na, lo, hi, sh⟩)) := by
  refine Ctr.of_body Tryd.func41 rfl tys_ok (by kernel_rfl) ?_
  conv => whnf
  repeat (first | refine ACode.seq ?_ | (refine ACode.s_reg tys_ok ?_; conv => whnf) | refine ACode.s_block ?_ | refine ACode.s_scope ?_ | (refine ACode.s_cond ?_; conv => whnf) | (refine ACode.s_exit ?_; conv => whnf) | (refine ACode.s_ret ?_; conv => whnf) | (refine ACode.s_skip ?_; conv => whnf) | (refine ACode.s_label ?_; conv => whnf))
  repeat' (first | (refine ⟨fun _ => ?_, fun h => absurd h (by decide +kernel)⟩; conv => whnf) | (refine ⟨fun h => absurd h (by decide +kernel), fun _ => ?_⟩; conv => whnf) | (refine And.intro (fun _ => ?_) (fun _ => ?_) <;> conv => whnf) | (refine ACall.of_spec (rIsName_spec na h1) rfl fun r hr => ?_; subst hr; conv => whnf) | (refine ACall.of_spec (rIsCode_spec co h2) rfl fun r hr => ?_; subst hr; conv => whnf) | (refine ACall.of_spec (rIsName_spec tw h3) rfl fun r hr => ?_; subst hr; conv => whnf) | (refine ACall.of_spec (house_spec lo) rfl fun r hr => ?_; subst hr; conv => whnf) | (refine ACall.of_spec (house_spec hi) rfl fun r hr => ?_; subst hr; conv => whnf) | refine ACode.seq ?_ | (refine ACode.s_reg tys_ok ?_; conv => whnf) | refine ACode.s_block ?_ | refine ACode.s_scope ?_ | (refine ACode.s_cond ?_; conv => whnf) | (refine ACode.s_exit ?_; conv => whnf) | (refine ACode.s_ret ?_; conv => whnf) | (refine ACode.s_skip ?_; conv => whnf) | (refine ACode.s_label ?_; conv => whnf))
  all_goals clear h1 h2 h3
  all_goals (refine congrArg AV.bool ?_; unfold dayB usesB; simp_all <;> omega)
set_option maxRecDepth 100000 in
set_option maxHeartbeats 4000000 in
theorem formed4 (da sr : Int) (co tw na : Bs) (lo hi sh : Int) (h1 : na.length ≤ 1000) (h2 : co.length ≤ 1000) (h3 : tw.length ≤ 1000) : Ctr Tryd.prog 41 [chA da 4 sr co tw na lo hi sh] (fun r => r = .bool (dayB da && usesB ⟨da, 4, sr, co, tw, na, lo, hi, sh⟩)) := by
  refine Ctr.of_body Tryd.func41 rfl tys_ok (by kernel_rfl) ?_
  conv => whnf
  repeat (first | refine ACode.seq ?_ | (refine ACode.s_reg tys_ok ?_; conv => whnf) | refine ACode.s_block ?_ | refine ACode.s_scope ?_ | (refine ACode.s_cond ?_; conv => whnf) | (refine ACode.s_exit ?_; conv => whnf) | (refine ACode.s_ret ?_; conv => whnf) | (refine ACode.s_skip ?_; conv => whnf) | (refine ACode.s_label ?_; conv => whnf))
  repeat' (first | (refine ⟨fun _ => ?_, fun h => absurd h (by decide +kernel)⟩; conv => whnf) | (refine ⟨fun h => absurd h (by decide +kernel), fun _ => ?_⟩; conv => whnf) | (refine And.intro (fun _ => ?_) (fun _ => ?_) <;> conv => whnf) | (refine ACall.of_spec (rIsName_spec na h1) rfl fun r hr => ?_; subst hr; conv => whnf) | (refine ACall.of_spec (rIsCode_spec co h2) rfl fun r hr => ?_; subst hr; conv => whnf) | (refine ACall.of_spec (rIsName_spec tw h3) rfl fun r hr => ?_; subst hr; conv => whnf) | (refine ACall.of_spec (house_spec lo) rfl fun r hr => ?_; subst hr; conv => whnf) | (refine ACall.of_spec (house_spec hi) rfl fun r hr => ?_; subst hr; conv => whnf) | refine ACode.seq ?_ | (refine ACode.s_reg tys_ok ?_; conv => whnf) | refine ACode.s_block ?_ | refine ACode.s_scope ?_ | (refine ACode.s_cond ?_; conv => whnf) | (refine ACode.s_exit ?_; conv => whnf) | (refine ACode.s_ret ?_; conv => whnf) | (refine ACode.s_skip ?_; conv => whnf) | (refine ACode.s_label ?_; conv => whnf))
  all_goals clear h1 h2 h3
  all_goals (refine congrArg AV.bool ?_; unfold dayB usesB; simp_all <;> omega)
set_option maxRecDepth 100000 in
set_option maxHeartbeats 4000000 in
theorem formed5 (da sr : Int) (co tw na : Bs) (lo hi sh : Int) (h1 : na.length ≤ 1000) (h2 : co.length ≤ 1000) (h3 : tw.length ≤ 1000) : Ctr Tryd.prog 41 [chA da 5 sr co tw na lo hi sh] (fun r => r = .bool (dayB da && usesB ⟨da, 5, sr, co, tw, na, lo, hi, sh⟩)) := by
  refine Ctr.of_body Tryd.func41 rfl tys_ok (by kernel_rfl) ?_
  conv => whnf
  repeat (first | refine ACode.seq ?_ | (refine ACode.s_reg tys_ok ?_; conv => whnf) | refine ACode.s_block ?_ | refine ACode.s_scope ?_ | (refine ACode.s_cond ?_; conv => whnf) | (refine ACode.s_exit ?_; conv => whnf) | (refine ACode.s_ret ?_; conv => whnf) | (refine ACode.s_skip ?_; conv => whnf) | (refine ACode.s_label ?_; conv => whnf))
  repeat' (first | (refine ⟨fun _ => ?_, fun h => absurd h (by decide +kernel)⟩; conv => whnf) | (refine ⟨fun h => absurd h (by decide +kernel), fun _ => ?_⟩; conv => whnf) | (refine And.intro (fun _ => ?_) (fun _ => ?_) <;> conv => whnf) | (refine ACall.of_spec (rIsName_spec na h1) rfl fun r hr => ?_; subst hr; conv => whnf) | (refine ACall.of_spec (rIsCode_spec co h2) rfl fun r hr => ?_; subst hr; conv => whnf) | (refine ACall.of_spec (rIsName_spec tw h3) rfl fun r hr => ?_; subst hr; conv => whnf) | (refine ACall.of_spec (house_spec lo) rfl fun r hr => ?_; subst hr; conv => whnf) | (refine ACall.of_spec (house_spec hi) rfl fun r hr => ?_; subst hr; conv => whnf) | refine ACode.seq ?_ | (refine ACode.s_reg tys_ok ?_; conv => whnf) | refine ACode.s_block ?_ | refine ACode.s_scope ?_ | (refine ACode.s_cond ?_; conv => whnf) | (refine ACode.s_exit ?_; conv => whnf) | (refine ACode.s_ret ?_; conv => whnf) | (refine ACode.s_skip ?_; conv => whnf) | (refine ACode.s_label ?_; conv => whnf))
  all_goals clear h1 h2 h3
  all_goals (refine congrArg AV.bool ?_; unfold dayB usesB; simp_all <;> omega)
set_option maxRecDepth 100000 in
set_option maxHeartbeats 4000000 in
theorem formed6 (da sr : Int) (co tw na : Bs) (lo hi sh : Int) (h1 : na.length ≤ 1000) (h2 : co.length ≤ 1000) (h3 : tw.length ≤ 1000) : Ctr Tryd.prog 41 [chA da 6 sr co tw na lo hi sh] (fun r => r = .bool (dayB da && usesB ⟨da, 6, sr, co, tw, na, lo, hi, sh⟩)) := by
  refine Ctr.of_body Tryd.func41 rfl tys_ok (by kernel_rfl) ?_
  conv => whnf
  repeat (first | refine ACode.seq ?_ | (refine ACode.s_reg tys_ok ?_; conv => whnf) | refine ACode.s_block ?_ | refine ACode.s_scope ?_ | (refine ACode.s_cond ?_; conv => whnf) | (refine ACode.s_exit ?_; conv => whnf) | (refine ACode.s_ret ?_; conv => whnf) | (refine ACode.s_skip ?_; conv => whnf) | (refine ACode.s_label ?_; conv => whnf))
  repeat' (first | (refine ⟨fun _ => ?_, fun h => absurd h (by decide +kernel)⟩; conv => whnf) | (refine ⟨fun h => absurd h (by decide +kernel), fun _ => ?_⟩; conv => whnf) | (refine And.intro (fun _ => ?_) (fun _ => ?_) <;> conv => whnf) | (refine ACall.of_spec (rIsName_spec na h1) rfl fun r hr => ?_; subst hr; conv => whnf) | (refine ACall.of_spec (rIsCode_spec co h2) rfl fun r hr => ?_; subst hr; conv => whnf) | (refine ACall.of_spec (rIsName_spec tw h3) rfl fun r hr => ?_; subst hr; conv => whnf) | (refine ACall.of_spec (house_spec lo) rfl fun r hr => ?_; subst hr; conv => whnf) | (refine ACall.of_spec (house_spec hi) rfl fun r hr => ?_; subst hr; conv => whnf) | refine ACode.seq ?_ | (refine ACode.s_reg tys_ok ?_; conv => whnf) | refine ACode.s_block ?_ | refine ACode.s_scope ?_ | (refine ACode.s_cond ?_; conv => whnf) | (refine ACode.s_exit ?_; conv => whnf) | (refine ACode.s_ret ?_; conv => whnf) | (refine ACode.s_skip ?_; conv => whnf) | (refine ACode.s_label ?_; conv => whnf))
  all_goals clear h1 h2 h3
  all_goals (refine congrArg AV.bool ?_; unfold dayB usesB; simp_all <;> omega)
end Go.Proofs.YtkmhjamdgncpoaaDoor
