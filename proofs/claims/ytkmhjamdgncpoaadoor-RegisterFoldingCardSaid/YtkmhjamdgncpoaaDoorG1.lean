/-
  The examples have the results that are written down.
-/
import Derived.Test.YtkmhjamdgncpoaaDoorR9
import Derived.KernelRfl
set_option linter.unusedVariables false
set_option linter.unusedSimpArgs false
namespace Go.Proofs.YtkmhjamdgncpoaaDoor
open Go.Av Go.Shelf Pl Go.RowKit
def exR : List Ch := [⟨0, 1, 0, [49, 48, 48, 48], [84, 111, 119, 110], [77, 97, 105, 110, 32, 83, 116, 114, 101, 101, 116], 1, 20, 0⟩, ⟨5, 4, 0, [], [], [], 0, 0, 100⟩, ⟨5, 5, 0, [], [], [72, 105, 103, 104, 32, 83, 116], 0, 0, 0⟩, ⟨9, 2, 0, [], [], [66, 114, 111, 97, 100, 32, 87, 97, 121], 0, 0, 0⟩, ⟨30, 6, 0, [], [], [], 0, 0, 0⟩]
def clR (n : Int) : List Ch := [⟨0, 1, 0, [49, 48, 48, 48], [84, 111, 119, 110], [77, 97, 105, 110, 32, 83, 116, 114, 101, 101, 116], 1, 20, 0⟩, ⟨5, 4, 0, [], [], [], 0, 0, 100⟩, ⟨5, 5, 0, [], [], [72, 105, 103, 104, 32, 83, 116], 0, 0, 0⟩, ⟨9, 2, 0, [], [], [66, 114, 111, 97, 100, 32, 87, 97, 121], 0, 0, 0⟩, ⟨10, 1, 0, [49, 48, 48, 48], [84, 111, 119, 110], [104, 105, 103, 104, 32, 115, 116], n, 130, 0⟩]
def clX : List Ch := [⟨0, 6, 0, [], [], [], 0, 0, 0⟩]
theorem find1 : findP exR 0 ⟨[], [109, 97, 105, 110, 32, 115, 116, 114, 101, 101, 116], 7, [49, 48, 48, 48], []⟩ = (⟨0, 7⟩, 0) := by kernel_rfl
theorem find2 : findP exR 5 ⟨[], [77, 97, 105, 110, 32, 83, 116, 114, 101, 101, 116], 107, [49, 48, 48, 48], []⟩ = (⟨0, 7⟩, 0) := by kernel_rfl
theorem find3 : findP exR 5 ⟨[], [77, 97, 105, 110, 32, 83, 116, 114, 101, 101, 116], 7, [49, 48, 48, 48], []⟩ = (pt0, 3) := by kernel_rfl
theorem find4 : findP exR 9 ⟨[], [72, 73, 71, 72, 32, 83, 84], 107, [49, 48, 48, 48], []⟩ = (⟨0, 7⟩, 0) := by kernel_rfl
theorem name1 : nameP exR 9 ⟨0, 7⟩ = (⟨[], [66, 114, 111, 97, 100, 32, 87, 97, 121], 107, [49, 48, 48, 48], [84, 111, 119, 110]⟩, 0) := by kernel_rfl
theorem name2 : nameP exR 30 ⟨0, 7⟩ = (ad0, 3) := by kernel_rfl
theorem chk1 : (buildS (clR 120)).2 = (51, 4) := by kernel_rfl
theorem chk2 : (buildS (clR 121)).2 = (0, -1) := by kernel_rfl
theorem chk3 : (buildS clX).2 = (3, 0) := by kernel_rfl
theorem at1 : atP exR 8 = [⟨[49, 48, 48, 48], [84, 111, 119, 110], [77, 97, 105, 110, 32, 83, 116, 114, 101, 101, 116], [[72, 105, 103, 104, 32, 83, 116]], 101, 120, 100, true⟩] := by kernel_rfl
theorem find_t {r : List Ch} {day : Int} {a : Ad} {x : Pt} {e : Int} (h : findP r day a = (x, e)) : Ctr Tryd.prog 16 [chs r, .int .i64 day, a.v] (fun y => y = .tuple [x.v, .int .i64 e]) := by
  have := Find_spec r day a; rwa [h] at this
theorem name_t {r : List Ch} {day : Int} {p : Pt} {x : Ad} {e : Int} (h : nameP r day p = (x, e)) : Ctr Tryd.prog 15 [chs r, .int .i64 day, p.v] (fun y => y = .tuple [x.v, .int .i64 e]) := by
  have := Name_spec r day p; rwa [h] at this
theorem check_t {r : List Ch} {e i : Int} (h : (buildS r).2 = (e, i)) : Ctr Tryd.prog 12 [chs r] (fun y => y = .tuple [.int .i64 e, .int .i64 i]) := by
  have := Check_spec r; rwa [h] at this
theorem at_t {r : List Ch} {day : Int} {l : List St} (h : atP r day = l) : Ctr Tryd.prog 13 [chs r, .int .i64 day] (fun y => y = sts l) := by
  have := At_spec r day; rwa [h] at this
set_option maxRecDepth 100000 in
theorem example_spec : Ctr Tryd.prog 20 [] (fun r => r = chs exR) := by
  refine Ctr.of_body Tryd.func20 rfl tys_ok (by kernel_rfl) ?_
  conv => whnf
  repeat (first | refine ACode.seq ?_ | (refine ACode.s_reg tys_ok ?_; conv => whnf) | refine ACode.s_block ?_ | refine ACode.s_scope ?_ | (refine ACode.s_cond ?_; conv => whnf) | (refine ACode.s_exit ?_; conv => whnf) | (refine ACode.s_ret ?_; conv => whnf) | (refine ACode.s_skip ?_; conv => whnf) | (refine ACode.s_label ?_; conv => whnf))
  refine ⟨⟨rfl, by simp [closed, closeds]⟩, ?_⟩
  conv => whnf
  repeat (first | refine ACode.seq ?_ | (refine ACode.s_reg tys_ok ?_; conv => whnf) | refine ACode.s_block ?_ | refine ACode.s_scope ?_ | (refine ACode.s_cond ?_; conv => whnf) | (refine ACode.s_exit ?_; conv => whnf) | (refine ACode.s_ret ?_; conv => whnf) | (refine ACode.s_skip ?_; conv => whnf) | (refine ACode.s_label ?_; conv => whnf))
  rfl
theorem clR_closed (n : Int) : ∀ e ∈ (clR n).map Ch.v, closed e = true := by
  intro e he
  obtain ⟨c, _, rfl⟩ := List.mem_map.1 he
  rfl
theorem clX_closed : ∀ e ∈ clX.map Ch.v, closed e = true := by
  intro e he
  obtain ⟨c, _, rfl⟩ := List.mem_map.1 he
  rfl
set_option maxHeartbeats 4000000 in
set_option maxRecDepth 100000 in
theorem head_spec : Ctr Tryd.prog 10 [] (fun r => r = .bool true) := by
  refine Ctr.of_body Tryd.func10 rfl tys_ok (by kernel_rfl) ?_
  conv => whnf
  repeat (first | refine ACode.seq ?_ | (refine ACode.s_reg tys_ok ?_; conv => whnf) | refine ACode.s_block ?_ | refine ACode.s_scope ?_ | (refine ACode.s_cond ?_; conv => whnf) | (refine ACode.s_exit ?_; conv => whnf) | (refine ACode.s_ret ?_; conv => whnf) | (refine ACode.s_skip ?_; conv => whnf) | (refine ACode.s_label ?_; conv => whnf))
  refine ACall.of_spec (example_spec) rfl fun r hr => ?_
  subst hr
  conv => whnf
  repeat (first | refine ACode.seq ?_ | (refine ACode.s_reg tys_ok ?_; conv => whnf) | refine ACode.s_block ?_ | refine ACode.s_scope ?_ | (refine ACode.s_cond ?_; conv => whnf) | (refine ACode.s_exit ?_; conv => whnf) | (refine ACode.s_ret ?_; conv => whnf) | (refine ACode.s_skip ?_; conv => whnf) | (refine ACode.s_label ?_; conv => whnf))
  refine ACall.of_spec (find_t find1) rfl fun r hr => ?_
  subst hr
  conv => whnf
  repeat (first | refine ACode.seq ?_ | (refine ACode.s_reg tys_ok ?_; conv => whnf) | refine ACode.s_block ?_ | refine ACode.s_scope ?_ | (refine ACode.s_cond ?_; conv => whnf) | (refine ACode.s_exit ?_; conv => whnf) | (refine ACode.s_ret ?_; conv => whnf) | (refine ACode.s_skip ?_; conv => whnf) | (refine ACode.s_label ?_; conv => whnf))
  refine ACall.of_spec (find_t find2) rfl fun r hr => ?_
  subst hr
  conv => whnf
  repeat (first | refine ACode.seq ?_ | (refine ACode.s_reg tys_ok ?_; conv => whnf) | refine ACode.s_block ?_ | refine ACode.s_scope ?_ | (refine ACode.s_cond ?_; conv => whnf) | (refine ACode.s_exit ?_; conv => whnf) | (refine ACode.s_ret ?_; conv => whnf) | (refine ACode.s_skip ?_; conv => whnf) | (refine ACode.s_label ?_; conv => whnf))
  refine ACall.of_spec (find_t find3) rfl fun r hr => ?_
  subst hr
  conv => whnf
  repeat (first | refine ACode.seq ?_ | (refine ACode.s_reg tys_ok ?_; conv => whnf) | refine ACode.s_block ?_ | refine ACode.s_scope ?_ | (refine ACode.s_cond ?_; conv => whnf) | (refine ACode.s_exit ?_; conv => whnf) | (refine ACode.s_ret ?_; conv => whnf) | (refine ACode.s_skip ?_; conv => whnf) | (refine ACode.s_label ?_; conv => whnf))
  refine ACall.of_spec (name_t name1) rfl fun r hr => ?_
  subst hr
  conv => whnf
  repeat (first | refine ACode.seq ?_ | (refine ACode.s_reg tys_ok ?_; conv => whnf) | refine ACode.s_block ?_ | refine ACode.s_scope ?_ | (refine ACode.s_cond ?_; conv => whnf) | (refine ACode.s_exit ?_; conv => whnf) | (refine ACode.s_ret ?_; conv => whnf) | (refine ACode.s_skip ?_; conv => whnf) | (refine ACode.s_label ?_; conv => whnf))
  refine ACall.of_spec (find_t find4) rfl fun r hr => ?_
  subst hr
  conv => whnf
  repeat (first | refine ACode.seq ?_ | (refine ACode.s_reg tys_ok ?_; conv => whnf) | refine ACode.s_block ?_ | refine ACode.s_scope ?_ | (refine ACode.s_cond ?_; conv => whnf) | (refine ACode.s_exit ?_; conv => whnf) | (refine ACode.s_ret ?_; conv => whnf) | (refine ACode.s_skip ?_; conv => whnf) | (refine ACode.s_label ?_; conv => whnf))
  refine ACall.of_spec (name_t name2) rfl fun r hr => ?_
  subst hr
  conv => whnf
  repeat (first | refine ACode.seq ?_ | (refine ACode.s_reg tys_ok ?_; conv => whnf) | refine ACode.s_block ?_ | refine ACode.s_scope ?_ | (refine ACode.s_cond ?_; conv => whnf) | (refine ACode.s_exit ?_; conv => whnf) | (refine ACode.s_ret ?_; conv => whnf) | (refine ACode.s_skip ?_; conv => whnf) | (refine ACode.s_label ?_; conv => whnf))
  repeat (first | (refine ⟨fun _ => ?_, fun h => absurd h (by decide +kernel)⟩; conv => whnf) | (refine ⟨fun h => absurd h (by decide +kernel), fun _ => ?_⟩; conv => whnf) | (refine ⟨by decide, _, rfl, ?_⟩; conv => whnf) | refine ACode.seq ?_ | (refine ACode.s_reg tys_ok ?_; conv => whnf) | refine ACode.s_block ?_ | refine ACode.s_scope ?_ | (refine ACode.s_cond ?_; conv => whnf) | (refine ACode.s_exit ?_; conv => whnf) | (refine ACode.s_ret ?_; conv => whnf) | (refine ACode.s_skip ?_; conv => whnf) | (refine ACode.s_label ?_; conv => whnf))
  refine ⟨by decide, ?_⟩
  conv => whnf
  repeat (first | refine ACode.seq ?_ | (refine ACode.s_reg tys_ok ?_; conv => whnf) | refine ACode.s_block ?_ | refine ACode.s_scope ?_ | (refine ACode.s_cond ?_; conv => whnf) | (refine ACode.s_exit ?_; conv => whnf) | (refine ACode.s_ret ?_; conv => whnf) | (refine ACode.s_skip ?_; conv => whnf) | (refine ACode.s_label ?_; conv => whnf))
  refine ⟨⟨rfl, by decide⟩, ?_⟩
  conv => whnf
  repeat (first | refine ACode.seq ?_ | (refine ACode.s_reg tys_ok ?_; conv => whnf) | refine ACode.s_block ?_ | refine ACode.s_scope ?_ | (refine ACode.s_cond ?_; conv => whnf) | (refine ACode.s_exit ?_; conv => whnf) | (refine ACode.s_ret ?_; conv => whnf) | (refine ACode.s_skip ?_; conv => whnf) | (refine ACode.s_label ?_; conv => whnf))
  refine ⟨rfl, ⟨rfl, by decide⟩, ?_⟩
  conv => whnf
  repeat (first | refine ACode.seq ?_ | (refine ACode.s_reg tys_ok ?_; conv => whnf) | refine ACode.s_block ?_ | refine ACode.s_scope ?_ | (refine ACode.s_cond ?_; conv => whnf) | (refine ACode.s_exit ?_; conv => whnf) | (refine ACode.s_ret ?_; conv => whnf) | (refine ACode.s_skip ?_; conv => whnf) | (refine ACode.s_label ?_; conv => whnf))
  refine ACall.of_vcall ⟨⟨rfl, clR_closed _⟩, _, ⟨check_t chk1, rfl⟩, ?_⟩ (by kernel_rfl)
  conv => whnf
  repeat (first | refine ACode.seq ?_ | (refine ACode.s_reg tys_ok ?_; conv => whnf) | refine ACode.s_block ?_ | refine ACode.s_scope ?_ | (refine ACode.s_cond ?_; conv => whnf) | (refine ACode.s_exit ?_; conv => whnf) | (refine ACode.s_ret ?_; conv => whnf) | (refine ACode.s_skip ?_; conv => whnf) | (refine ACode.s_label ?_; conv => whnf))
  refine ⟨by decide, ?_⟩
  conv => whnf
  repeat (first | refine ACode.seq ?_ | (refine ACode.s_reg tys_ok ?_; conv => whnf) | refine ACode.s_block ?_ | refine ACode.s_scope ?_ | (refine ACode.s_cond ?_; conv => whnf) | (refine ACode.s_exit ?_; conv => whnf) | (refine ACode.s_ret ?_; conv => whnf) | (refine ACode.s_skip ?_; conv => whnf) | (refine ACode.s_label ?_; conv => whnf))
  refine ⟨_, rfl, ?_⟩
  conv => whnf
  repeat (first | refine ACode.seq ?_ | (refine ACode.s_reg tys_ok ?_; conv => whnf) | refine ACode.s_block ?_ | refine ACode.s_scope ?_ | (refine ACode.s_cond ?_; conv => whnf) | (refine ACode.s_exit ?_; conv => whnf) | (refine ACode.s_ret ?_; conv => whnf) | (refine ACode.s_skip ?_; conv => whnf) | (refine ACode.s_label ?_; conv => whnf))
  refine ACall.of_vcall ⟨⟨rfl, clR_closed _⟩, _, ⟨check_t chk2, rfl⟩, ?_⟩ (by kernel_rfl)
  conv => whnf
  repeat (first | refine ACode.seq ?_ | (refine ACode.s_reg tys_ok ?_; conv => whnf) | refine ACode.s_block ?_ | refine ACode.s_scope ?_ | (refine ACode.s_cond ?_; conv => whnf) | (refine ACode.s_exit ?_; conv => whnf) | (refine ACode.s_ret ?_; conv => whnf) | (refine ACode.s_skip ?_; conv => whnf) | (refine ACode.s_label ?_; conv => whnf))
  refine ACall.of_vcall ⟨⟨rfl, clX_closed⟩, _, ⟨check_t chk3, rfl⟩, ?_⟩ (by kernel_rfl)
  conv => whnf
  repeat (first | refine ACode.seq ?_ | (refine ACode.s_reg tys_ok ?_; conv => whnf) | refine ACode.s_block ?_ | refine ACode.s_scope ?_ | (refine ACode.s_cond ?_; conv => whnf) | (refine ACode.s_exit ?_; conv => whnf) | (refine ACode.s_ret ?_; conv => whnf) | (refine ACode.s_skip ?_; conv => whnf) | (refine ACode.s_label ?_; conv => whnf))
  refine ACall.of_spec (at_t at1) rfl fun r hr => ?_
  subst hr
  conv => whnf
  repeat (first | refine ACode.seq ?_ | (refine ACode.s_reg tys_ok ?_; conv => whnf) | refine ACode.s_block ?_ | refine ACode.s_scope ?_ | (refine ACode.s_cond ?_; conv => whnf) | (refine ACode.s_exit ?_; conv => whnf) | (refine ACode.s_ret ?_; conv => whnf) | (refine ACode.s_skip ?_; conv => whnf) | (refine ACode.s_label ?_; conv => whnf))
  repeat (first | (refine ⟨fun _ => ?_, fun h => absurd h (by decide +kernel)⟩; conv => whnf) | (refine ⟨fun h => absurd h (by decide +kernel), fun _ => ?_⟩; conv => whnf) | (refine ⟨by decide, _, rfl, ?_⟩; conv => whnf) | refine ACode.seq ?_ | (refine ACode.s_reg tys_ok ?_; conv => whnf) | refine ACode.s_block ?_ | refine ACode.s_scope ?_ | (refine ACode.s_cond ?_; conv => whnf) | (refine ACode.s_exit ?_; conv => whnf) | (refine ACode.s_ret ?_; conv => whnf) | (refine ACode.s_skip ?_; conv => whnf) | (refine ACode.s_label ?_; conv => whnf))
end Go.Proofs.YtkmhjamdgncpoaaDoor
