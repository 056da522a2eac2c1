import Derived.Test.YtmhlneeboefkgaaGreatDoorR2
import Derived.KernelRfl
set_option linter.unusedVariables false
set_option linter.unusedSimpArgs false
namespace Go.Proofs.YtmhlneeboefkgaaGreatDoor
open Go.Av Go.Av.Net
theorem empty_spec (n : Nw) (h : Sml n) : Ctr Tryz.prog 10 [netA n] (fun r => r = .bool (sameNwB n nw0)) := by
 refine Ctr.of_body Tryz.func10 rfl tys_ok (by kernel_rfl) ?_
 conv => whnf
 repeat (first | refine ACode.seq ?_ | (refine ACode.s_reg tys_ok ?_; conv => whnf) | refine ACode.s_block ?_ | refine ACode.s_scope ?_ | (refine ACode.s_cond ?_; conv => whnf) | (refine ACode.s_exit ?_; conv => whnf) | (refine ACode.s_ret ?_; conv => whnf) | (refine ACode.s_skip ?_; conv => whnf) | (refine ACode.s_label ?_; conv => whnf))
 refine ACall.args (args' := [netA n, netA nw0]) ⟨?_, ?_, trivial⟩ ?_
 ·exact ⟨rfl, rfl, rfl, rfl, rfl, rfl, trivial⟩
 ·exact ⟨trivial, trivial, trivial, trivial, trivial, trivial, trivial⟩
 refine ACall.of_spec (same_spec n nw0 h (by constructor <;> simp [nw0])) rfl fun r hr => ?_
 subst hr
 conv => whnf
 repeat (first | refine ACode.seq ?_ | (refine ACode.s_reg tys_ok ?_; conv => whnf) | refine ACode.s_block ?_ | refine ACode.s_scope ?_ | (refine ACode.s_cond ?_; conv => whnf) | (refine ACode.s_exit ?_; conv => whnf) | (refine ACode.s_ret ?_; conv => whnf) | (refine ACode.s_skip ?_; conv => whnf) | (refine ACode.s_label ?_; conv => whnf))
def srcB : Bs := [99, 97, 108, 101, 110, 100, 97, 114, 32, 99, 32, 123, 32, 122, 111, 110, 101, 32, 45, 54, 48, 59, 32, 119, 101, 101, 107, 32, 49, 49, 49, 49, 49, 48, 48, 59, 32, 104, 111, 108, 105, 100, 97, 121, 32, 52, 59, 32, 125, 32, 111, 112, 101, 114, 97, 116, 111, 114, 32, 112, 59, 32, 111, 102, 102, 105, 99, 101, 32, 97, 32, 123, 32, 111, 112, 101, 114, 97, 116, 111, 114, 32, 112, 59, 32, 99, 97, 108, 101, 110, 100, 97, 114, 32, 99, 59, 32, 112, 111, 99, 107, 101, 116, 115, 32, 52, 59, 32, 112, 97, 115, 115, 101, 115, 32, 50, 59, 32, 109, 105, 110, 117, 116, 101, 115, 32, 51, 48, 59, 32, 99, 111, 100, 101, 115, 32, 49, 48, 48, 48, 32, 83, 87, 49, 65, 59, 32, 125, 32, 111, 102, 102, 105, 99, 101, 32, 98, 32, 123, 32, 111, 112, 101, 114, 97, 116, 111, 114, 32, 112, 59, 32, 99, 97, 108, 101, 110, 100, 97, 114, 32, 99, 59, 32, 112, 111, 99, 107, 101, 116, 115, 32, 52, 59, 32, 112, 97, 115, 115, 101, 115, 32, 50, 59, 32, 109, 105, 110, 117, 116, 101, 115, 32, 51, 48, 59, 32, 125, 32, 108, 105, 110, 101, 32, 108, 58, 32, 97, 32, 45, 62, 32, 98, 32, 97, 116, 32, 52, 56, 48, 32, 116, 114, 97, 118, 101, 108, 32, 49, 50, 48, 32, 108, 111, 97, 100, 32, 51, 59, 32, 99, 108, 97, 115, 115, 32, 107, 32, 123, 32, 99, 117, 116, 32, 49, 48, 50, 48, 59, 32, 100, 101, 108, 105, 118, 101, 114, 32, 55, 50, 48, 59, 32, 125]
set_option maxRecDepth 100000
theorem source_spec : Ctr Tryz.prog 8 [] (fun r => r = .str srcB) := by
 refine Ctr.of_body Tryz.func8 rfl tys_ok (by kernel_rfl) ?_
 conv => whnf
 repeat (first | refine ACode.seq ?_ | (refine ACode.s_reg tys_ok ?_; conv => whnf) | refine ACode.s_block ?_ | refine ACode.s_scope ?_ | (refine ACode.s_cond ?_; conv => whnf) | (refine ACode.s_exit ?_; conv => whnf) | (refine ACode.s_ret ?_; conv => whnf) | (refine ACode.s_skip ?_; conv => whnf) | (refine ACode.s_label ?_; conv => whnf))
 kernel_rfl
def srcN : Nw := ⟨[⟨-60, [true, true, true, true, true, false, false], [4]⟩], [[99]], [[112]], [⟨[97], 0, 0, 4, 2, 30, [[49, 48, 48, 48], [83, 87, 49, 65]]⟩, ⟨[98], 0, 0, 4, 2, 30, []⟩], [⟨[108], 0, 1, 480, 120, 3⟩], [⟨[107], 1020, 720⟩]⟩
theorem parse_src : parseP srcB = .ok srcN := by kernel_rfl
theorem parse_t1 : parseP [108, 105, 110, 101, 32, 108, 58, 32, 97, 32, 45, 62, 32, 98, 32, 97, 116, 32, 49, 32, 116, 114, 97, 118, 101, 108, 32, 50, 32, 108, 111, 97, 100, 32, 51, 59] = .err 110 8 := by kernel_rfl
theorem parse_t2 : parseP [111, 112, 101, 114, 97, 116, 111, 114, 32, 112] = .err 91 10 := by kernel_rfl
theorem parse_t3 : parseP [99, 108, 97, 115, 115, 32, 122, 111, 110, 101, 32, 123] = .err 90 6 := by kernel_rfl
theorem parse_t4 : parseP [] = .ok nw0 := by kernel_rfl
theorem lex_t5 : lexP [97] = .ok [⟨1, [97], 0⟩] := by kernel_rfl
theorem parse_at {s : Bs} (hs : s.length ≤ 9223372036854775807) {x : Res} (h : parseP s = x) : Ctr Tryz.prog 5 [.str s] (fun r => r = resP0 x) := by
 have := Parse_spec0 s hs; rwa [h] at this
theorem lex_at {s : Bs} (hs : s.length ≤ 9223372036854775807) {x : Lx} (h : lexP s = x) : Ctr Tryz.prog 9 [.str s] (fun r => r = resLx x) := by
 have := Lex_spec s hs; rwa [h] at this
set_option maxHeartbeats 4000000 in
theorem head_spec : Ctr Tryz.prog 4 [] (fun r => r = .bool true) := by
 refine Ctr.lits ?_
 refine Ctr.of_body Tryz.func4 rfl tys_ok (by kernel_rfl) ?_
 conv => whnf
 repeat (first | refine ACode.seq ?_ | (refine ACode.s_reg tys_ok ?_; conv => whnf) | refine ACode.s_block ?_ | refine ACode.s_scope ?_ | (refine ACode.s_cond ?_; conv => whnf) | (refine ACode.s_exit ?_; conv => whnf) | (refine ACode.s_ret ?_; conv => whnf) | (refine ACode.s_skip ?_; conv => whnf) | (refine ACode.s_label ?_; conv => whnf))
 refine ACall.of_spec (source_spec) rfl fun r hr => ?_
 subst hr
 conv => whnf
 repeat (first | refine ACode.seq ?_ | (refine ACode.s_reg tys_ok ?_; conv => whnf) | refine ACode.s_block ?_ | refine ACode.s_scope ?_ | (refine ACode.s_cond ?_; conv => whnf) | (refine ACode.s_exit ?_; conv => whnf) | (refine ACode.s_ret ?_; conv => whnf) | (refine ACode.s_skip ?_; conv => whnf) | (refine ACode.s_label ?_; conv => whnf))
 refine ACall.of_spec (parse_at (by decide) parse_src) rfl fun r hr => ?_
 subst hr
 conv => whnf
 repeat (first | refine ACode.seq ?_ | (refine ACode.s_reg tys_ok ?_; conv => whnf) | refine ACode.s_block ?_ | refine ACode.s_scope ?_ | (refine ACode.s_cond ?_; conv => whnf) | (refine ACode.s_exit ?_; conv => whnf) | (refine ACode.s_ret ?_; conv => whnf) | (refine ACode.s_skip ?_; conv => whnf) | (refine ACode.s_label ?_; conv => whnf))
 refine ACall.of_spec (parse_at (by decide) parse_t1) rfl fun r hr => ?_
 subst hr
 conv => whnf
 repeat (first | refine ACode.seq ?_ | (refine ACode.s_reg tys_ok ?_; conv => whnf) | refine ACode.s_block ?_ | refine ACode.s_scope ?_ | (refine ACode.s_cond ?_; conv => whnf) | (refine ACode.s_exit ?_; conv => whnf) | (refine ACode.s_ret ?_; conv => whnf) | (refine ACode.s_skip ?_; conv => whnf) | (refine ACode.s_label ?_; conv => whnf))
 refine ACall.of_spec (parse_at (by decide) parse_t2) rfl fun r hr => ?_
 subst hr
 conv => whnf
 repeat (first | refine ACode.seq ?_ | (refine ACode.s_reg tys_ok ?_; conv => whnf) | refine ACode.s_block ?_ | refine ACode.s_scope ?_ | (refine ACode.s_cond ?_; conv => whnf) | (refine ACode.s_exit ?_; conv => whnf) | (refine ACode.s_ret ?_; conv => whnf) | (refine ACode.s_skip ?_; conv => whnf) | (refine ACode.s_label ?_; conv => whnf))
 refine ACall.of_spec (parse_at (by decide) parse_t3) rfl fun r hr => ?_
 subst hr
 conv => whnf
 repeat (first | refine ACode.seq ?_ | (refine ACode.s_reg tys_ok ?_; conv => whnf) | refine ACode.s_block ?_ | refine ACode.s_scope ?_ | (refine ACode.s_cond ?_; conv => whnf) | (refine ACode.s_exit ?_; conv => whnf) | (refine ACode.s_ret ?_; conv => whnf) | (refine ACode.s_skip ?_; conv => whnf) | (refine ACode.s_label ?_; conv => whnf))
 refine ACall.of_spec (parse_at (by decide) parse_t4) rfl fun r hr => ?_
 subst hr
 conv => whnf
 repeat (first | refine ACode.seq ?_ | (refine ACode.s_reg tys_ok ?_; conv => whnf) | refine ACode.s_block ?_ | refine ACode.s_scope ?_ | (refine ACode.s_cond ?_; conv => whnf) | (refine ACode.s_exit ?_; conv => whnf) | (refine ACode.s_ret ?_; conv => whnf) | (refine ACode.s_skip ?_; conv => whnf) | (refine ACode.s_label ?_; conv => whnf))
 refine ACall.of_spec (lex_at (by decide) lex_t5) rfl fun r hr => ?_
 subst hr
 conv => whnf
 repeat (first | refine ACode.seq ?_ | (refine ACode.s_reg tys_ok ?_; conv => whnf) | refine ACode.s_block ?_ | refine ACode.s_scope ?_ | (refine ACode.s_cond ?_; conv => whnf) | (refine ACode.s_exit ?_; conv => whnf) | (refine ACode.s_ret ?_; conv => whnf) | (refine ACode.s_skip ?_; conv => whnf) | (refine ACode.s_label ?_; conv => whnf))
 repeat (first | (refine ⟨fun _ => ?_, fun h => absurd h (by decide +kernel)⟩; conv => whnf) | (refine ⟨fun h => absurd h (by decide +kernel), fun _ => ?_⟩; conv => whnf) | (refine ⟨by decide, _, rfl, ?_⟩; conv => whnf) | refine ACode.seq ?_ | (refine ACode.s_reg tys_ok ?_; conv => whnf) | refine ACode.s_block ?_ | refine ACode.s_scope ?_ | (refine ACode.s_cond ?_; conv => whnf) | (refine ACode.s_exit ?_; conv => whnf) | (refine ACode.s_ret ?_; conv => whnf) | (refine ACode.s_skip ?_; conv => whnf) | (refine ACode.s_label ?_; conv => whnf))
 refine ACall.of_spec (empty_spec nw0 (by constructor <;> simp [nw0])) rfl fun r hr => ?_
 subst hr
 conv => whnf
 repeat (first | refine ACode.seq ?_ | (refine ACode.s_reg tys_ok ?_; conv => whnf) | refine ACode.s_block ?_ | refine ACode.s_scope ?_ | (refine ACode.s_cond ?_; conv => whnf) | (refine ACode.s_exit ?_; conv => whnf) | (refine ACode.s_ret ?_; conv => whnf) | (refine ACode.s_skip ?_; conv => whnf) | (refine ACode.s_label ?_; conv => whnf))
 repeat (first | (refine ⟨fun _ => ?_, fun h => absurd h (by decide +kernel)⟩; conv => whnf) | (refine ⟨fun h => absurd h (by decide +kernel), fun _ => ?_⟩; conv => whnf) | (refine ⟨by decide, _, rfl, ?_⟩; conv => whnf) | refine ACode.seq ?_ | (refine ACode.s_reg tys_ok ?_; conv => whnf) | refine ACode.s_block ?_ | refine ACode.s_scope ?_ | (refine ACode.s_cond ?_; conv => whnf) | (refine ACode.s_exit ?_; conv => whnf) | (refine ACode.s_ret ?_; conv => whnf) | (refine ACode.s_skip ?_; conv => whnf) | (refine ACode.s_label ?_; conv => whnf))
 exact .inr rfl
end Go.Proofs.YtmhlneeboefkgaaGreatDoor
