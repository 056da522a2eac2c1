/-
  The statements' examples.
-/
import Derived.Test.YtbodeejogdckgaaGreatDoorG4
import Derived.Test.YtbodeejogdckgaaGreatDoorF8
import Derived.Test.YtbodeejogdckgaaGreatDoorAv53
set_option linter.unusedVariables false
set_option linter.unusedSimpArgs false
namespace Go.Proofs.YtbodeejogdckgaaGreatDoor
open Go.Av Go.Shelf Pl
/-- The format of the examples. -/
def exF : Fm := ⟨[112, 108, 97, 105, 110], [[⟨6, []⟩], [⟨4, []⟩, ⟨2, []⟩], [⟨3, [57, 57, 57, 57]⟩, ⟨5, []⟩]]⟩
def flF : Fm := ⟨[102, 108, 97, 116], [[⟨4, []⟩, ⟨5, []⟩]]⟩
def wantA : Ad := ⟨[65, 100, 97, 32, 66, 121, 114, 111, 110], [76, 111, 110, 103, 32, 76, 97, 110, 101], 12, [49, 48, 48, 48], [79, 108, 100, 32, 84, 111, 119, 110]⟩
def lsA : List Bs := [[65, 100, 97, 32, 66, 121, 114, 111, 110], [32, 76, 111, 110, 103, 32, 32, 76, 97, 110, 101, 32, 49, 50], [49, 48, 48, 48, 32, 79, 108, 100, 32, 84, 111, 119, 110, 32]]
def lsB : List Bs := [[65, 100, 97], [76, 97, 110, 101, 32, 48, 49, 50], [49, 48, 48, 48, 32, 84, 111, 119, 110]]
theorem headA : parseR exF lsA = ([wantA], 0) := by decide +kernel
theorem headB : parseR exF lsB = ([], 0) := by decide +kernel
theorem headD : parseR flF [[65, 32, 66, 32, 67]] = ([⟨[], [65], 0, [], [66, 32, 67]⟩, ⟨[], [65, 32, 66], 0, [], [67]⟩], 0) := by decide +kernel
theorem headE : parseR ⟨[], []⟩ [] = ([], 1) := by decide +kernel
theorem headC : printR exF wantA = ([[65, 100, 97, 32, 66, 121, 114, 111, 110], [76, 111, 110, 103, 32, 76, 97, 110, 101, 32, 49, 50], [49, 48, 48, 48, 32, 79, 108, 100, 32, 84, 111, 119, 110]], 0) := by
  have h12 : Lib.itoa 12 = [49, 50] := by
    unfold Lib.itoa
    rw [if_neg (by decide)]
    show Lib.decDigits 12 = _
    rw [Lib.decDigits, dif_neg (by decide)]
    show Lib.decDigits 1 ++ _ = _
    rw [Lib.decDigits, dif_pos (by decide)]
    rfl
  unfold printR
  rw [if_pos (by decide +kernel)]
  unfold printF exF lineP printP wantA
  simp only [List.map_cons, List.map_nil]
  simp [h12, Lib.join, List.intercalate]
theorem headM : printR exF ⟨[65, 100, 97], [], 0, [], []⟩ = ([], 1) := by decide +kernel
theorem smallEx : SmallF exF := ⟨by decide, by decide, by decide, by decide⟩
theorem smallFl : SmallF flF := ⟨by decide, by decide, by decide, by decide⟩
theorem smallNo : SmallF ⟨[], []⟩ := ⟨by decide, by decide, by decide, by decide⟩
set_option maxRecDepth 100000 in
theorem example_spec : Ctr Tryz.prog 28 [] (fun r => r = exF.v) := by
  refine Ctr.of_body Tryz.func28 rfl tys_ok (by kernel_rfl) ?_
  conv => whnf
  repeat (first | refine ACode.seq ?_ | (refine ACode.s_reg tys_ok ?_; conv => whnf) | refine ACode.s_block ?_ | refine ACode.s_scope ?_ | (refine ACode.s_cond ?_; conv => whnf) | (refine ACode.s_exit ?_; conv => whnf) | (refine ACode.s_ret ?_; conv => whnf) | (refine ACode.s_skip ?_; conv => whnf) | (refine ACode.s_label ?_; conv => whnf))
  repeat (first | (refine And.intro (by simp [closed, closeds]) ?_; conv => whnf) | (refine cd_sound tys_ok _ ?_; conv => whnf))
  rfl
set_option maxRecDepth 100000 in
theorem divided_spec : Ctr Tryz.prog 27 [] (fun r => r = flF.v) := by
  refine Ctr.of_body Tryz.func27 rfl tys_ok (by kernel_rfl) ?_
  conv => whnf
  repeat (first | refine ACode.seq ?_ | (refine ACode.s_reg tys_ok ?_; conv => whnf) | refine ACode.s_block ?_ | refine ACode.s_scope ?_ | (refine ACode.s_cond ?_; conv => whnf) | (refine ACode.s_exit ?_; conv => whnf) | (refine ACode.s_ret ?_; conv => whnf) | (refine ACode.s_skip ?_; conv => whnf) | (refine ACode.s_label ?_; conv => whnf))
  repeat (first | (refine And.intro (by simp [closed, closeds]) ?_; conv => whnf) | (refine cd_sound tys_ok _ ?_; conv => whnf))
  rfl
set_option maxRecDepth 100000 in
theorem head_spec : Ctr Tryz.prog 10 [] (fun r => r = .bool true) := by
  refine Ctr.of_body Tryz.func10 rfl tys_ok (by kernel_rfl) ?_
  conv => whnf
  repeat (first | refine ACode.seq ?_ | (refine ACode.s_reg tys_ok ?_; conv => whnf) | refine ACode.s_block ?_ | refine ACode.s_scope ?_ | (refine ACode.s_cond ?_; conv => whnf) | (refine ACode.s_exit ?_; conv => whnf) | (refine ACode.s_ret ?_; conv => whnf) | (refine ACode.s_skip ?_; conv => whnf) | (refine ACode.s_label ?_; conv => whnf))
  refine ACall.of_spec (example_spec) rfl fun r hr => ?_
  subst hr
  conv => whnf
  repeat (first | refine ACode.seq ?_ | (refine ACode.s_reg tys_ok ?_; conv => whnf) | refine ACode.s_block ?_ | refine ACode.s_scope ?_ | (refine ACode.s_cond ?_; conv => whnf) | (refine ACode.s_exit ?_; conv => whnf) | (refine ACode.s_ret ?_; conv => whnf) | (refine ACode.s_skip ?_; conv => whnf) | (refine ACode.s_label ?_; conv => whnf))
  refine ACall.freeze 2 ?_ (by kernel_rfl)
  conv => whnf
  refine ⟨(by simp [closed]), ?_⟩
  conv => whnf
  repeat (refine ⟨(by first | rfl | (simp; done) : (_ : Nat) = _), ?_⟩; conv => whnf)
  refine ACall.of_spec (parse_spec exF lsA smallEx (by decide) (by decide)) rfl fun r hr => ?_
  rw [headA] at hr
  subst hr
  conv => whnf
  repeat (first | refine ACode.seq ?_ | (refine ACode.s_reg tys_ok ?_; conv => whnf) | refine ACode.s_block ?_ | refine ACode.s_scope ?_ | (refine ACode.s_cond ?_; conv => whnf) | (refine ACode.s_exit ?_; conv => whnf) | (refine ACode.s_ret ?_; conv => whnf) | (refine ACode.s_skip ?_; conv => whnf) | (refine ACode.s_label ?_; conv => whnf))
  refine ACall.freeze 3 ?_ (by kernel_rfl)
  conv => whnf
  refine ⟨(by simp [closed]), ?_⟩
  conv => whnf
  repeat (refine ⟨(by first | rfl | (simp; done) : (_ : Nat) = _), ?_⟩; conv => whnf)
  refine ACall.of_spec (parse_spec exF lsB smallEx (by decide) (by decide)) rfl fun r hr => ?_
  rw [headB] at hr
  subst hr
  conv => whnf
  repeat (first | refine ACode.seq ?_ | (refine ACode.s_reg tys_ok ?_; conv => whnf) | refine ACode.s_block ?_ | refine ACode.s_scope ?_ | (refine ACode.s_cond ?_; conv => whnf) | (refine ACode.s_exit ?_; conv => whnf) | (refine ACode.s_ret ?_; conv => whnf) | (refine ACode.s_skip ?_; conv => whnf) | (refine ACode.s_label ?_; conv => whnf))
  refine ACall.of_spec (print_spec exF wantA smallEx (by decide)) rfl fun r hr => ?_
  rw [headC] at hr
  subst hr
  conv => whnf
  repeat (first | refine ACode.seq ?_ | (refine ACode.s_reg tys_ok ?_; conv => whnf) | refine ACode.s_block ?_ | refine ACode.s_scope ?_ | (refine ACode.s_cond ?_; conv => whnf) | (refine ACode.s_exit ?_; conv => whnf) | (refine ACode.s_ret ?_; conv => whnf) | (refine ACode.s_skip ?_; conv => whnf) | (refine ACode.s_label ?_; conv => whnf))
  refine ACall.of_spec (divided_spec) rfl fun r hr => ?_
  subst hr
  conv => whnf
  repeat (first | refine ACode.seq ?_ | (refine ACode.s_reg tys_ok ?_; conv => whnf) | refine ACode.s_block ?_ | refine ACode.s_scope ?_ | (refine ACode.s_cond ?_; conv => whnf) | (refine ACode.s_exit ?_; conv => whnf) | (refine ACode.s_ret ?_; conv => whnf) | (refine ACode.s_skip ?_; conv => whnf) | (refine ACode.s_label ?_; conv => whnf))
  refine ACall.freeze 4 ?_ (by kernel_rfl)
  conv => whnf
  refine ⟨(by simp [closed]), ?_⟩
  conv => whnf
  repeat (refine ⟨(by first | rfl | (simp; done) : (_ : Nat) = _), ?_⟩; conv => whnf)
  refine ACall.of_spec (parse_spec flF [[65, 32, 66, 32, 67]] smallFl (by decide) (by decide)) rfl fun r hr => ?_
  rw [headD] at hr
  subst hr
  conv => whnf
  repeat (first | refine ACode.seq ?_ | (refine ACode.s_reg tys_ok ?_; conv => whnf) | refine ACode.s_block ?_ | refine ACode.s_scope ?_ | (refine ACode.s_cond ?_; conv => whnf) | (refine ACode.s_exit ?_; conv => whnf) | (refine ACode.s_ret ?_; conv => whnf) | (refine ACode.s_skip ?_; conv => whnf) | (refine ACode.s_label ?_; conv => whnf))
  refine ACall.args (args' := [Fm.v ⟨[], []⟩, strsA []]) (by repeat' first | exact trivial | exact rfl | refine ⟨?_, ?_⟩) ?_
  refine ACall.of_spec (parse_spec ⟨[], []⟩ [] smallNo (by decide) (by decide)) rfl fun r hr => ?_
  rw [headE] at hr
  subst hr
  conv => whnf
  repeat (first | refine ACode.seq ?_ | (refine ACode.s_reg tys_ok ?_; conv => whnf) | refine ACode.s_block ?_ | refine ACode.s_scope ?_ | (refine ACode.s_cond ?_; conv => whnf) | (refine ACode.s_exit ?_; conv => whnf) | (refine ACode.s_ret ?_; conv => whnf) | (refine ACode.s_skip ?_; conv => whnf) | (refine ACode.s_label ?_; conv => whnf))
  refine ACall.of_spec (print_spec exF ⟨[65, 100, 97], [], 0, [], []⟩ smallEx (by decide)) rfl fun r hr => ?_
  rw [headM] at hr
  subst hr
  conv => whnf
  repeat (first | refine ACode.seq ?_ | (refine ACode.s_reg tys_ok ?_; conv => whnf) | refine ACode.s_block ?_ | refine ACode.s_scope ?_ | (refine ACode.s_cond ?_; conv => whnf) | (refine ACode.s_exit ?_; conv => whnf) | (refine ACode.s_ret ?_; conv => whnf) | (refine ACode.s_skip ?_; conv => whnf) | (refine ACode.s_label ?_; conv => whnf))
  repeat (first | (refine ⟨fun _ => ?_, fun h => absurd h (by decide +kernel)⟩; conv => whnf) | (refine ⟨fun h => absurd h (by decide +kernel), fun _ => ?_⟩; conv => whnf) | (refine ⟨by decide, _, rfl, ?_⟩; conv => whnf) | refine ACode.seq ?_ | (refine ACode.s_reg tys_ok ?_; conv => whnf) | refine ACode.s_block ?_ | refine ACode.s_scope ?_ | (refine ACode.s_cond ?_; conv => whnf) | (refine ACode.s_exit ?_; conv => whnf) | (refine ACode.s_ret ?_; conv => whnf) | (refine ACode.s_skip ?_; conv => whnf) | (refine ACode.s_label ?_; conv => whnf))
  refine ACall.freeze 5 ?_ (by kernel_rfl)
  conv => whnf
  refine ⟨(by simp [closed, closeds]), ?_⟩
  conv => whnf
  repeat (refine ⟨(by first | rfl | (simp; done) : (_ : Nat) = _), ?_⟩; conv => whnf)
  refine ACall.of_spec (same_spec [wantA] [wantA] (by decide) (by decide)) rfl fun r hr => ?_
  subst hr
  conv => whnf
  repeat (first | refine ACode.seq ?_ | (refine ACode.s_reg tys_ok ?_; conv => whnf) | refine ACode.s_block ?_ | refine ACode.s_scope ?_ | (refine ACode.s_cond ?_; conv => whnf) | (refine ACode.s_exit ?_; conv => whnf) | (refine ACode.s_ret ?_; conv => whnf) | (refine ACode.s_skip ?_; conv => whnf) | (refine ACode.s_label ?_; conv => whnf))
  repeat (first | (refine ⟨fun _ => ?_, fun h => absurd h (by decide +kernel)⟩; conv => whnf) | (refine ⟨fun h => absurd h (by decide +kernel), fun _ => ?_⟩; conv => whnf) | (refine ⟨by decide, _, rfl, ?_⟩; conv => whnf) | refine ACode.seq ?_ | (refine ACode.s_reg tys_ok ?_; conv => whnf) | refine ACode.s_block ?_ | refine ACode.s_scope ?_ | (refine ACode.s_cond ?_; conv => whnf) | (refine ACode.s_exit ?_; conv => whnf) | (refine ACode.s_ret ?_; conv => whnf) | (refine ACode.s_skip ?_; conv => whnf) | (refine ACode.s_label ?_; conv => whnf))
  refine ACall.freeze 6 ?_ (by kernel_rfl)
  conv => whnf
  refine ⟨(by simp [closed]), ?_⟩
  conv => whnf
  repeat (refine ⟨(by first | rfl | (simp; done) : (_ : Nat) = _), ?_⟩; conv => whnf)
  refine ACall.of_spec (strings_spec [[65, 100, 97, 32, 66, 121, 114, 111, 110], [76, 111, 110, 103, 32, 76, 97, 110, 101, 32, 49, 50], [49, 48, 48, 48, 32, 79, 108, 100, 32, 84, 111, 119, 110]] [[65, 100, 97, 32, 66, 121, 114, 111, 110], [76, 111, 110, 103, 32, 76, 97, 110, 101, 32, 49, 50], [49, 48, 48, 48, 32, 79, 108, 100, 32, 84, 111, 119, 110]] (by decide) (by decide)) rfl fun r hr => ?_
  subst hr
  conv => whnf
  repeat (first | refine ACode.seq ?_ | (refine ACode.s_reg tys_ok ?_; conv => whnf) | refine ACode.s_block ?_ | refine ACode.s_scope ?_ | (refine ACode.s_cond ?_; conv => whnf) | (refine ACode.s_exit ?_; conv => whnf) | (refine ACode.s_ret ?_; conv => whnf) | (refine ACode.s_skip ?_; conv => whnf) | (refine ACode.s_label ?_; conv => whnf))
  repeat (first | (refine ⟨fun _ => ?_, fun h => absurd h (by decide +kernel)⟩; conv => whnf) | (refine ⟨fun h => absurd h (by decide +kernel), fun _ => ?_⟩; conv => whnf) | (refine ⟨by decide, _, rfl, ?_⟩; conv => whnf) | refine ACode.seq ?_ | (refine ACode.s_reg tys_ok ?_; conv => whnf) | refine ACode.s_block ?_ | refine ACode.s_scope ?_ | (refine ACode.s_cond ?_; conv => whnf) | (refine ACode.s_exit ?_; conv => whnf) | (refine ACode.s_ret ?_; conv => whnf) | (refine ACode.s_skip ?_; conv => whnf) | (refine ACode.s_label ?_; conv => whnf))
  refine ACall.freeze 7 ?_ (by kernel_rfl)
  conv => whnf
  refine ⟨(by simp [closed, closeds]), ?_⟩
  conv => whnf
  repeat (refine ⟨(by first | rfl | (simp; done) : (_ : Nat) = _), ?_⟩; conv => whnf)
  refine ACall.of_spec (same_spec [⟨[], [65], 0, [], [66, 32, 67]⟩, ⟨[], [65, 32, 66], 0, [], [67]⟩] [⟨[], [65], 0, [], [66, 32, 67]⟩, ⟨[], [65, 32, 66], 0, [], [67]⟩] (by decide) (by decide)) rfl fun r hr => ?_
  subst hr
  conv => whnf
  repeat (first | refine ACode.seq ?_ | (refine ACode.s_reg tys_ok ?_; conv => whnf) | refine ACode.s_block ?_ | refine ACode.s_scope ?_ | (refine ACode.s_cond ?_; conv => whnf) | (refine ACode.s_exit ?_; conv => whnf) | (refine ACode.s_ret ?_; conv => whnf) | (refine ACode.s_skip ?_; conv => whnf) | (refine ACode.s_label ?_; conv => whnf))
  repeat (first | (refine ⟨fun _ => ?_, fun h => absurd h (by decide +kernel)⟩; conv => whnf) | (refine ⟨fun h => absurd h (by decide +kernel), fun _ => ?_⟩; conv => whnf) | (refine ⟨by decide, _, rfl, ?_⟩; conv => whnf) | refine ACode.seq ?_ | (refine ACode.s_reg tys_ok ?_; conv => whnf) | refine ACode.s_block ?_ | refine ACode.s_scope ?_ | (refine ACode.s_cond ?_; conv => whnf) | (refine ACode.s_exit ?_; conv => whnf) | (refine ACode.s_ret ?_; conv => whnf) | (refine ACode.s_skip ?_; conv => whnf) | (refine ACode.s_label ?_; conv => whnf))
  refine ACall.of_spec (valid_spec exF (by decide) (by decide) (by decide) (by decide)) rfl fun r hr => ?_
  subst hr
  conv => whnf
  repeat (first | refine ACode.seq ?_ | (refine ACode.s_reg tys_ok ?_; conv => whnf) | refine ACode.s_block ?_ | refine ACode.s_scope ?_ | (refine ACode.s_cond ?_; conv => whnf) | (refine ACode.s_exit ?_; conv => whnf) | (refine ACode.s_ret ?_; conv => whnf) | (refine ACode.s_skip ?_; conv => whnf) | (refine ACode.s_label ?_; conv => whnf))
  repeat (first | (refine ⟨fun _ => ?_, fun h => absurd h (by decide +kernel)⟩; conv => whnf) | (refine ⟨fun h => absurd h (by decide +kernel), fun _ => ?_⟩; conv => whnf) | (refine ⟨by decide, _, rfl, ?_⟩; conv => whnf) | refine ACode.seq ?_ | (refine ACode.s_reg tys_ok ?_; conv => whnf) | refine ACode.s_block ?_ | refine ACode.s_scope ?_ | (refine ACode.s_cond ?_; conv => whnf) | (refine ACode.s_exit ?_; conv => whnf) | (refine ACode.s_ret ?_; conv => whnf) | (refine ACode.s_skip ?_; conv => whnf) | (refine ACode.s_label ?_; conv => whnf))
  refine ACall.of_spec (words_spec [9, 97, 32, 32, 98, 32] (by decide)) rfl fun r hr => ?_
  have hw : wordsW [9, 97, 32, 32, 98, 32] = [[97], [98]] := by decide +kernel
  rw [hw] at hr
  subst hr
  conv => whnf
  repeat (first | refine ACode.seq ?_ | (refine ACode.s_reg tys_ok ?_; conv => whnf) | refine ACode.s_block ?_ | refine ACode.s_scope ?_ | (refine ACode.s_cond ?_; conv => whnf) | (refine ACode.s_exit ?_; conv => whnf) | (refine ACode.s_ret ?_; conv => whnf) | (refine ACode.s_skip ?_; conv => whnf) | (refine ACode.s_label ?_; conv => whnf))
  refine ACall.freeze 8 ?_ (by kernel_rfl)
  conv => whnf
  refine ⟨(by simp [closed]), ?_⟩
  conv => whnf
  repeat (refine ⟨(by first | rfl | (simp; done) : (_ : Nat) = _), ?_⟩; conv => whnf)
  refine ACall.of_spec (strings_spec [[97], [98]] [[97], [98]] (by decide) (by decide)) rfl fun r hr => ?_
  subst hr
  conv => whnf
  repeat (first | refine ACode.seq ?_ | (refine ACode.s_reg tys_ok ?_; conv => whnf) | refine ACode.s_block ?_ | refine ACode.s_scope ?_ | (refine ACode.s_cond ?_; conv => whnf) | (refine ACode.s_exit ?_; conv => whnf) | (refine ACode.s_ret ?_; conv => whnf) | (refine ACode.s_skip ?_; conv => whnf) | (refine ACode.s_label ?_; conv => whnf))
  rfl
end Go.Proofs.YtbodeejogdckgaaGreatDoor
