/-
  The library's functions that the printer needs, as contracts of ours.
-/
import Derived.Test.YtbedaolpfedacaaGreatDoorNa3
import Derived.Test.YtbedaolpfedacaaGreatDoorKf3
import Derived.Test.YtbedaolpfedacaaGreatDoorSa3
import Derived.Test.YtbedaolpfedacaaGreatDoorPa3
import Derived.Test.YtbedaolpfedacaaGreatDoorRa3
set_option linter.unusedVariables false
set_option linter.unusedSimpArgs false
namespace Go.Proofs.YtbedaolpfedacaaGreatDoor
open Go.Av Go.Av.Net Go.RowKit Go.Sort
theorem below_grow (w : World) (k : Nat) (os : Array Obj) : Below w.heap.size w (grow (w.drewN k) os) :=
 ⟨rfl, rfl, rfl, by simp [grow, World.drewN], fun b hb => by simp only [grow, World.drewN]; rw [Array.getElem?_append_left hb]⟩
theorem pow_tab {C : CellSet} {w : World} (h : COK C w) : Lib.TabIs Tryz.prog w "internal/strconv.uint64pow10" .u64 Lib.pow10Tab := by
 have hx : (3, Lib.pow10Tab.map (AV.int .u64)) ∈ glTab := List.mem_of_getElem? (i := 3) (by kernel_rfl)
 obtain ⟨cur, e, fz, h1, h2⟩ := h.gs _ hx (by intro h; cases h)
 have hc := h.gl _ hx
 unfold Lib.TabIs World.var?
 rw [show Tryz.prog.globalNamed "internal/strconv.uint64pow10" = some 3 by kernel_rfl]
 simp only [Option.bind_some] at h1 h2 hc ⊢
 rw [h1]
 simp only [Option.some.injEq]
 apply Array.ext
 ·simpa using h2
 ·intro i h3 h4
  have h5 : i < (Lib.pow10Tab.map (AV.int .u64)).length := by omega
  obtain ⟨v, _, hcl, hr⟩ := (cells_iff _ _).1 hc i h5
  have := hcl.2
  rw [Nat.zero_add, cell_of_row w _ i cur e fz h1] at this
  simp only [List.getElem_map] at hr
  unfold Rep at hr
  obtain ⟨rfl, _⟩ := hr
  rw [Array.getElem?_eq_getElem h3] at this
  simp only [Option.some.injEq] at this
  rw [this]
  simp
theorem itoa_spec (n : Int) (h0 : -9223372036854775808 ≤ n) (h1 : n ≤ 9223372036854775807) (hl : (Lib.itoa n).length ≤ 9223372036854775807) : Ctr Tryz.prog 47 [.int .i64 n] (fun r => r = .str (Lib.itoa n)) := by
 refine ⟨by kernel_rfl, fun C w vs hlt hr => ?_⟩
 unfold Reps at hr
 obtain ⟨v1, _, rfl, h2, hr⟩ := hr
 unfold Reps at hr
 subst hr
 unfold Rep at h2
 obtain ⟨rfl, _⟩ := h2
 refine (Tryz.strconv_Itoa n h0 h1 w (pow_tab hlt)).mono fun e w' ⟨h3, k, os, h4⟩ => ?_
 subst h4
 exact ⟨_, _, h3, rfl, below_grow w k os, by unfold Rep; exact ⟨rfl, hl⟩⟩
theorem join_spec (l : List Bs) (hN : l.length ≤ 140737488355328) (hlen : (Lib.join l [32]).length ≤ 140737488355328) : Ctr Tryz.prog 74 [.sl 1 (strs l), .str [32]] (fun r => r = .str (Lib.join l [32])) :=
 join_ctr Tryz.lays156 Tryz.Builder_Extra_156 rfl (by kernel_rfl) l [32] hN hlen
end Go.Proofs.YtbedaolpfedacaaGreatDoor
namespace Go.Proofs.YtbedaolpfedacaaGreatDoor
open Go.Av
def rn167 : Go.Shelf.Ren := ⟨fun | 167 => 72 | n => Tryz.lays156_ren.f n, Tryz.lays156_ren.t, Tryz.lays156_ren.g⟩
theorem lays167 : Go.Proofs.Lays.n167 Tryz.prog rn167 := { Tryz.lays156, Tryz.Builder_Extra_156 with f167 := Tryz.func72.trans (congrArg some (by kernel_rfl)) }
theorem lays166 : Go.Proofs.Lays.n166 Tryz.prog Tryz.lays156_ren := { Tryz.lays156 with }
theorem lays169 : Go.Proofs.Lays.n169 Tryz.prog Tryz.lays156_ren := { Tryz.lays156 with }
set_option maxRecDepth 100000 in
theorem ex167 : Builder.Extra Tryz.prog rn167 := { sizeBuilder := Tryz.Builder_Extra_156.sizeBuilder, liesBuilder := Tryz.Builder_Extra_156.liesBuilder, t5 := Tryz.Builder_Extra_156.t5, a5 := Tryz.Builder_Extra_156.a5, z5 := Tryz.Builder_Extra_156.z5, v5 := Tryz.Builder_Extra_156.v5, infoByte := Tryz.Builder_Extra_156.infoByte, cellsByte := Tryz.Builder_Extra_156.cellsByte, sizeByte := Tryz.Builder_Extra_156.sizeByte, neB5 := Tryz.Builder_Extra_156.neB5 }
abbrev wT : Nat := 75
abbrev wE : Nat := 5
theorem wrLies : liesAt Tryz.prog Tryz.prog.depth wT (2 / Tryz.prog.cellsOf wT) 0 (Tryz.lays156_ren.t 72) 1 = true := by kernel_rfl
theorem wByte (c : UInt8) : WCtr Tryz.prog wT wE 72 [.int .u8 c.toNat] [c] :=
 WCtr.byte (P := Tryz.prog) (ρ := rn167) (T := wT) (by kernel_rfl) lays167 ex167 wrLies (by decide) c
theorem wText (s : List UInt8) : WCtr Tryz.prog wT wE 73 [.str s] s :=
 WCtr.text (P := Tryz.prog) (ρ := Tryz.lays156_ren) (T := wT) (by kernel_rfl) lays166 Tryz.Builder_Extra_156 wrLies (by decide) s
theorem wString : WEnd Tryz.prog wT wE 49 :=
 WEnd.of_string (P := Tryz.prog) (ρ := Tryz.lays156_ren) (T := wT) (by kernel_rfl) lays169 Tryz.Builder_Extra_156
end Go.Proofs.YtbedaolpfedacaaGreatDoor
namespace Go.Proofs.YtbedaolpfedacaaGreatDoor
open Go.Av Go.Av.Net
def lineB (ws : List Bs) : Bs := Lib.join ws [32] ++ [10]
theorem join_step (ws : List Bs) (k : Nat) (h : k < ws.length) : Lib.join (ws.take (k + 1)) [32] = Lib.join (ws.take k) [32] ++ ((if k = 0 then [] else [32]) ++ ws[k]) := by
 cases ws with
 | nil => simp at h
 | cons x r =>
  cases k with
  | zero => simp [Lib.join_one, Lib.join_nil]
  | succ j =>
   have hj : j < r.length := by simpa using h
   rw [List.take_succ_cons, List.take_succ_cons, Lib.join_cons, Lib.join_cons, Lib.joinTail_take_succ [32] r j r[j] (List.getElem?_eq_getElem hj)]
   simp
theorem join_take_len (ws : List Bs) (k : Nat) : (Lib.join (ws.take k) [32]).length ≤ (Lib.join ws [32]).length := by
 cases ws with
 | nil => simp
 | cons x r =>
  cases k with
  | zero => simp [Lib.join_nil]
  | succ j =>
   rw [List.take_succ_cons, Lib.join_cons, Lib.join_cons, List.length_append, List.length_append]
   have := Lib.joinTail_take_le [32] r j
   omega
set_option maxRecDepth 20000 in
set_option maxHeartbeats 2000000 in
theorem line_w (ws : List Bs) (hws : ws.length ≤ 100000) : WCtr Tryz.prog wT wE 45 [.sl 1 (strs ws)] (lineB ws) := by
 refine WCtr.of_body Tryz.func45 rfl (by kernel_rfl) rfl fun b bs hl => ?_
 have hll : (lineB ws).length = (Lib.join ws [32]).length + 1 := by simp [lineB]
 conv => whnf
 repeat (first | (refine ACode.st tys_ok rfl ?_; conv => whnf))
 refine ACode.loopD (fun k : Nat => mk 29 [(0, .raw (wrP b)), (1, .sl 1 (strs ws)), (6, .sl 1 (strs ws)), (7, .int .i64 ws.length), (8, .int .i64 k)]) (fun k => [.inv (WrI wT wE b (bs ++ Lib.join (ws.take k) [32]))]) (fun k => k ≤ ws.length) (fun k => ws.length - k) (fun _ _ => ⟨rfl, trivial⟩) ⟨0, ?_⟩ (fun _ => rfl) fun k hk => ?_
 ·conv => whnf
  repeat (refine And.intro ?_ ?_; (focus (first | rfl | (simp; done))); conv => whnf)
  exact ⟨by simp [Lib.join_nil], by omega⟩
 ·have hsl : (strs ws).length = ws.length := by simp [strs]
  have hle := join_take_len ws k
  repeat (first | (refine ACode.st tys_ok rfl ?_; conv => whnf))
  refine ⟨fun h => ?_, fun h => ?_⟩
  ·have h : k < ws.length := by simpa using h
   have hw1 : Wr .i64 ((k : Int) + 1) = ((k + 1 : Nat) : Int) := by rw [Wr64 _ (by omega) (by omega)]; rfl
   have hst := join_step ws k h
   have hle1 := join_take_len ws (k + 1)
   conv => whnf
   repeat (first | (refine ACode.st tys_ok rfl ?_; conv => whnf))
   refine ⟨by omega, _, strs_get ws k h, ?_⟩
   conv => whnf
   repeat (first | (refine ACode.st tys_ok rfl ?_; conv => whnf))
   have nxt : ∀ (E' : List AV), bs ++ Lib.join (ws.take (k + 1)) [32] = bs ++ Lib.join (ws.take k) [32] ++ ((if k = 0 then [] else [32]) ++ ws[k]) := fun _ => by rw [hst]; simp
   refine ⟨fun h0 => ?_, fun h0 => ?_⟩
   ·have h0 : k ≠ 0 := by simp at h0; omega
    rw [if_neg h0] at hst
    conv => whnf
    repeat (first | (refine ACode.st tys_ok rfl ?_; conv => whnf))
    refine ACall.of_w rfl (wByte 32) rfl (by rw [hst] at hle1; simp at hle1 ⊢; omega) ?_
    conv => whnf
    repeat (first | (refine ACode.st tys_ok rfl ?_; conv => whnf))
    refine ACall.of_w rfl (wText ws[k]) rfl (by rw [hst] at hle1; simp at hle1 ⊢; omega) ?_
    conv => whnf
    repeat (first | (refine ACode.st tys_ok rfl ?_; conv => whnf))
    refine ⟨k + 1, ?_⟩
    conv => whnf
    repeat (refine And.intro ?_ ?_; (focus (first | rfl | (simp; done) | (first | exact hw1; done))); conv => whnf)
    exact ⟨by rw [hst]; simp, by omega, by omega⟩
   ·have h0 : k = 0 := by simp at h0; omega
    rw [if_pos h0] at hst
    conv => whnf
    repeat (first | (refine ACode.st tys_ok rfl ?_; conv => whnf))
    refine ACall.of_w rfl (wText ws[k]) rfl (by rw [hst] at hle1; simp at hle1 ⊢; omega) ?_
    conv => whnf
    repeat (first | (refine ACode.st tys_ok rfl ?_; conv => whnf))
    refine ⟨k + 1, ?_⟩
    conv => whnf
    repeat (refine And.intro ?_ ?_; (focus (first | rfl | (simp; done) | (first | exact hw1; done))); conv => whnf)
    exact ⟨by rw [hst]; simp, by omega, by omega⟩
  ·have h : k = ws.length := by simp at h; omega
   rw [h, List.take_length]
   conv => whnf
   repeat (first | (refine ACode.st tys_ok rfl ?_; conv => whnf))
   refine ACall.of_w rfl (wByte 10) rfl (by simp; omega) ?_
   conv => whnf
   exact ⟨[], by simp [lineB]⟩
def fieldB (ws : List Bs) : Bs := [32, 32] ++ (Lib.join ws [32] ++ [59]) ++ [10]
set_option maxRecDepth 20000 in
set_option maxHeartbeats 2000000 in
theorem field_w (ws : List Bs) (hws : ws.length ≤ 100000) : WCtr Tryz.prog wT wE 48 [.sl 1 (strs ws)] (fieldB ws) := by
 refine WCtr.of_body Tryz.func48 rfl (by kernel_rfl) rfl fun b bs hl => ?_
 have hll : (fieldB ws).length = (Lib.join ws [32]).length + 4 := by simp [fieldB]
 conv => whnf
 repeat (first | (refine ACode.st tys_ok rfl ?_; conv => whnf))
 refine ACall.of_w rfl (wText [32, 32]) rfl (by simp; omega) ?_
 conv => whnf
 repeat (first | (refine ACode.st tys_ok rfl ?_; conv => whnf))
 refine ACall.of_spec (join_spec ws (by omega) (by omega)) rfl fun r hr => ?_
 subst hr
 conv => whnf
 repeat (first | (refine ACode.st tys_ok rfl ?_; conv => whnf))
 refine ⟨by simp; omega, ?_⟩
 conv => whnf
 repeat (first | (refine ACode.st tys_ok rfl ?_; conv => whnf))
 refine ACall.freeze 1 ?_ (by kernel_rfl)
 conv => whnf
 refine ⟨by intro a ha; simp at ha; subst ha; rfl, ?_⟩
 conv => whnf
 repeat (refine ⟨(by first | rfl | (simp; done) : (_ : Nat) = _), ?_⟩; conv => whnf)
 refine ACall.of_w rfl (line_w [Lib.join ws [32] ++ [59]] (by simp)) rfl (by simp [lineB, Lib.join_one]; omega) ?_
 conv => whnf
 exact ⟨_, by simp [fieldB, lineB, Lib.join_one]; rfl⟩
end Go.Proofs.YtbedaolpfedacaaGreatDoor
namespace Go.Proofs.YtbedaolpfedacaaGreatDoor
open Go.Av Go.Av.Net Pl
theorem pSmall_spec (b : UInt8) : Ctr Tryz.prog 68 [.int .u8 b.toNat] (fun r => r = .bool (smallB b)) := by
 refine Ctr.of_body Tryz.func68 rfl tys_ok (by kernel_rfl) ?_
 conv => whnf
 refine cd_sound tys_ok _ ?_
 conv => whnf
 repeat' (refine And.intro (fun _ => ?_) (fun _ => ?_) <;> conv => whnf)
 all_goals (refine congrArg AV.bool ?_; rw [Bool.eq_iff_iff]; simp_all [smallB] <;> omega)
theorem pDigit_spec (b : UInt8) : Ctr Tryz.prog 67 [.int .u8 b.toNat] (fun r => r = .bool (digB b)) := by
 refine Ctr.of_body Tryz.func67 rfl tys_ok (by kernel_rfl) ?_
 conv => whnf
 refine cd_sound tys_ok _ ?_
 conv => whnf
 repeat' (refine And.intro (fun _ => ?_) (fun _ => ?_) <;> conv => whnf)
 all_goals (refine congrArg AV.bool ?_; rw [Bool.eq_iff_iff]; simp_all [digB] <;> omega)
set_option maxRecDepth 20000 in
theorem pCode_spec (s : Bs) (hs : s.length ≤ 8000) : Ctr Tryz.prog 35 [.str s] (fun r => r = .bool (isCodeB s)) := by
 refine Ctr.of_body Tryz.func35 rfl tys_ok (by kernel_rfl) ?_
 conv => whnf
 refine cd_sound tys_ok _ ?_
 conv => whnf
 refine ⟨fun h1 => ?_, fun h1 => ?_⟩
 ·have h1 : 1 ≤ s.length := by simp at h1; omega
  conv => whnf
  refine ⟨fun h2 => ?_, fun h2 => ?_⟩
  ·conv => whnf
   have h2 : ¬ s.length ≤ 8 := by simp at h2; omega
   simp [isCodeB, h2]
  ·have h2 : s.length ≤ 8 := by simp at h2; omega
   conv => whnf
   refine ACode.loopT (fun k : Nat => mk 32 [(0, .str s), (14, .sl 1 (byts s)), (15, .int .i64 (byts s).length), (16, .int .i64 k)]) (fun _ => []) (fun k => k ≤ s.length ∧ (s.all codeB) = (s.drop k).all codeB) (fun k => s.length - k) ⟨0, ?_⟩ fun k hk => ?_
   ·conv => whnf
    repeat (refine And.intro ?_ ?_; (focus (first | rfl | (simp; done))); conv => whnf)
    rfl
   ·obtain ⟨hk, he⟩ := hk
    refine cd_sound tys_ok _ ?_
    conv => whnf
    refine ⟨fun hlt => ?_, fun hge => ?_⟩
    ·have hlt : k < s.length := by simpa using hlt
     rw [all_step _ s k hlt] at he
     conv => whnf
     refine ⟨by omega, .int .u8 s[k].toNat, byts_get _ _ hlt, ?_⟩
     conv => whnf
     refine ACall.of_spec (pDigit_spec s[k]) rfl fun r hr => ?_
     subst hr
     conv => whnf
     repeat' (refine And.intro (fun _ => ?_) (fun _ => ?_) <;> conv => whnf)
     all_goals first
      | (refine ⟨k + 1, ?_⟩
         conv => whnf
         repeat (refine And.intro ?_ ?_; (focus (first | rfl | (simp; done) | (rw [Wr64 _ (by omega) (by omega)]; omega; done))); conv => whnf)
         have hn : codeB s[k] = true := by simp_all [codeB] <;> omega
         rw [hn] at he
         exact ⟨⟨by omega, he⟩, by omega⟩)
      | (have hn : codeB s[k] = false := by simp_all [codeB] <;> omega
         rw [hn] at he
         simp [codeB_eq, he]; done)
    ·have hge : s.length ≤ k := by simp at hge; omega
     conv => whnf
     have : k = s.length := by omega
     subst this
     simp at he
     rw [codeB_eq]
     simp [h1, h2]
     exact he
 ·conv => whnf
  have h1 : ¬ 1 ≤ s.length := by simp at h1; omega
  simp [isCodeB, h1]
set_option maxRecDepth 20000 in
theorem pName_spec (s : Bs) (hs : s.length ≤ 8000) : Ctr Tryz.prog 36 [.str s] (fun r => r = .bool (isNameB s)) := by
 refine Ctr.of_body Tryz.func36 rfl tys_ok (by kernel_rfl) ?_
 conv => whnf
 refine cd_sound tys_ok _ ?_
 conv => whnf
 refine ⟨fun h1 => ?_, fun h1 => ?_⟩
 ·have h1 : 1 ≤ s.length := by simp at h1; omega
  conv => whnf
  refine ⟨fun h2 => ?_, fun h2 => ?_⟩
  ·have h2 : s.length ≤ 16 := by simp at h2; omega
   conv => whnf
   refine ⟨⟨by omega, by omega⟩, ?_⟩
   conv => whnf
   have hg : s.getD (0 : Int).toNat 0 = s.headD 0 := by cases s <;> rfl
   rw [hg]
   refine ACall.of_spec (pSmall_spec (s.headD 0)) rfl fun r hr => ?_
   subst hr
   conv => whnf
   refine ⟨fun h3 => ?_, fun h3 => ?_⟩
   ·conv => whnf
    have h3 : smallB (s.headD 0) = false := by simpa using h3
    simp only [isNameB_eq, h3, Bool.and_false, Bool.false_and]
   ·have h3 : smallB (s.headD 0) = true := by simpa using h3
    conv => whnf
    refine ACode.loopT (fun k : Nat => mk 49 [(0, .str s), (22, .sl 1 (byts s)), (23, .int .i64 (byts s).length), (24, .int .i64 k)]) (fun _ => []) (fun k => k ≤ s.length ∧ (s.all nmB) = (s.drop k).all nmB) (fun k => s.length - k) ⟨0, ?_⟩ fun k hk => ?_
    ·conv => whnf
     repeat (refine And.intro ?_ ?_; (focus (first | rfl | (simp; done))); conv => whnf)
     rfl
    ·obtain ⟨hk, he⟩ := hk
     refine cd_sound tys_ok _ ?_
     conv => whnf
     refine ⟨fun hlt => ?_, fun hge => ?_⟩
     ·have hlt : k < s.length := by simpa using hlt
      rw [all_step _ s k hlt] at he
      conv => whnf
      refine ⟨by omega, .int .u8 s[k].toNat, byts_get _ _ hlt, ?_⟩
      conv => whnf
      refine ACall.of_spec (pSmall_spec s[k]) rfl fun r hr => ?_
      subst hr
      conv => whnf
      repeat' (first | (refine And.intro (fun _ => ?_) (fun _ => ?_) <;> conv => whnf) | (refine ACall.of_spec (pDigit_spec s[k]) rfl fun r hr => ?_; subst hr; (conv => whnf)))
      all_goals first
       | (refine ⟨k + 1, ?_⟩
          conv => whnf
          repeat (refine And.intro ?_ ?_; (focus (first | rfl | (simp; done) | (rw [Wr64 _ (by omega) (by omega)]; omega; done))); conv => whnf)
          have hn : nmB s[k] = true := by simp_all [nmB] <;> omega
          rw [hn] at he
          exact ⟨⟨by omega, he⟩, by omega⟩)
       | (have hn : nmB s[k] = false := by simp_all [nmB] <;> omega
          rw [hn] at he
          simp [isNameB_eq, he]; done)
     ·have hge : s.length ≤ k := by simp at hge; omega
      have : k = s.length := by omega
      subst this
      have h4 : s.all nmB = true := by rw [he]; simp
      conv => whnf
      refine ACode.loopT (fun k : Nat => mk 49 [(0, .str s), (41, .agg (strs keyWords)), (42, .int .i64 k)]) (fun _ => []) (fun k => k ≤ 17 ∧ keyWords.any (fun x => decide (s = x)) = (keyWords.drop k).any (fun x => decide (s = x))) (fun k => 17 - k) ⟨0, ?_⟩ fun k hk => ?_
      ·conv => whnf
       repeat (refine And.intro ?_ ?_; (focus (first | rfl | (simp; done))); conv => whnf)
       rfl
      ·obtain ⟨hk, he⟩ := hk
       refine cd_sound tys_ok _ ?_
       conv => whnf
       refine ⟨fun hlt => ?_, fun hge => ?_⟩
       ·have hlt : k < 17 := by simp at hlt; omega
        have hlt' : k < keyWords.length := hlt
        rw [any_step _ keyWords k hlt'] at he
        conv => whnf
        refine ⟨⟨by omega, by omega⟩, .str keyWords[k], strs_get _ _ hlt', ?_⟩
        conv => whnf
        refine ⟨fun ht => ?_, fun hf => ?_⟩
        ·conv => whnf
         have ht : s = keyWords[k] := by simpa using ht
         rw [decide_eq_true ht, Bool.true_or] at he
         simp only [isNameB_eq, he]
         simp
        ·conv => whnf
         have hf : ¬ s = keyWords[k] := by simpa using hf
         rw [decide_eq_false hf, Bool.false_or] at he
         refine ⟨k + 1, ?_⟩
         conv => whnf
         repeat (refine And.intro ?_ ?_; (focus (first | rfl | (simp; done) | (rw [Wr64 _ (by omega) (by omega)]; omega; done))); conv => whnf)
         exact ⟨⟨by omega, he⟩, by omega⟩
       ·have hge : 17 ≤ k := by simp at hge; omega
        have : k = 17 := by omega
        subst this
        conv => whnf
        have h5 : keyWords.any (fun x => decide (s = x)) = false := by rw [he]; rfl
        simp only [isNameB_eq, h3, h4, h5]
        simp [h1, h2]
  ·conv => whnf
   have h2 : ¬ s.length ≤ 16 := by simp at h2; omega
   simp [isNameB_eq, h2]
 ·conv => whnf
  have h1 : ¬ 1 ≤ s.length := by simp at h1; omega
  simp [isNameB_eq, h1]
def intsK (l : List Int) : List AV := l.map (.int .i64)
@[simp] theorem intsK_length (l : List Int) : (intsK l).length = l.length := by simp [intsK]
theorem intsK_get (l : List Int) (k : Nat) (h : k < l.length) : (intsK l)[k]? = some (.int .i64 l[k]) := by simp [intsK, h]
set_option maxRecDepth 100000 in
theorem indexS_spec (l : List Bs) (g : Nat) (cap : List AV) (p : Bs → Bool) (hl : l.length ≤ 100000) (hc : closeds cap = true) (hw : withins [] cap = true) (hp : ∀ x ∈ l, Ctr Tryz.prog g (.str x :: cap) (fun r => r = .bool (p x))) :
  Ctr Tryz.prog 66 [.sl 1 (strs l), .fn g cap] (fun r => ∃ i : Int, r = .int .i64 i ∧ decide (0 ≤ i) = l.any p) := by
 refine Ctr.of_body Tryz.func66 rfl tys_ok (by kernel_rfl) ?_
 conv => whnf
 repeat (first | (refine ACode.st tys_ok rfl ?_; conv => whnf))
 have hsl := strs_length l
 refine ACode.loopD (fun k : Nat => mk 19 [(0, .sl 1 (strs l)), (1, .fn g cap), (7, .int .i64 l.length), (8, .int .i64 k)]) (fun _ => []) (fun k => k ≤ l.length ∧ (l.take k).any p = false) (fun k => l.length - k) (fun _ _ => ⟨by show (withins [] cap && _) = true; rw [hw]; rfl, trivial⟩) ⟨0, ?_⟩ (fun _ => rfl) fun k hk => ?_
 ·conv => whnf
  repeat (refine And.intro ?_ ?_; (focus (first | rfl | (simp; done))); conv => whnf)
  rfl
 ·obtain ⟨hk, ha⟩ := hk
  repeat (first | (refine ACode.st tys_ok rfl ?_; conv => whnf))
  refine ⟨fun h => ?_, fun h => ?_⟩
  ·have h : k < l.length := by simpa using h
   have hw1 : Wr .i64 ((k : Int) + 1) = ((k + 1 : Nat) : Int) := by rw [Wr64 _ (by omega) (by omega)]; rfl
   conv => whnf
   repeat (first | (refine ACode.st tys_ok rfl ?_; conv => whnf))
   refine ⟨by omega, _, strs_get l k h, ?_⟩
   conv => whnf
   repeat (first | (refine ACode.st tys_ok rfl ?_; conv => whnf))
   refine ACall.of_spec (hp l[k] (List.getElem_mem h)) (by simp [closeds, closed, hc]) fun r hr => ?_
   subst hr
   conv => whnf
   repeat (first | (refine ACode.st tys_ok rfl ?_; conv => whnf))
   repeat' (first | (refine And.intro (fun _ => ?_) (fun _ => ?_) <;> conv => whnf) | (refine ACode.st tys_ok rfl ?_; conv => whnf))
   ·rename_i h5
    exact ⟨_, rfl, by rw [show l.any p = true from List.any_eq_true.2 ⟨l[k], List.getElem_mem h, h5⟩]; simp⟩
   ·rename_i h5
    refine ⟨k + 1, ?_⟩
    conv => whnf
    repeat (refine And.intro ?_ ?_; (focus (first | rfl | (simp; done) | (first | exact hw1; done))); conv => whnf)
    exact ⟨⟨by omega, by rw [List.take_succ_eq_append_getElem h, List.any_append, ha]; simpa using h5⟩, by omega⟩
  ·have h : k = l.length := by simp at h; omega
   rw [h, List.take_length] at ha
   conv => whnf
   repeat (first | (refine ACode.st tys_ok rfl ?_; conv => whnf))
   exact ⟨_, rfl, by rw [ha]; decide⟩
set_option maxRecDepth 100000 in
theorem containsS_spec (l : List Bs) (g : Nat) (cap : List AV) (p : Bs → Bool) (hl : l.length ≤ 100000) (hc : closeds cap = true) (hw : withins [] cap = true) (hp : ∀ x ∈ l, Ctr Tryz.prog g (.str x :: cap) (fun r => r = .bool (p x))) :
  Ctr Tryz.prog 33 [.sl 1 (strs l), .fn g cap] (fun r => r = .bool (l.any p)) := by
 refine Ctr.of_body Tryz.func33 rfl tys_ok (by kernel_rfl) ?_
 conv => whnf
 repeat (first | (refine ACode.st tys_ok rfl ?_; conv => whnf))
 refine ACall.of_spec (indexS_spec l g cap p hl hc hw hp) (by simp [closeds, closed, hc]) fun r hr => ?_
 obtain ⟨i, rfl, hi⟩ := hr
 conv => whnf
 repeat (first | (refine ACode.st tys_ok rfl ?_; conv => whnf))
 rw [← hi]
set_option maxRecDepth 100000 in
theorem indexI_spec (l : List Int) (g : Nat) (cap : List AV) (p : Int → Bool) (hl : l.length ≤ 100000) (hc : closeds cap = true) (hw : withins [] cap = true) (hp : ∀ x ∈ l, Ctr Tryz.prog g (.int .i64 x :: cap) (fun r => r = .bool (p x))) :
  Ctr Tryz.prog 64 [.sl 1 (intsK l), .fn g cap] (fun r => ∃ i : Int, r = .int .i64 i ∧ decide (0 ≤ i) = l.any p) := by
 refine Ctr.of_body Tryz.func64 rfl tys_ok (by kernel_rfl) ?_
 conv => whnf
 repeat (first | (refine ACode.st tys_ok rfl ?_; conv => whnf))
 have hsl := intsK_length l
 refine ACode.loopD (fun k : Nat => mk 19 [(0, .sl 1 (intsK l)), (1, .fn g cap), (7, .int .i64 l.length), (8, .int .i64 k)]) (fun _ => []) (fun k => k ≤ l.length ∧ (l.take k).any p = false) (fun k => l.length - k) (fun _ _ => ⟨by show (withins [] cap && _) = true; rw [hw]; rfl, trivial⟩) ⟨0, ?_⟩ (fun _ => rfl) fun k hk => ?_
 ·conv => whnf
  repeat (refine And.intro ?_ ?_; (focus (first | rfl | (simp; done))); conv => whnf)
  rfl
 ·obtain ⟨hk, ha⟩ := hk
  repeat (first | (refine ACode.st tys_ok rfl ?_; conv => whnf))
  refine ⟨fun h => ?_, fun h => ?_⟩
  ·have h : k < l.length := by simpa using h
   have hw1 : Wr .i64 ((k : Int) + 1) = ((k + 1 : Nat) : Int) := by rw [Wr64 _ (by omega) (by omega)]; rfl
   conv => whnf
   repeat (first | (refine ACode.st tys_ok rfl ?_; conv => whnf))
   refine ⟨by omega, _, intsK_get l k h, ?_⟩
   conv => whnf
   repeat (first | (refine ACode.st tys_ok rfl ?_; conv => whnf))
   refine ACall.of_spec (hp l[k] (List.getElem_mem h)) (by simp [closeds, closed, hc]) fun r hr => ?_
   subst hr
   conv => whnf
   repeat (first | (refine ACode.st tys_ok rfl ?_; conv => whnf))
   repeat' (first | (refine And.intro (fun _ => ?_) (fun _ => ?_) <;> conv => whnf) | (refine ACode.st tys_ok rfl ?_; conv => whnf))
   ·rename_i h5
    exact ⟨_, rfl, by rw [show l.any p = true from List.any_eq_true.2 ⟨l[k], List.getElem_mem h, h5⟩]; simp⟩
   ·rename_i h5
    refine ⟨k + 1, ?_⟩
    conv => whnf
    repeat (refine And.intro ?_ ?_; (focus (first | rfl | (simp; done) | (first | exact hw1; done))); conv => whnf)
    exact ⟨⟨by omega, by rw [List.take_succ_eq_append_getElem h, List.any_append, ha]; simpa using h5⟩, by omega⟩
  ·have h : k = l.length := by simp at h; omega
   rw [h, List.take_length] at ha
   conv => whnf
   repeat (first | (refine ACode.st tys_ok rfl ?_; conv => whnf))
   exact ⟨_, rfl, by rw [ha]; decide⟩
set_option maxRecDepth 100000 in
theorem containsI_spec (l : List Int) (g : Nat) (cap : List AV) (p : Int → Bool) (hl : l.length ≤ 100000) (hc : closeds cap = true) (hw : withins [] cap = true) (hp : ∀ x ∈ l, Ctr Tryz.prog g (.int .i64 x :: cap) (fun r => r = .bool (p x))) :
  Ctr Tryz.prog 29 [.sl 1 (intsK l), .fn g cap] (fun r => r = .bool (l.any p)) := by
 refine Ctr.of_body Tryz.func29 rfl tys_ok (by kernel_rfl) ?_
 conv => whnf
 repeat (first | (refine ACode.st tys_ok rfl ?_; conv => whnf))
 refine ACall.of_spec (indexI_spec l g cap p hl hc hw hp) (by simp [closeds, closed, hc]) fun r hr => ?_
 obtain ⟨i, rfl, hi⟩ := hr
 conv => whnf
 repeat (first | (refine ACode.st tys_ok rfl ?_; conv => whnf))
 rw [← hi]
theorem isInt_spec (n : Int) : Ctr Tryz.prog 28 [.int .i64 n] (fun r => r = .bool (intB n)) := by
 refine Ctr.of_body Tryz.func28 rfl tys_ok (by kernel_rfl) ?_
 conv => whnf
 repeat (first | (refine ACode.st tys_ok rfl ?_; conv => whnf))
 repeat' (first | (refine And.intro (fun _ => ?_) (fun _ => ?_) <;> conv => whnf) | (refine ACode.st tys_ok rfl ?_; conv => whnf))
 all_goals (refine congrArg AV.bool ?_; rw [Bool.eq_iff_iff]; simp_all [intB] <;> omega)
theorem areNumbers1_spec (n : Int) : Ctr Tryz.prog 65 [.int .i64 n] (fun r => r = .bool (!numB n)) := by
 refine Ctr.of_body Tryz.func65 rfl tys_ok (by kernel_rfl) ?_
 conv => whnf
 repeat (first | (refine ACode.st tys_ok rfl ?_; conv => whnf))
 repeat' (first | (refine And.intro (fun _ => ?_) (fun _ => ?_) <;> conv => whnf) | (refine ACode.st tys_ok rfl ?_; conv => whnf))
 all_goals (refine congrArg AV.bool ?_; rw [Bool.eq_iff_iff]; simp_all [numB] <;> omega)
theorem areNumbers_spec (l : List Int) (hl : l.length ≤ 100000) : Ctr Tryz.prog 32 [.sl 1 (intsK l)] (fun r => r = .bool (l.all numB)) := by
 refine Ctr.of_body Tryz.func32 rfl tys_ok (by kernel_rfl) ?_
 conv => whnf
 repeat (first | (refine ACode.st tys_ok rfl ?_; conv => whnf))
 refine ACall.of_spec (containsI_spec l _ [] (fun n => !numB n) hl rfl rfl fun x _ => areNumbers1_spec x) rfl fun r hr => ?_
 subst hr
 conv => whnf
 repeat (first | (refine ACode.st tys_ok rfl ?_; conv => whnf))
 refine congrArg AV.bool ?_
 simp [List.any_eq_not_all_not]
theorem day_spec (n : Int) : Ctr Tryz.prog 30 [.int .i64 n] (fun r => r = .bool (!intB n)) := by
 refine Ctr.of_body Tryz.func30 rfl tys_ok (by kernel_rfl) ?_
 conv => whnf
 repeat (first | (refine ACode.st tys_ok rfl ?_; conv => whnf))
 refine ACall.of_spec (isInt_spec n) rfl fun r hr => ?_
 subst hr
 conv => whnf
 repeat (first | (refine ACode.st tys_ok rfl ?_; conv => whnf))
theorem code_spec' (s : Bs) (hs : s.length ≤ 8000) : Ctr Tryz.prog 34 [.str s] (fun r => r = .bool (!isCodeB s)) := by
 refine Ctr.of_body Tryz.func34 rfl tys_ok (by kernel_rfl) ?_
 conv => whnf
 repeat (first | (refine ACode.st tys_ok rfl ?_; conv => whnf))
 refine ACall.of_spec (pCode_spec s hs) rfl fun r hr => ?_
 subst hr
 conv => whnf
 repeat (first | (refine ACode.st tys_ok rfl ?_; conv => whnf))
theorem good1_spec (s : Bs) (hs : s.length ≤ 8000) : Ctr Tryz.prog 63 [.str s] (fun r => r = .bool (!isNameB s)) := by
 refine Ctr.of_body Tryz.func63 rfl tys_ok (by kernel_rfl) ?_
 conv => whnf
 repeat (first | (refine ACode.st tys_ok rfl ?_; conv => whnf))
 refine ACall.of_spec (pName_spec s hs) rfl fun r hr => ?_
 subst hr
 conv => whnf
 repeat (first | (refine ACode.st tys_ok rfl ?_; conv => whnf))
end Go.Proofs.YtbedaolpfedacaaGreatDoor
namespace Go.Proofs.YtbedaolpfedacaaGreatDoor
open Go.Av Go.Av.Net Pl
abbrev Fst := List (Bs × Nat)
def alook (s : Bs) : Fst → Option Nat
 | [] => none
 | x :: r => bif decide (x.1 = s) then some x.2 else alook s r
def fkeys (a : Fst) : List AV := strs (a.map Prod.fst)
def fvals (a : Fst) : List AV := a.map fun x => .int .i64 x.2
theorem fkeys_like (s : Bs) (a : Fst) : ∀ x ∈ fkeys a, keyLike (.str s) x = true := by
 intro x hx
 obtain ⟨y, _, rfl⟩ := List.mem_map.1 hx
 rfl
theorem mget_f (s : Bs) : ∀ a : Fst, mget (.str s) (fkeys a) (fvals a) = (alook s a).map fun i => AV.int .i64 ((i : Nat) : Int)
 | [] => rfl
 | x :: a => by
  have ih := mget_f s a
  unfold mget at ih ⊢
  simp only [fkeys, fvals, strs, List.map_cons, midx, keyEq, alook] at ih ⊢
  by_cases h : x.1 = s
  ·have hb : (s == x.1) = true := by simp [h]
   rw [hb, decide_eq_true h]
   rfl
  ·have hb : (s == x.1) = false := by simpa using fun e => h e.symm
   rw [hb, decide_eq_false h]
   simp only [cond_false]
   rw [← ih, Option.bind_map]
   rfl
theorem midx_f (s : Bs) : ∀ a : Fst, alook s a = none → midx (.str s) (fkeys a) = none
 | [], _ => rfl
 | x :: a, h => by
  unfold alook at h
  by_cases hx : x.1 = s
  ·rw [decide_eq_true hx] at h; simp at h
  ·rw [decide_eq_false hx] at h
   simp only [cond_false] at h
   have ih := midx_f s a h
   have hb : (s == x.1) = false := by simpa using fun e => hx e.symm
   simp only [fkeys, strs, List.map_cons, midx, keyEq] at ih ⊢
   rw [hb]
   simp only [cond_false]
   rw [ih]
   rfl
theorem put_f (s : Bs) (i : Nat) (a : Fst) (h : alook s a = none) : mkeys (.str s) (fkeys a) = fkeys (a ++ [(s, i)]) ∧ mvals (.str s) (.int .i64 (i : Int)) (fkeys a) (fvals a) = fvals (a ++ [(s, i)]) := by
 unfold mkeys mvals
 rw [midx_f s a h]
 simp [fkeys, fvals, strs]
theorem alook_snoc (t s : Bs) (i : Nat) : ∀ a : Fst, alook t (a ++ [(s, i)]) = match alook t a with | some j => some j | none => if s = t then some i else none
 | [] => by simp only [List.nil_append, alook]; by_cases h : s = t <;> simp [h]
 | x :: a => by
  have ih := alook_snoc t s i a
  simp only [List.cons_append, alook]
  by_cases h : x.1 = t
  ·simp [h]
  ·simp [h, ih]
theorem idxOf_snoc (t y : Bs) : ∀ l : List Bs, idxOf t (l ++ [y]) = match idxOf t l with | some j => some j | none => if y = t then some l.length else none
 | [] => by simp only [List.nil_append, idxOf]; by_cases h : y = t <;> simp [h]
 | x :: l => by
  have ih := idxOf_snoc t y l
  simp only [List.cons_append, idxOf]
  by_cases h : x = t
  ·simp [h]
  ·simp only [h, decide_false, cond_false, ih]
   cases idxOf t l with
   | some j => rfl
   | none => by_cases hy : y = t <;> simp [hy]
def FI (l : List Bs) (k : Nat) (a : Fst) : Prop := ∀ t, alook t a = idxOf t (l.take k)
theorem FI.zero (l : List Bs) : FI l 0 [] := fun t => by simp [alook, idxOf]
theorem FI.old {l : List Bs} {k : Nat} {a : Fst} (h : FI l k a) (hk : k < l.length) {j : Nat} (hs : alook l[k] a = some j) : FI l (k + 1) a := fun t => by
 rw [List.take_succ_eq_append_getElem hk, idxOf_snoc, ← h t]
 cases ht : alook t a with
 | some i => rfl
 | none =>
  by_cases e : l[k] = t
  ·rw [e, ht] at hs; cases hs
  ·simp [e]
theorem FI.new {l : List Bs} {k : Nat} {a : Fst} (h : FI l k a) (hk : k < l.length) (hs : alook l[k] a = none) : FI l (k + 1) (a ++ [(l[k], k)]) := fun t => by
 rw [List.take_succ_eq_append_getElem hk, idxOf_snoc, alook_snoc, ← h t]
 cases ht : alook t a with
 | some i => rfl
 | none => simp [List.length_take, Nat.min_eq_left (Nat.le_of_lt hk)]
def fstA (l : List Bs) (a : Fst) : AV := .agg [.sl 1 (strs l), .mp (fkeys a) (fvals a)]
def offIA (o : OffI) : AV := .agg [.str o.name, .int .i64 o.oper, .int .i64 o.cal, .int .i64 o.pockets, .int .i64 o.passes, .int .i64 o.minutes, .sl 1 (strs o.codes)]
def linIA (l : LinI) : AV := .agg [.str l.name, .int .i64 l.from_, .int .i64 l.to_, .int .i64 l.at_, .int .i64 l.travel, .int .i64 l.load]
def netI (n : NwI) : AV := .agg [.sl 3 (n.cals.map calA), .sl 1 (strs n.names), .sl 1 (n.opers.map operA), .sl 7 (n.offs.map offIA), .sl 6 (n.lins.map linIA), .sl 3 (n.clss.map clsA)]
theorem name1_spec (s : Bs) : Ctr Tryz.prog 22 [.str s] (fun r => r = .str s) := by
 refine Ctr.of_body Tryz.func22 rfl tys_ok (by kernel_rfl) ?_
 conv => whnf
 repeat (first | (refine ACode.st tys_ok rfl ?_; conv => whnf))
theorem name2_spec (s : Bs) : Ctr Tryz.prog 24 [operA s] (fun r => r = .str s) := by
 refine Ctr.of_body Tryz.func24 rfl tys_ok (by kernel_rfl) ?_
 conv => whnf
 repeat (first | (refine ACode.st tys_ok rfl ?_; conv => whnf))
theorem name3_spec (o : OffI) : Ctr Tryz.prog 26 [offIA o] (fun r => r = .str o.name) := by
 refine Ctr.of_body Tryz.func26 rfl tys_ok (by kernel_rfl) ?_
 conv => whnf
 repeat (first | (refine ACode.st tys_ok rfl ?_; conv => whnf))
end Go.Proofs.YtbedaolpfedacaaGreatDoor
namespace Go.Proofs.YtbedaolpfedacaaGreatDoor
open Go.Av Go.Av.Net Pl
theorem closed_byts (s : Bs) : ∀ e ∈ byts s, closed e = true := by
 intro e he; obtain ⟨x, _, rfl⟩ := List.mem_map.1 he; rfl
theorem fm_step {α : Type} (f : α → Bs) (l : List α) (k : Nat) (h : k < l.length) : (l.take (k + 1)).flatMap f = (l.take k).flatMap f ++ f l[k] := by
 rw [List.take_succ_eq_append_getElem h, List.flatMap_append]
 simp
theorem fm_len {α : Type} (f : α → Bs) (l : List α) (k : Nat) : ((l.take k).flatMap f).length ≤ (l.flatMap f).length := by
 have h : (l.flatMap f).length = ((l.take k).flatMap f).length + ((l.drop k).flatMap f).length := by
  rw [← List.length_append, ← List.flatMap_append, List.take_append_drop]
 omega
theorem digN_dec (n : Nat) : Lib.decDigits n = digN n := by
 induction n using Nat.strongRecOn with
 | ind n ih =>
  rw [digN_eq, Lib.decDigits]
  by_cases h : n < 10
  ·rw [dif_pos h, if_pos h]
   congr 1
   apply UInt8.toNat_inj.1
   rw [dig_nat h]
   simp [UInt8.toNat_ofNat']
   omega
  ·rw [dif_neg h, if_neg h, ih (n / 10) (by omega)]
   congr 2
   have h1 : n % 10 < 10 := Nat.mod_lt _ (by omega)
   apply UInt8.toNat_inj.1
   rw [dig_nat h1]
   simp [UInt8.toNat_ofNat']
   omega
theorem itoa_dec (n : Int) : Lib.itoa n = decT n := by
 unfold Lib.itoa decT
 split
 ·rw [digN_dec]
  congr 2
  omega
 ·rw [digN_dec]
theorem digN_len : ∀ (k n : Nat), n < 10 ^ (k + 1) → (digN n).length ≤ k + 1
 | 0, n, h => by
  rw [digN_eq, if_pos (by simpa using h)]
  simp
 | k + 1, n, h => by
  rw [digN_eq]
  split
  ·simp
  ·have := digN_len k (n / 10) (by rw [Nat.div_lt_iff_lt_mul (by omega)]; rw [Nat.pow_succ] at h; exact h)
   simp; omega
theorem decT_len {n : Int} (h : intB n = true) : (decT n).length ≤ 9 := by
 unfold intB at h
 simp only [Bool.and_eq_true, decide_eq_true_eq] at h
 unfold decT
 split
 ·have := digN_len 7 (-n).toNat (by omega)
  simp; omega
 ·have := digN_len 7 n.toNat (by omega)
  omega
theorem dec_spec {n : Int} (h : intB n = true) : Ctr Tryz.prog 47 [.int .i64 n] (fun r => r = .str (decT n)) := by
 have hl := decT_len h
 unfold intB at h
 simp only [Bool.and_eq_true, decide_eq_true_eq] at h
 have := itoa_spec n (by omega) (by omega) (by rw [itoa_dec]; omega)
 rwa [itoa_dec] at this
theorem fieldB_eq (k v : Bs) : fieldB [k, v] = fieldT k v := by simp [fieldB, fieldT, Lib.join, List.intercalate]
theorem headT_eq (k v : Bs) : lineB [k, v, [123]] = headT k v := by simp [lineB, headT, Lib.join, List.intercalate]
theorem head_w (k v : Bs) : WCtr Tryz.prog wT wE 45 [.sl 1 (strs [k, v, [123]])] (headT k v) := by
 rw [← headT_eq]; exact line_w _ (by simp)
theorem fld_w (k v : Bs) : WCtr Tryz.prog wT wE 48 [.sl 1 (strs [k, v])] (fieldT k v) := by
 rw [← fieldB_eq]; exact field_w _ (by simp)
theorem end_w : WCtr Tryz.prog wT wE 45 [.sl 1 (strs [[125]])] endT := line_w [[125]] (by simp)
set_option maxRecDepth 20000 in
set_option maxHeartbeats 4000000 in
theorem calendar_w (name : Bs) (c : Cal) (hn : name.length ≤ 8000) (hc : calB c = true) (hh : c.hols.length ≤ 100000) : WCtr Tryz.prog wT wE 44 [.str name, calA c] (calT name c) := by
 refine WCtr.of_body Tryz.func44 rfl (by kernel_rfl) rfl fun b bs hl => ?_
 unfold calB at hc
 simp only [Bool.and_eq_true, decide_eq_true_eq, List.all_eq_true] at hc
 obtain ⟨⟨hw, hz⟩, hho⟩ := hc
 simp only [calT, List.length_append] at hl
 conv => whnf
 repeat (first | (refine ACode.st tys_ok rfl ?_; conv => whnf))
 refine ACall.freeze 2 ?_ (by kernel_rfl)
 conv => whnf
 refine ⟨by simp [closed], ?_⟩
 conv => whnf
 repeat (refine ⟨(by first | rfl | (simp; done) : (_ : Nat) = _), ?_⟩; conv => whnf)
 refine ACall.of_w rfl (head_w w_calendar name) rfl (by omega) ?_
 conv => whnf
 repeat (first | (refine ACode.st tys_ok rfl ?_; conv => whnf))
 refine ACall.of_spec (dec_spec hz) rfl fun r hr => ?_
 subst hr
 conv => whnf
 repeat (first | (refine ACode.st tys_ok rfl ?_; conv => whnf))
 refine ACall.freeze 3 ?_ (by kernel_rfl)
 conv => whnf
 refine ⟨by simp [closed], ?_⟩
 conv => whnf
 repeat (refine ⟨(by first | rfl | (simp; done) : (_ : Nat) = _), ?_⟩; conv => whnf)
 refine ACall.of_w rfl (fld_w w_zone (decT c.zone)) rfl (by simp only [List.length_append]; omega) ?_
 conv => whnf
 repeat (first | (refine ACode.st tys_ok rfl ?_; conv => whnf))
 refine ⟨⟨by omega, by omega, by omega⟩, ?_⟩
 conv => whnf
 repeat (first | (refine ACode.st tys_ok rfl ?_; conv => whnf))
 refine ACode.loopD (fun k : Nat => mk 58 [(0, .raw (wrP b)), (5, .ptr 1 0), (6, .own 4 1 0 k), (23, .sl 1 (c.week.map .bool)), (24, .int .i64 7), (25, .int .i64 k)])
  (fun k => [.inv (WrI wT wE b (bs ++ headT w_calendar name ++ fieldT w_zone (decT c.zone))), .cells [.int .i64 c.zone, .sl 1 (c.week.map .bool), .sl 1 (c.hols.map (.int .i64))], .dead, .dead, .arr 5 1 (byts (weekT (c.week.take k)))]) (fun k => k ≤ 7) (fun k => 7 - k) (fun _ _ => ⟨rfl, rfl, closed_byts _, trivial⟩) ⟨0, ?_⟩ (fun _ => rfl) fun k hk => ?_
 ·conv => whnf
  repeat (refine And.intro ?_ ?_; (focus (first | rfl | (simp; done) | (first | (rw [List.length_map, hw]; rfl); done))); conv => whnf)
  exact Nat.zero_le _
 ·repeat (first | (refine ACode.st tys_ok rfl ?_; conv => whnf))
  refine ⟨fun h => ?_, fun h => ?_⟩
  ·have h : k < c.week.length := by simp at h; omega
   have hw1 : Wr .i64 ((k : Int) + 1) = ((k + 1 : Nat) : Int) := by rw [Wr64 _ (by omega) (by omega)]; rfl
   have hst : weekT (c.week.take (k + 1)) = weekT (c.week.take k) ++ [if c.week[k] then 49 else 48] := by rw [List.take_succ_eq_append_getElem h]; unfold weekT; rw [List.map_append]; rfl
   conv => whnf
   repeat (first | (refine ACode.st tys_ok rfl ?_; conv => whnf))
   refine ⟨by omega, .bool c.week[k], by simp [h], ?_⟩
   conv => whnf
   repeat (first | (refine ACode.st tys_ok rfl ?_; conv => whnf))
   refine ⟨fun hb => ?_, fun hb => ?_⟩
   ·rw [hb, if_pos rfl] at hst
    conv => whnf
    repeat (first | (refine ACode.st tys_ok rfl ?_; conv => whnf))
    refine ⟨rfl, ?_⟩
    conv => whnf
    refine ⟨⟨by simp [byts, weekT, Nat.min_eq_left (Nat.le_of_lt h)], by simp [byts, weekT]; omega⟩, ?_⟩
    conv => whnf
    repeat (first | (refine ACode.st tys_ok rfl ?_; conv => whnf))
    refine ⟨k + 1, ?_⟩
    conv => whnf
    repeat (refine And.intro ?_ ?_; (focus (first | rfl | (simp; done) | (first | exact hw1 | exact congrArg (AV.own 4 1 0) (by simp [byts, weekT]; omega) | exact congrArg (HO.arr 5 1) (by rw [hst]; simp [byts]); done))); conv => whnf)
    omega
   ·rw [hb, if_neg (by simp)] at hst
    conv => whnf
    repeat (first | (refine ACode.st tys_ok rfl ?_; conv => whnf))
    refine ⟨rfl, ?_⟩
    conv => whnf
    refine ⟨⟨by simp [byts, weekT, Nat.min_eq_left (Nat.le_of_lt h)], by simp [byts, weekT]; omega⟩, ?_⟩
    conv => whnf
    repeat (first | (refine ACode.st tys_ok rfl ?_; conv => whnf))
    refine ⟨k + 1, ?_⟩
    conv => whnf
    repeat (refine And.intro ?_ ?_; (focus (first | rfl | (simp; done) | (first | exact hw1 | exact congrArg (AV.own 4 1 0) (by simp [byts, weekT]; omega) | exact congrArg (HO.arr 5 1) (by rw [hst]; simp [byts]); done))); conv => whnf)
    omega
  ·have h : k = 7 := by simp at h; omega
   subst h
   have hf : c.week.take 7 = c.week := List.take_of_length_le (by omega)
   rw [hf]
   conv => whnf
   repeat (first | (refine ACode.st tys_ok rfl ?_; conv => whnf))
   refine ⟨by simp [byts, weekT, hw], weekT c.week, ⟨rfl, by simp [weekT]; omega⟩, ?_⟩
   conv => whnf
   repeat (first | (refine ACode.st tys_ok rfl ?_; conv => whnf))
   refine ACall.freeze 5 ?_ (by kernel_rfl)
   conv => whnf
   refine ⟨by simp [closed], ?_⟩
   conv => whnf
   repeat (refine ⟨(by first | rfl | (simp; done) : (_ : Nat) = _), ?_⟩; conv => whnf)
   refine ACall.of_w rfl (fld_w w_week (weekT c.week)) rfl (by simp only [List.length_append]; omega) ?_
   conv => whnf
   repeat (first | (refine ACode.st tys_ok rfl ?_; conv => whnf))
   refine ACode.loopD (fun k : Nat => mk 58 [(0, .raw (wrP b)), (43, .sl 1 (c.hols.map (.int .i64))), (44, .int .i64 c.hols.length), (45, .int .i64 k)])
    (fun k => [.inv (WrI wT wE b (bs ++ headT w_calendar name ++ fieldT w_zone (decT c.zone) ++ fieldT w_week (weekT c.week) ++ (c.hols.take k).flatMap fun d => fieldT w_holiday (decT d))), .cells [.int .i64 c.zone, .sl 1 (c.week.map .bool), .sl 1 (c.hols.map (.int .i64))], .dead, .dead, .arr 5 1 (byts (weekT c.week)), .dead]) (fun k => k ≤ c.hols.length) (fun k => c.hols.length - k) (fun _ _ => ⟨rfl, rfl, closed_byts _, trivial⟩) ⟨0, ?_⟩ (fun _ => rfl) fun k hk => ?_
   ·conv => whnf
    repeat (refine And.intro ?_ ?_; (focus (first | rfl | (simp; done) | (first | (rw [List.length_map]; rfl) | exact congrArg (fun x => HO.inv (WrI wT wE b x)) (by simp); done))); conv => whnf)
    exact Nat.zero_le _
   ·repeat (first | (refine ACode.st tys_ok rfl ?_; conv => whnf))
    refine ⟨fun h => ?_, fun h => ?_⟩
    ·have h : k < c.hols.length := by simpa using h
     have hw1 : Wr .i64 ((k : Int) + 1) = ((k + 1 : Nat) : Int) := by rw [Wr64 _ (by omega) (by omega)]; rfl
     conv => whnf
     repeat (first | (refine ACode.st tys_ok rfl ?_; conv => whnf))
     refine ⟨by omega, .int .i64 c.hols[k], by simp [h], ?_⟩
     have hst := fm_step (fun d => fieldT w_holiday (decT d)) c.hols k h
     have hle := fm_len (fun d => fieldT w_holiday (decT d)) c.hols (k + 1)
     rw [hst, List.length_append] at hle
     conv => whnf
     repeat (first | (refine ACode.st tys_ok rfl ?_; conv => whnf))
     refine ACall.of_spec (dec_spec (hho c.hols[k] (List.getElem_mem h))) rfl fun r hr => ?_
     subst hr
     conv => whnf
     repeat (first | (refine ACode.st tys_ok rfl ?_; conv => whnf))
     refine ACall.freeze 6 ?_ (by kernel_rfl)
     conv => whnf
     refine ⟨by simp [closed], ?_⟩
     conv => whnf
     repeat (refine ⟨(by first | rfl | (simp; done) : (_ : Nat) = _), ?_⟩; conv => whnf)
     refine ACall.of_w rfl (fld_w w_holiday (decT c.hols[k])) rfl (by simp only [List.length_append]; omega) ?_
     conv => whnf
     repeat (first | (refine ACode.st tys_ok rfl ?_; conv => whnf))
     refine ⟨k + 1, ?_⟩
     conv => whnf
     repeat (refine And.intro ?_ ?_; (focus (first | rfl | (simp; done) | (first | exact hw1 | exact congrArg (fun x => HO.inv (WrI wT wE b x)) (by rw [hst]; simp); done))); conv => whnf)
     exact ⟨by omega, by omega⟩
    ·have h : k = c.hols.length := by simp at h; omega
     rw [h, List.take_length]
     conv => whnf
     repeat (first | (refine ACode.st tys_ok rfl ?_; conv => whnf))
     refine ACall.freeze 6 ?_ (by kernel_rfl)
     conv => whnf
     refine ⟨by simp [closed], ?_⟩
     conv => whnf
     repeat (refine ⟨(by first | rfl | (simp; done) : (_ : Nat) = _), ?_⟩; conv => whnf)
     refine ACall.of_w rfl end_w rfl (by simp only [List.length_append]; omega) ?_
     conv => whnf
     exact ⟨_, by simp [calT]; rfl⟩
end Go.Proofs.YtbedaolpfedacaaGreatDoor
namespace Go.Proofs.YtbedaolpfedacaaGreatDoor
open Go.Av Go.Av.Net Pl
theorem ref_get {l : List Bs} {i : Int} (h : refB l i = true) : 0 ≤ i ∧ i < l.length ∧ l[i.toNat]? = some (nameAt l i) := by
 unfold refB at h
 simp only [Bool.and_eq_true, decide_eq_true_eq] at h
 obtain ⟨h1, h2⟩ := h
 cases hx : l[i.toNat]? with
 | none => rw [hx] at h2; cases h2
 | some x =>
  have hlt := (List.getElem?_eq_some_iff.1 hx).1
  refine ⟨h1, by omega, ?_⟩
  unfold nameAt
  rw [List.getD_eq_getElem?_getD, hx]
  rfl
theorem num_int {n : Int} (h : numB n = true) : intB n = true := by
 unfold numB at h; unfold intB
 simp only [Bool.and_eq_true, decide_eq_true_eq] at h ⊢
 omega
theorem codes_eq (c : List Bs) (h : c ≠ []) : fieldT w_codes (Lib.join c [32]) = codesT c := by
 cases c with
 | nil => exact absurd rfl h
 | cons x r =>
  have key : ∀ (l : List Bs), Lib.joinTail [32] l = l.flatMap fun y => 32 :: y := fun l => by
   induction l with
   | nil => rfl
   | cons y l ih => simp [Lib.joinTail] at ih ⊢; simp [ih, List.flatMap_cons]
  rw [Lib.join_cons, key]
  simp [fieldT, codesT]
set_option maxRecDepth 20000 in
set_option maxHeartbeats 4000000 in
theorem office_w (n : NwI) (o : OffI) (ho : offB n o = true) (hc : o.codes.length ≤ 100000) (h1 : n.opers.length ≤ 100000) (h2 : n.names.length ≤ 100000) : WCtr Tryz.prog wT wE 46 [netI n, offIA o] (offT n o) := by
 refine WCtr.of_body Tryz.func46 rfl (by kernel_rfl) rfl fun b bs hl => ?_
 unfold offB at ho
 simp only [Bool.and_eq_true] at ho
 obtain ⟨⟨⟨⟨⟨r1, r2⟩, n1⟩, n2⟩, n3⟩, hcs⟩ := ho
 obtain ⟨a1, a2, a3⟩ := ref_get r1
 obtain ⟨b1, b2, b3⟩ := ref_get r2
 simp only [offT, List.length_append] at hl
 have o1 : (n.opers.map operA)[o.oper.toNat]? = some (operA (nameAt n.opers o.oper)) := by rw [List.getElem?_map, a3]; rfl
 have o2 : (strs n.names)[o.cal.toNat]? = some (.str (nameAt n.names o.cal)) := by unfold strs; rw [List.getElem?_map, b3]; rfl
 conv => whnf
 repeat (first | (refine ACode.st tys_ok rfl ?_; conv => whnf))
 refine ACall.freeze 3 ?_ (by kernel_rfl)
 conv => whnf
 refine ⟨by simp [closed], ?_⟩
 conv => whnf
 repeat (refine ⟨(by first | rfl | (simp; done) : (_ : Nat) = _), ?_⟩; conv => whnf)
 refine ACall.of_w rfl (head_w w_office o.name) rfl (by omega) ?_
 conv => whnf
 repeat (first | (refine ACode.st tys_ok rfl ?_; conv => whnf))
 refine ⟨by omega, _, o1, ?_⟩
 conv => whnf
 repeat (first | (refine ACode.st tys_ok rfl ?_; conv => whnf))
 refine ACall.freeze 4 ?_ (by kernel_rfl)
 conv => whnf
 refine ⟨by simp [closed], ?_⟩
 conv => whnf
 repeat (refine ⟨(by first | rfl | (simp; done) : (_ : Nat) = _), ?_⟩; conv => whnf)
 refine ACall.of_w rfl (fld_w w_operator (nameAt n.opers o.oper)) rfl (by simp only [List.length_append]; omega) ?_
 conv => whnf
 repeat (first | (refine ACode.st tys_ok rfl ?_; conv => whnf))
 refine ⟨by omega, _, o2, ?_⟩
 conv => whnf
 repeat (first | (refine ACode.st tys_ok rfl ?_; conv => whnf))
 refine ACall.freeze 5 ?_ (by kernel_rfl)
 conv => whnf
 refine ⟨by simp [closed], ?_⟩
 conv => whnf
 repeat (refine ⟨(by first | rfl | (simp; done) : (_ : Nat) = _), ?_⟩; conv => whnf)
 refine ACall.of_w rfl (fld_w w_calendar (nameAt n.names o.cal)) rfl (by simp only [List.length_append]; omega) ?_
 conv => whnf
 repeat (first | (refine ACode.st tys_ok rfl ?_; conv => whnf))
 refine ACall.of_spec (dec_spec (num_int n1)) rfl fun r hr => ?_
 subst hr
 conv => whnf
 repeat (first | (refine ACode.st tys_ok rfl ?_; conv => whnf))
 refine ACall.freeze 6 ?_ (by kernel_rfl)
 conv => whnf
 refine ⟨by simp [closed], ?_⟩
 conv => whnf
 repeat (refine ⟨(by first | rfl | (simp; done) : (_ : Nat) = _), ?_⟩; conv => whnf)
 refine ACall.of_w rfl (fld_w w_pockets (decT o.pockets)) rfl (by simp only [List.length_append]; omega) ?_
 conv => whnf
 repeat (first | (refine ACode.st tys_ok rfl ?_; conv => whnf))
 refine ACall.of_spec (dec_spec (num_int n2)) rfl fun r hr => ?_
 subst hr
 conv => whnf
 repeat (first | (refine ACode.st tys_ok rfl ?_; conv => whnf))
 refine ACall.freeze 7 ?_ (by kernel_rfl)
 conv => whnf
 refine ⟨by simp [closed], ?_⟩
 conv => whnf
 repeat (refine ⟨(by first | rfl | (simp; done) : (_ : Nat) = _), ?_⟩; conv => whnf)
 refine ACall.of_w rfl (fld_w w_passes (decT o.passes)) rfl (by simp only [List.length_append]; omega) ?_
 conv => whnf
 repeat (first | (refine ACode.st tys_ok rfl ?_; conv => whnf))
 refine ACall.of_spec (dec_spec (num_int n3)) rfl fun r hr => ?_
 subst hr
 conv => whnf
 repeat (first | (refine ACode.st tys_ok rfl ?_; conv => whnf))
 refine ACall.freeze 8 ?_ (by kernel_rfl)
 conv => whnf
 refine ⟨by simp [closed], ?_⟩
 conv => whnf
 repeat (refine ⟨(by first | rfl | (simp; done) : (_ : Nat) = _), ?_⟩; conv => whnf)
 refine ACall.of_w rfl (fld_w w_minutes (decT o.minutes)) rfl (by simp only [List.length_append]; omega) ?_
 conv => whnf
 repeat (first | (refine ACode.st tys_ok rfl ?_; conv => whnf))
 refine ⟨fun h => ?_, fun h => ?_⟩
 ·have h : o.codes ≠ [] := by rintro e; rw [e] at h; simp [strs] at h
  have he := codes_eq o.codes h
  have hjl : (Lib.join o.codes [32]).length ≤ 140737488355328 := by rw [← he] at hl; simp [fieldT] at hl; omega
  rw [← he] at hl
  conv => whnf
  repeat (first | (refine ACode.st tys_ok rfl ?_; conv => whnf))
  refine ACall.of_spec (join_spec o.codes (by omega) hjl) rfl fun r hr => ?_
  subst hr
  conv => whnf
  repeat (first | (refine ACode.st tys_ok rfl ?_; conv => whnf))
  refine ACall.freeze 9 ?_ (by kernel_rfl)
  conv => whnf
  refine ⟨by simp [closed], ?_⟩
  conv => whnf
  repeat (refine ⟨(by first | rfl | (simp; done) : (_ : Nat) = _), ?_⟩; conv => whnf)
  refine ACall.of_w rfl (fld_w w_codes (Lib.join o.codes [32])) rfl (by simp only [List.length_append]; omega) ?_
  conv => whnf
  repeat (first | (refine ACode.st tys_ok rfl ?_; conv => whnf))
  refine ACall.freeze 10 ?_ (by kernel_rfl)
  conv => whnf
  refine ⟨by simp [closed], ?_⟩
  conv => whnf
  repeat (refine ⟨(by first | rfl | (simp; done) : (_ : Nat) = _), ?_⟩; conv => whnf)
  refine ACall.of_w rfl end_w rfl (by simp only [List.length_append]; omega) ?_
  conv => whnf
  exact ⟨_, by simp [offT, ← he]; rfl⟩
 ·have h : o.codes = [] := by simp at h; exact h
  conv => whnf
  repeat (first | (refine ACode.st tys_ok rfl ?_; conv => whnf))
  refine ACall.freeze 9 ?_ (by kernel_rfl)
  conv => whnf
  refine ⟨by simp [closed], ?_⟩
  conv => whnf
  repeat (refine ⟨(by first | rfl | (simp; done) : (_ : Nat) = _), ?_⟩; conv => whnf)
  refine ACall.of_w rfl end_w rfl (by simp only [List.length_append]; omega) ?_
  conv => whnf
  exact ⟨_, by simp [offT, h, codesT]; rfl⟩
end Go.Proofs.YtbedaolpfedacaaGreatDoor
namespace Go.Proofs.YtbedaolpfedacaaGreatDoor
open Go.Av Go.Av.Net Pl
theorem oper_get (l : List Bs) (k : Nat) (h : k < l.length) : (l.map operA)[k]? = some (operA l[k]) := by rw [List.getElem?_map, List.getElem?_eq_getElem h]; rfl
theorem strs_snoc (l : List Bs) (k : Nat) (h : k < l.length) : strs (l.take k) ++ [.str l[k]] = strs (l.take (k + 1)) := by
 rw [List.take_succ_eq_append_getElem h]
 unfold strs
 rw [List.map_append]
 rfl
set_option maxRecDepth 20000 in
set_option maxHeartbeats 4000000 in
theorem find1_spec (l : List Bs) (hl : l.length ≤ 100000) : Ctr Tryz.prog 21 [.sl 1 (strs l), .fn 22 []] (fun r => ∃ a, r = fstA l a ∧ FI l l.length a) := by
 refine Ctr.of_body Tryz.func21 rfl tys_ok (by kernel_rfl) ?_
 conv => whnf
 repeat (first | (refine ACode.st tys_ok rfl ?_; conv => whnf))
 refine ACode.nilCell 2 0 9 1 rfl rfl ?_
 refine ACode.loopD (fun d : Nat × Fst => mk 44 [(0, .sl 1 (strs l)), (1, .fn 22 []), (4, .ptr 0 0), (5, .ptr 2 0), (13, .sl 1 (strs l)), (14, .int .i64 l.length), (15, .int .i64 d.1)])
  (fun d => [.cells [.raw (.slice none 0 0), .raw (.map none)], .map (fkeys d.2) (fvals d.2), .cells [.own 3 1 0 d.1, .om 1], .arr 9 1 (strs (l.take d.1))]) (fun d => d.1 ≤ l.length ∧ FI l d.1 d.2) (fun d => l.length - d.1) (fun _ _ => ⟨rfl, rfl, rfl, closed_strs _, trivial⟩) ⟨(0, []), ?_⟩ (fun _ => rfl) fun d hk => ?_
 ·conv => whnf
  repeat (refine And.intro ?_ ?_; (focus (first | rfl | (simp; done) | (first | exact congrArg (AV.int .i64) (by simp); done))); conv => whnf)
  exact FI.zero l
 ·obtain ⟨k, a⟩ := d
  obtain ⟨hk, ha⟩ := hk
  repeat (first | (refine ACode.st tys_ok rfl ?_; conv => whnf))
  refine ⟨fun h => ?_, fun h => ?_⟩
  ·have h : k < l.length := by simpa using h
   have hw1 : Wr .i64 ((k : Int) + 1) = ((k + 1 : Nat) : Int) := by rw [Wr64 _ (by omega) (by omega)]; rfl
   conv => whnf
   repeat (first | (refine ACode.st tys_ok rfl ?_; conv => whnf))
   refine ⟨by omega, _, strs_get l k h, ?_⟩
   conv => whnf
   repeat (first | (refine ACode.st tys_ok rfl ?_; conv => whnf))
   refine ACall.of_spec (name1_spec l[k]) rfl fun r hr => ?_
   subst hr
   conv => whnf
   repeat (first | (refine ACode.st tys_ok rfl ?_; conv => whnf))
   refine ⟨rfl, ?_⟩
   conv => whnf
   refine ⟨⟨by simp; omega, by simp; omega⟩, ?_⟩
   conv => whnf
   repeat (first | (refine ACode.st tys_ok rfl ?_; conv => whnf))
   refine ⟨fkeys_like _ _, fun hm => ?_, fun v hm => ?_⟩
   ·have hm : alook l[k] a = none := by rw [mget_f] at hm; simpa using hm
    obtain ⟨p1, p2⟩ := put_f l[k] k a hm
    conv => whnf
    repeat (first | (refine ACode.st tys_ok rfl ?_; conv => whnf))
    refine ⟨fkeys_like _ _, ?_⟩
    conv => whnf
    repeat (first | (refine ACode.st tys_ok rfl ?_; conv => whnf))
    refine ⟨(k + 1, a ++ [(l[k], k)]), ?_⟩
    conv => whnf
    repeat (refine And.intro ?_ ?_; (focus (first | rfl | (simp; done) | (first | exact hw1 | exact congr (congrArg HO.map p1) p2 | exact congrArg (fun x => HO.cells [AV.own 3 1 0 x, AV.om 1]) (by simp; omega) | exact congrArg (HO.arr 9 1) (strs_snoc l k h); done))); conv => whnf)
    exact ⟨⟨by show k + 1 ≤ l.length; omega, ha.new h hm⟩, by show l.length - (k + 1) < l.length - k; omega⟩
   ·rw [mget_f] at hm
    obtain ⟨j, hj, rfl⟩ := Option.map_eq_some_iff.1 hm
    conv => whnf
    repeat (first | (refine ACode.st tys_ok rfl ?_; conv => whnf))
    refine ⟨(k + 1, a), ?_⟩
    conv => whnf
    repeat (refine And.intro ?_ ?_; (focus (first | rfl | (simp; done) | (first | exact hw1 | exact congr (congrArg HO.map p1) p2 | exact congrArg (fun x => HO.cells [AV.own 3 1 0 x, AV.om 1]) (by simp; omega) | exact congrArg (HO.arr 9 1) (strs_snoc l k h); done))); conv => whnf)
    exact ⟨⟨by show k + 1 ≤ l.length; omega, ha.old h hj⟩, by show l.length - (k + 1) < l.length - k; omega⟩
  ·have h : k = l.length := by simp at h; omega
   subst h
   conv => whnf
   repeat (first | (refine ACode.st tys_ok rfl ?_; conv => whnf))
   refine ⟨⟨by simp, closed_strs _⟩, ?_⟩
   conv => whnf
   exact ⟨a, by simp [fstA], ha⟩
set_option maxRecDepth 20000 in
set_option maxHeartbeats 4000000 in
theorem find2_spec (l : List Bs) (hl : l.length ≤ 100000) : Ctr Tryz.prog 23 [.sl 1 (l.map operA), .fn 24 []] (fun r => ∃ a, r = fstA l a ∧ FI l l.length a) := by
 refine Ctr.of_body Tryz.func23 rfl tys_ok (by kernel_rfl) ?_
 conv => whnf
 repeat (first | (refine ACode.st tys_ok rfl ?_; conv => whnf))
 refine ACode.nilCell 2 0 9 1 rfl rfl ?_
 refine ACode.loopD (fun d : Nat × Fst => mk 44 [(0, .sl 1 (l.map operA)), (1, .fn 24 []), (4, .ptr 0 0), (5, .ptr 2 0), (13, .sl 1 (l.map operA)), (14, .int .i64 l.length), (15, .int .i64 d.1)])
  (fun d => [.cells [.raw (.slice none 0 0), .raw (.map none)], .map (fkeys d.2) (fvals d.2), .cells [.own 3 1 0 d.1, .om 1], .arr 9 1 (strs (l.take d.1))]) (fun d => d.1 ≤ l.length ∧ FI l d.1 d.2) (fun d => l.length - d.1) (fun _ _ => ⟨rfl, rfl, rfl, closed_strs _, trivial⟩) ⟨(0, []), ?_⟩ (fun _ => rfl) fun d hk => ?_
 ·conv => whnf
  repeat (refine And.intro ?_ ?_; (focus (first | rfl | (simp; done) | (first | exact congrArg (AV.int .i64) (by simp); done))); conv => whnf)
  exact FI.zero l
 ·obtain ⟨k, a⟩ := d
  obtain ⟨hk, ha⟩ := hk
  repeat (first | (refine ACode.st tys_ok rfl ?_; conv => whnf))
  refine ⟨fun h => ?_, fun h => ?_⟩
  ·have h : k < l.length := by simpa using h
   have hw1 : Wr .i64 ((k : Int) + 1) = ((k + 1 : Nat) : Int) := by rw [Wr64 _ (by omega) (by omega)]; rfl
   conv => whnf
   repeat (first | (refine ACode.st tys_ok rfl ?_; conv => whnf))
   refine ⟨by omega, _, oper_get l k h, ?_⟩
   conv => whnf
   repeat (first | (refine ACode.st tys_ok rfl ?_; conv => whnf))
   refine ACall.of_spec (name2_spec l[k]) rfl fun r hr => ?_
   subst hr
   conv => whnf
   repeat (first | (refine ACode.st tys_ok rfl ?_; conv => whnf))
   refine ⟨rfl, ?_⟩
   conv => whnf
   refine ⟨⟨by simp; omega, by simp; omega⟩, ?_⟩
   conv => whnf
   repeat (first | (refine ACode.st tys_ok rfl ?_; conv => whnf))
   refine ⟨fkeys_like _ _, fun hm => ?_, fun v hm => ?_⟩
   ·have hm : alook l[k] a = none := by rw [mget_f] at hm; simpa using hm
    obtain ⟨p1, p2⟩ := put_f l[k] k a hm
    conv => whnf
    repeat (first | (refine ACode.st tys_ok rfl ?_; conv => whnf))
    refine ⟨fkeys_like _ _, ?_⟩
    conv => whnf
    repeat (first | (refine ACode.st tys_ok rfl ?_; conv => whnf))
    refine ⟨(k + 1, a ++ [(l[k], k)]), ?_⟩
    conv => whnf
    repeat (refine And.intro ?_ ?_; (focus (first | rfl | (simp; done) | (first | exact hw1 | exact congr (congrArg HO.map p1) p2 | exact congrArg (fun x => HO.cells [AV.own 3 1 0 x, AV.om 1]) (by simp; omega) | exact congrArg (HO.arr 9 1) (strs_snoc l k h); done))); conv => whnf)
    exact ⟨⟨by show k + 1 ≤ l.length; omega, ha.new h hm⟩, by show l.length - (k + 1) < l.length - k; omega⟩
   ·rw [mget_f] at hm
    obtain ⟨j, hj, rfl⟩ := Option.map_eq_some_iff.1 hm
    conv => whnf
    repeat (first | (refine ACode.st tys_ok rfl ?_; conv => whnf))
    refine ⟨(k + 1, a), ?_⟩
    conv => whnf
    repeat (refine And.intro ?_ ?_; (focus (first | rfl | (simp; done) | (first | exact hw1 | exact congr (congrArg HO.map p1) p2 | exact congrArg (fun x => HO.cells [AV.own 3 1 0 x, AV.om 1]) (by simp; omega) | exact congrArg (HO.arr 9 1) (strs_snoc l k h); done))); conv => whnf)
    exact ⟨⟨by show k + 1 ≤ l.length; omega, ha.old h hj⟩, by show l.length - (k + 1) < l.length - k; omega⟩
  ·have h : k = l.length := by simp at h; omega
   subst h
   conv => whnf
   repeat (first | (refine ACode.st tys_ok rfl ?_; conv => whnf))
   refine ⟨⟨by simp, closed_strs _⟩, ?_⟩
   conv => whnf
   exact ⟨a, by simp [fstA], ha⟩
set_option maxRecDepth 20000 in
set_option maxHeartbeats 4000000 in
theorem find3_spec (o : List OffI) (l : List Bs) (hlL : l = o.map (·.name)) (hl : l.length ≤ 100000) : Ctr Tryz.prog 25 [.sl 7 (o.map offIA), .fn 26 []] (fun r => ∃ a, r = fstA l a ∧ FI l l.length a) := by
 have hg : ∀ (k : Nat) (h : k < l.length), ∃ x, (o.map offIA)[k]? = some (offIA x) ∧ x.name = l[k] := fun k h => by
  subst hlL
  exact ⟨o[k]'(by simpa using h), by rw [List.getElem?_map, List.getElem?_eq_getElem (by simpa using h)]; rfl, by simp⟩
 have hoL : o.length = l.length := by rw [hlL]; simp
 refine Ctr.of_body Tryz.func25 rfl tys_ok (by kernel_rfl) ?_
 conv => whnf
 repeat (first | (refine ACode.st tys_ok rfl ?_; conv => whnf))
 refine ACode.nilCell 2 0 9 1 rfl rfl ?_
 refine ACode.loopD (fun d : Nat × Fst => mk 44 [(0, .sl 7 (o.map offIA)), (1, .fn 26 []), (4, .ptr 0 0), (5, .ptr 2 0), (13, .sl 7 (o.map offIA)), (14, .int .i64 l.length), (15, .int .i64 d.1)])
  (fun d => [.cells [.raw (.slice none 0 0), .raw (.map none)], .map (fkeys d.2) (fvals d.2), .cells [.own 3 1 0 d.1, .om 1], .arr 9 1 (strs (l.take d.1))]) (fun d => d.1 ≤ l.length ∧ FI l d.1 d.2) (fun d => l.length - d.1) (fun _ _ => ⟨rfl, rfl, rfl, closed_strs _, trivial⟩) ⟨(0, []), ?_⟩ (fun _ => rfl) fun d hk => ?_
 ·conv => whnf
  repeat (refine And.intro ?_ ?_; (focus (first | rfl | (simp; done) | (first | (simp [hoL]; done) | exact congrArg (AV.int .i64) (by simp [hoL]); done))); conv => whnf)
  exact FI.zero l
 ·obtain ⟨k, a⟩ := d
  obtain ⟨hk, ha⟩ := hk
  repeat (first | (refine ACode.st tys_ok rfl ?_; conv => whnf))
  refine ⟨fun h => ?_, fun h => ?_⟩
  ·have h : k < l.length := by simpa using h
   have hw1 : Wr .i64 ((k : Int) + 1) = ((k + 1 : Nat) : Int) := by rw [Wr64 _ (by omega) (by omega)]; rfl
   obtain ⟨x, hx, hxn⟩ := hg k h
   conv => whnf
   repeat (first | (refine ACode.st tys_ok rfl ?_; conv => whnf))
   refine ⟨by omega, _, hx, ?_⟩
   conv => whnf
   repeat (first | (refine ACode.st tys_ok rfl ?_; conv => whnf))
   refine ACall.of_spec (name3_spec x) rfl fun r hr => ?_
   subst hr
   conv => whnf
   repeat (first | (refine ACode.st tys_ok rfl ?_; conv => whnf))
   rw [hxn]
   refine ⟨rfl, ?_⟩
   conv => whnf
   refine ⟨⟨by simp; omega, by simp; omega⟩, ?_⟩
   conv => whnf
   repeat (first | (refine ACode.st tys_ok rfl ?_; conv => whnf))
   refine ⟨fkeys_like _ _, fun hm => ?_, fun v hm => ?_⟩
   ·have hm : alook l[k] a = none := by rw [mget_f] at hm; simpa using hm
    obtain ⟨p1, p2⟩ := put_f l[k] k a hm
    conv => whnf
    repeat (first | (refine ACode.st tys_ok rfl ?_; conv => whnf))
    refine ⟨fkeys_like _ _, ?_⟩
    conv => whnf
    repeat (first | (refine ACode.st tys_ok rfl ?_; conv => whnf))
    refine ⟨(k + 1, a ++ [(l[k], k)]), ?_⟩
    conv => whnf
    repeat (refine And.intro ?_ ?_; (focus (first | rfl | (simp; done) | (first | exact hw1 | exact congr (congrArg HO.map p1) p2 | exact congrArg (fun x => HO.cells [AV.own 3 1 0 x, AV.om 1]) (by simp; omega) | exact congrArg (HO.arr 9 1) (strs_snoc l k h); done))); conv => whnf)
    exact ⟨⟨by show k + 1 ≤ l.length; omega, ha.new h hm⟩, by show l.length - (k + 1) < l.length - k; omega⟩
   ·rw [mget_f] at hm
    obtain ⟨j, hj, rfl⟩ := Option.map_eq_some_iff.1 hm
    conv => whnf
    repeat (first | (refine ACode.st tys_ok rfl ?_; conv => whnf))
    refine ⟨(k + 1, a), ?_⟩
    conv => whnf
    repeat (refine And.intro ?_ ?_; (focus (first | rfl | (simp; done) | (first | exact hw1 | exact congr (congrArg HO.map p1) p2 | exact congrArg (fun x => HO.cells [AV.own 3 1 0 x, AV.om 1]) (by simp; omega) | exact congrArg (HO.arr 9 1) (strs_snoc l k h); done))); conv => whnf)
    exact ⟨⟨by show k + 1 ≤ l.length; omega, ha.old h hj⟩, by show l.length - (k + 1) < l.length - k; omega⟩
  ·have h : k = l.length := by simp at h; omega
   subst h
   conv => whnf
   repeat (first | (refine ACode.st tys_ok rfl ?_; conv => whnf))
   refine ⟨⟨by simp, closed_strs _⟩, ?_⟩
   conv => whnf
   exact ⟨a, by simp [fstA], ha⟩
end Go.Proofs.YtbedaolpfedacaaGreatDoor
namespace Go.Proofs.YtbedaolpfedacaaGreatDoor
open Go.Av Go.Av.Net Pl
structure SmI (n : NwI) : Prop where
 cals : n.cals.length ≤ 100000
 names : n.names.length ≤ 100000
 opers : n.opers.length ≤ 100000
 offs : n.offs.length ≤ 100000
 lins : n.lins.length ≤ 100000
 clss : n.clss.length ≤ 100000
 nmt : ∀ x ∈ n.names, x.length ≤ 8000
 opt : ∀ x ∈ n.opers, x.length ≤ 8000
 oft : ∀ x ∈ n.offs, x.name.length ≤ 8000
 lit : ∀ x ∈ n.lins, x.name.length ≤ 8000
 clt : ∀ x ∈ n.clss, x.name.length ≤ 8000
 hol : ∀ c ∈ n.cals, c.hols.length ≤ 100000 ∧ c.week.length ≤ 100000
 cod : ∀ o ∈ n.offs, o.codes.length ≤ 100000 ∧ ∀ x ∈ o.codes, x.length ≤ 8000
theorem not_any {α : Type} (p : α → Bool) (l : List α) : (!l.any fun x => !p x) = l.all p := by
 rw [List.all_eq_not_any_not]
set_option maxRecDepth 20000 in
theorem good_spec (l : List Bs) (a : Fst) (hl : l.length ≤ 100000) (h : ∀ x ∈ l, x.length ≤ 8000) : Ctr Tryz.prog 27 [fstA l a] (fun r => r = .bool (l.all isNameB)) := by
 refine Ctr.of_body Tryz.func27 rfl tys_ok (by kernel_rfl) ?_
 conv => whnf
 repeat (first | (refine ACode.st tys_ok rfl ?_; conv => whnf))
 refine ACall.of_spec (containsS_spec l _ [] (fun s => !isNameB s) hl rfl rfl fun x hx => good1_spec x (h x hx)) rfl fun r hr => ?_
 subst hr
 conv => whnf
 repeat (first | (refine ACode.st tys_ok rfl ?_; conv => whnf))
 exact congrArg AV.bool (not_any _ _)
theorem idx_mem (x : Bs) : ∀ l : List Bs, x ∈ l → ∃ j, idxOf x l = some j
 | [], h => by cases h
 | y :: l, h => by
  unfold idxOf
  by_cases e : y = x
  ·exact ⟨0, by simp [e]⟩
  ·obtain ⟨j, hj⟩ := idx_mem x l (by rcases List.mem_cons.1 h with h | h; exact absurd h.symm e; exact h)
   exact ⟨j + 1, by simp [e, hj]⟩
set_option maxRecDepth 20000 in
theorem has_spec' (l : List Bs) (a : Fst) (i : Int) (hl : l.length ≤ 100000) (ha : FI l l.length a) : Ctr Tryz.prog 31 [fstA l a, .int .i64 i] (fun r => r = .bool (refB l i)) := by
 have hsl : (strs l).length = l.length := strs_length l
 refine Ctr.of_body Tryz.func31 rfl tys_ok (by kernel_rfl) ?_
 conv => whnf
 repeat (first | (refine ACode.st tys_ok rfl ?_; conv => whnf))
 refine ACode.draw [] tys_ok (by kernel_rfl) (by kernel_rfl) ?_
 conv => whnf
 refine ⟨fun h1 => ?_, fun h1 => ?_⟩
 ·have h1 : 0 ≤ i := by simpa using h1
  conv => whnf
  refine ⟨fun h2 => ?_, fun h2 => ?_⟩
  ·have h2 : i < l.length := by simpa using h2
   have hk : i.toNat < l.length := by omega
   obtain ⟨j, hj⟩ := idx_mem l[i.toNat] l (List.getElem_mem hk)
   have hx : alook l[i.toNat] a = some j := by rw [ha, List.take_length]; exact hj
   have hm : mget (.str l[i.toNat]) (fkeys a) (fvals a) = some (.int .i64 j) := by rw [mget_f, hx]; rfl
   have hres : refB l i = decide ((j : Int) = i) := by
    unfold refB
    rw [List.getElem?_eq_getElem hk, decide_eq_true h1]
    simp only [Bool.true_and, hj, Option.some.injEq]
    rw [decide_eq_decide]
    omega
   conv => whnf
   refine ⟨by omega, _, strs_get l i.toNat hk, ?_⟩
   conv => whnf
   refine ⟨fkeys_like _ _, fun hm' => absurd (hm'.symm.trans hm) (by simp), fun v hm' => ?_⟩
   obtain rfl := Option.some.inj (hm'.symm.trans hm)
   conv => whnf
   refine ⟨fun h3 => ?_, fun h3 => ?_⟩
   ·conv => whnf
    repeat (first | (refine ACode.st tys_ok rfl ?_; conv => whnf))
    exact congrArg AV.bool (hres.trans h3).symm
   ·conv => whnf
    repeat (first | (refine ACode.st tys_ok rfl ?_; conv => whnf))
    exact congrArg AV.bool (hres.trans h3).symm
  ·have h2 : l.length ≤ i := by simpa using h2
   conv => whnf
   repeat (first | (refine ACode.st tys_ok rfl ?_; conv => whnf))
   refine congrArg AV.bool ?_
   unfold refB
   rw [List.getElem?_eq_none (by omega)]
   simp
 ·conv => whnf
  repeat (first | (refine ACode.st tys_ok rfl ?_; conv => whnf))
  refine congrArg AV.bool ?_
  unfold refB
  rw [h1]
  rfl
end Go.Proofs.YtbedaolpfedacaaGreatDoor
