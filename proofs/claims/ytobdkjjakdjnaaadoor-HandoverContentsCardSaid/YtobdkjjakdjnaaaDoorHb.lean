import Derived.Test.YtobdkjjakdjnaaaDoorHa
set_option linter.unusedVariables false
set_option linter.unusedSimpArgs false
set_option maxRecDepth 100000
namespace Go.Proofs.YtobdkjjakdjnaaaDoor
open Go.Av
def ab : List (List UInt8) := [[65], [66]]
def sealC : List UInt8 := [67, 48, 46, 49, 50, 48]
theorem height_1 : height 1 = 0 := by rw [height]; rfl
theorem height_2 : height 2 = 1 := by rw [height, height]; rfl
theorem height_ab : height ab.length = 1 := height_2
theorem leaves_ab : leaves ab = [1400794581, 1400794582] := by decide +kernel
theorem up_ab : up [1400794581, 1400794582] = [358929923] := by decide +kernel
theorem rows_ab : rowsOf ab = [[1400794581, 1400794582], [358929923]] := by
  rw [rowsOf, if_neg (by decide), levels, leaves_length, height_ab, leaves_ab]
  show [tier 0 _, tier 1 _] = _
  simp only [tier, up_ab]
theorem root_ab : rootOf ab = 358929923 := by
  rw [rootOf, if_neg (by decide), rows_ab]; rfl
theorem path_ab0 : pathOf ab 0 = [1400794582] := by
  rw [pathOf, if_neg (by decide), pathL, leaves_length, height_ab, leaves_ab]
  show [sib (tier 0 _) _] = _
  simp only [tier]
  decide +kernel
theorem path_ab1 : pathOf ab 1 = [1400794581] := by
  rw [pathOf, if_neg (by decide), pathL, leaves_length, height_ab, leaves_ab]
  show [sib (tier 0 _) _] = _
  simp only [tier]
  decide +kernel
def dAB : DD := ⟨sealC, 0, 1, 120, 2, 358929923, 283682687, 1686477208⟩
theorem write_ab : writeR [5, 9] 0 1 sealC 120 ab = .tuple [dAB.av, .int .i64 0] := by
  have hb : writeB [5, 9] 0 1 sealC 120 ab = true := by unfold writeB wD0; rw [root_ab]; decide +kernel
  have e1 : sumL (firstL [5, 9] ⟨sealC, 0, 1, 120, 2, 358929923, 0, 0⟩) = 283682687 := by decide +kernel
  have e2 : sumL (secondL [5, 9] ⟨sealC, 0, 1, 120, 2, 358929923, 283682687, 0⟩) = 1686477208 := by decide +kernel
  rw [writeR, if_pos hb, writeD, wD1, wD0, root_ab]
  have hl : ((ab.length : Nat) : Int) = 2 := rfl
  rw [hl, e1, e2]
  rfl
theorem write_no : writeR [5, 9] 0 2 sealC 120 [[65]] = .tuple [zeroD.av, .int .i64 1] := by
  have hb : writeB [5, 9] 0 2 sealC 120 [[65]] = false := by simp [writeB, malB, wD0, docB, belowB]
  rw [writeR, hb]; rfl
theorem prove_ab0 : proveR ab 0 = .tuple [.agg [.int .i64 0, .sl 1 (ints [1400794582])], .int .i64 0] := by
  rw [proveR, if_pos (by decide +kernel), path_ab0]
theorem prove_ab1 : proveR ab 1 = .tuple [.agg [.int .i64 1, .sl 1 (ints [1400794581])], .int .i64 0] := by
  rw [proveR, if_pos (by decide +kernel), path_ab1]
theorem ab_small : ∀ s ∈ ab, s.length ≤ 9223372036854775807 := by decide
theorem head33_spec : Ctr Tryd.prog 10 [] (fun r => r = .bool true) := by
  refine Ctr.of_body Tryd.func10 rfl tys_ok (by kernel_rfl) ?_
  conv => whnf
  refine cd_sound tys_ok _ ?_
  conv => whnf
  refine ACall.freeze 0 ?_ (by kernel_rfl)
  conv => whnf
  refine ⟨by simp [closed], ?_⟩
  conv => whnf
  repeat (refine ⟨(by first | rfl | (simp; done) : (_ : Nat) = _), ?_⟩; conv => whnf)
  refine ACall.freeze 1 ?_ (by kernel_rfl)
  conv => whnf
  refine ⟨by simp [closed], ?_⟩
  conv => whnf
  repeat (refine ⟨(by first | rfl | (simp; done) : (_ : Nat) = _), ?_⟩; conv => whnf)
  refine ACall.of_spec (Write_spec [5, 9] 0 1 sealC 120 ab (by decide) (by decide) ab_small) rfl fun r hr => ?_
  rw [write_ab] at hr
  subst hr
  conv => whnf
  refine ACall.freeze 3 ?_ (by kernel_rfl)
  conv => whnf
  refine ⟨by simp [closed], ?_⟩
  conv => whnf
  repeat (refine ⟨(by first | rfl | (simp; done) : (_ : Nat) = _), ?_⟩; conv => whnf)
  refine ACall.of_spec (Write_spec [5, 9] 0 2 sealC 120 [[65]] (by decide) (by decide) (by decide)) rfl fun r hr => ?_
  rw [write_no] at hr
  subst hr
  conv => whnf
  refine ACall.of_spec (Prove_spec ab 0 (by decide) ab_small) rfl fun r hr => ?_
  rw [prove_ab0] at hr
  subst hr
  conv => whnf
  refine ACall.of_spec (Prove_spec ab 1 (by decide) ab_small) rfl fun r hr => ?_
  rw [prove_ab1] at hr
  subst hr
  conv => whnf
  refine ACode.draw [] tys_ok (by kernel_rfl) (by kernel_rfl) ?_
  conv => whnf
  repeat (first | (refine ⟨fun _ => ?_, fun h => absurd h (by decide +kernel)⟩; conv => whnf) | (refine ⟨fun h => absurd h (by decide +kernel), fun _ => ?_⟩; conv => whnf) | (refine ⟨by decide, _, rfl, ?_⟩; conv => whnf))
  refine ⟨_, ⟨Root_spec ab (by decide) (by decide), rfl⟩, ?_⟩
  rw [root_ab]
  conv => whnf
  repeat (first | (refine ⟨fun _ => ?_, fun h => absurd h (by decide +kernel)⟩; conv => whnf) | (refine ⟨fun h => absurd h (by decide +kernel), fun _ => ?_⟩; conv => whnf) | (refine ⟨by decide, _, rfl, ?_⟩; conv => whnf))
  refine ⟨_, ⟨Check_spec [5, 9] dAB (by decide), rfl⟩, ?_⟩
  rw [show checkE [5, 9] dAB = 0 from by decide +kernel]
  conv => whnf
  repeat (first | (refine ⟨fun _ => ?_, fun h => absurd h (by decide +kernel)⟩; conv => whnf) | (refine ⟨fun h => absurd h (by decide +kernel), fun _ => ?_⟩; conv => whnf) | (refine ⟨by decide, _, rfl, ?_⟩; conv => whnf))
  refine ACall.of_spec (Check_spec [5, 9] ⟨sealC, 0, 1, 121, 2, 358929923, 283682687, 1686477208⟩ (by decide)) rfl fun r hr => ?_
  rw [(show checkE [5, 9] ⟨sealC, 0, 1, 121, 2, 358929923, 283682687, 1686477208⟩ = 330 from by decide +kernel)] at hr
  subst hr
  conv => whnf
  repeat (first | (refine ⟨fun _ => ?_, fun h => absurd h (by decide +kernel)⟩; conv => whnf) | (refine ⟨fun h => absurd h (by decide +kernel), fun _ => ?_⟩; conv => whnf) | (refine ⟨by decide, _, rfl, ?_⟩; conv => whnf))
  refine ACall.of_spec (Verify_spec [5, 9] dAB [66] 1 [1400794581] (by decide) (by decide) (by decide)) rfl fun r hr => ?_
  rw [(show verifyE [5, 9] dAB [66] 1 [1400794581] = 0 from by decide +kernel)] at hr
  subst hr
  conv => whnf
  repeat (first | (refine ⟨fun _ => ?_, fun h => absurd h (by decide +kernel)⟩; conv => whnf) | (refine ⟨fun h => absurd h (by decide +kernel), fun _ => ?_⟩; conv => whnf) | (refine ⟨by decide, _, rfl, ?_⟩; conv => whnf))
  refine ACall.of_spec (Verify_spec [5, 9] dAB [66] 0 [1400794582] (by decide) (by decide) (by decide)) rfl fun r hr => ?_
  rw [(show verifyE [5, 9] dAB [66] 0 [1400794582] = 190 from by decide +kernel)] at hr
  subst hr
  conv => whnf
  repeat (first | (refine ⟨fun _ => ?_, fun h => absurd h (by decide +kernel)⟩; conv => whnf) | (refine ⟨fun h => absurd h (by decide +kernel), fun _ => ?_⟩; conv => whnf) | (refine ⟨by decide, _, rfl, ?_⟩; conv => whnf))
  refine ACall.args (args' := [.sl 1 (ints [5, 9]), .agg [.str dAB.lab, .int .i64 dAB.frm, .int .i64 dAB.to, .int .i64 dAB.time, .int .i64 dAB.count, .int .i64 dAB.root, .int .i64 dAB.give, .int .i64 dAB.take, .str [66], .int .i64 2, .sl 1 (ints [])]]) ⟨rfl, ⟨rfl, rfl, rfl, rfl, rfl, rfl, rfl, rfl, rfl, rfl, trivial, trivial⟩, trivial⟩ ?_
  refine ACall.of_spec (Verify_spec [5, 9] dAB [66] 2 [] (by decide) (by decide) (by decide)) rfl fun r hr => ?_
  rw [(show verifyE [5, 9] dAB [66] 2 [] = 1 from by decide +kernel)] at hr
  subst hr
  conv => whnf
  repeat (first | (refine ⟨fun _ => ?_, fun h => absurd h (by decide +kernel)⟩; conv => whnf) | (refine ⟨fun h => absurd h (by decide +kernel), fun _ => ?_⟩; conv => whnf) | (refine ⟨by decide, _, rfl, ?_⟩; conv => whnf))
  refine ACode.draw [] tys_ok (by kernel_rfl) (by kernel_rfl) ?_
  conv => whnf
  repeat (first | (refine ⟨fun _ => ?_, fun h => absurd h (by decide +kernel)⟩; conv => whnf) | (refine ⟨fun h => absurd h (by decide +kernel), fun _ => ?_⟩; conv => whnf) | (refine ⟨by decide, _, rfl, ?_⟩; conv => whnf))
  refine ⟨⟨rfl, by simp [closed]⟩, ?_⟩
  conv => whnf
  refine ⟨_, ⟨Check_spec [5, 8] dAB (by decide), rfl⟩, ?_⟩
  rw [show checkE [5, 8] dAB = 330 from by decide +kernel]
  conv => whnf
  repeat (first | (refine ⟨fun _ => ?_, fun h => absurd h (by decide +kernel)⟩; conv => whnf) | (refine ⟨fun h => absurd h (by decide +kernel), fun _ => ?_⟩; conv => whnf) | (refine ⟨by decide, _, rfl, ?_⟩; conv => whnf))
end Go.Proofs.YtobdkjjakdjnaaaDoor

set_option linter.unusedVariables false
set_option linter.unusedSimpArgs false
set_option maxRecDepth 100000
namespace Go.Proofs.YtobdkjjakdjnaaaDoor
open Go.Av
/-- A paper. -/
def papA (d : DD) (s : List UInt8) (i : Int) (path : List Int) : AV := .agg [.str d.lab, .int .i64 d.frm, .int .i64 d.to, .int .i64 d.time, .int .i64 d.count, .int .i64 d.root, .int .i64 d.give, .int .i64 d.take, .str s, .int .i64 i, .sl 1 (ints path)]
theorem small_all {keys : List Int} {l : List (List UInt8)} {lab : List UInt8} {path : List Int} (h : smallB keys l lab path = true) : keys.length ≤ 10 ∧ l.length ≤ 45 ∧ lab.length ≤ 30 ∧ path.length ≤ 30 ∧ ∀ s ∈ l, s.length ≤ 30 := by
  simp only [smallB, Bool.and_eq_true, decide_eq_true_eq, List.all_eq_true] at h
  exact ⟨h.1.1.1.1, h.1.1.1.2, h.1.1.2, h.1.2, h.2⟩
theorem pathOf_len2 (l : List (List UInt8)) (i : Int) : (pathOf l i).length ≤ l.length := by
  unfold pathOf
  split
  · simp
  · have := height_le l.length; simp; omega
def wDoc (keys : List Int) (frm to : Int) (lab : List UInt8) (time : Int) (l : List (List UInt8)) : DD := if writeB keys frm to lab time l then writeD keys frm to lab time l else zeroD
def wErr (keys : List Int) (frm to : Int) (lab : List UInt8) (time : Int) (l : List (List UInt8)) : Int := if writeB keys frm to lab time l then 0 else 1
theorem writeR_eq (keys : List Int) (frm to : Int) (lab : List UInt8) (time : Int) (l : List (List UInt8)) : writeR keys frm to lab time l = .tuple [(wDoc keys frm to lab time l).av, .int .i64 (wErr keys frm to lab time l)] := by
  unfold writeR wDoc wErr; split <;> rfl
def pvB (l : List (List UInt8)) (i : Int) : Bool := contB l && belowB i l.length
def pIdx (l : List (List UInt8)) (i : Int) : Int := if pvB l i then i else 0
def pPath (l : List (List UInt8)) (i : Int) : List Int := if pvB l i then pathOf l i else []
def pErr (l : List (List UInt8)) (i : Int) : Int := if pvB l i then 0 else 1
theorem proveR_eq (l : List (List UInt8)) (i : Int) : proveR l i = .tuple [.agg [.int .i64 (pIdx l i), .sl 1 (ints (pPath l i))], .int .i64 (pErr l i)] := by
  unfold proveR pIdx pPath pErr pvB; split <;> rfl
theorem pPath_len (l : List (List UInt8)) (i : Int) (hl : l.length ≤ 1000) : (pPath l i).length ≤ 1000 := by
  unfold pPath; split
  · have := pathOf_len2 l i; omega
  · simp
theorem law1 (keys : List Int) (frm to : Int) (lab : List UInt8) (time : Int) (l : List (List UInt8)) (index : Int) (d : DD) (s : List UInt8) (i : Int) (path : List Int)
    (hk : keys.length ≤ 9223372036854775807) (hlab : lab.length ≤ 9223372036854775807) (hl : l.length ≤ 9223372036854775807) (hls : ∀ s ∈ l, s.length ≤ 9223372036854775807) (hd : d.lab.length ≤ 9223372036854775807) (hs : s.length ≤ 9223372036854775807) :
    Ctr Tryd.prog 3 [.sl 1 (ints keys), .int .i64 frm, .int .i64 to, .str lab, .int .i64 time, .sl 1 (strs l), .int .i64 index, papA d s i path] (fun r => r = .bool true) := by
  refine Ctr.of_body Tryd.func3 rfl tys_ok (by kernel_rfl) ?_
  conv => whnf
  refine cd_sound tys_ok _ ?_
  conv => whnf
  refine ACall.of_spec (head33_spec) rfl fun r hr => ?_
  subst hr
  conv => whnf
  refine ACall.of_spec (Small_spec keys l lab path) rfl fun r hr => ?_
  subst hr
  conv => whnf
  refine ⟨fun e1 => ?_, fun e1 => ?_⟩; rotate_left
  · conv => whnf
  simp at e1
  obtain ⟨a1, a2, a3, a4, a5⟩ := small_all e1
  conv => whnf
  refine ⟨fun e2 => ?_, fun e2 => ?_⟩; rotate_left
  · conv => whnf
  simp at e2
  conv => whnf
  refine ⟨fun e3 => ?_, fun e3 => ?_⟩
  · conv => whnf
  simp at e3
  conv => whnf
  refine ACall.of_spec (Write_spec keys frm to lab time l hlab hl hls) rfl fun r hr => ?_
  rw [writeR_eq] at hr
  subst hr
  conv => whnf
  refine ACall.of_spec (refWrite_spec keys frm to lab time l hk hlab hl hls) rfl fun r hr => ?_
  rw [writeR_eq] at hr
  subst hr
  conv => whnf
  refine ACall.of_spec (Prove_spec l index hl hls) rfl fun r hr => ?_
  rw [proveR_eq] at hr
  subst hr
  conv => whnf
  refine ACall.of_spec (refProve_spec l index hl hls) rfl fun r hr => ?_
  rw [proveR_eq] at hr
  subst hr
  conv => whnf
  refine ACode.draw [] tys_ok (by kernel_rfl) (by kernel_rfl) ?_
  conv => whnf
  repeat (refine ⟨fun _ => ?_, fun h => absurd h (by simp)⟩; conv => whnf)
  have hpl := pPath_len l index (by omega)
  refine ⟨_, ⟨SameProof_spec (pIdx l index) (pIdx l index) (pPath l index) (pPath l index) (by omega) (by omega), rfl⟩, ?_⟩
  conv => whnf
  repeat (refine ⟨fun _ => ?_, fun h => absurd h (by simp)⟩; conv => whnf)
  refine ⟨_, ⟨Check_spec keys d hd, rfl⟩, ?_⟩
  conv => whnf
  refine ⟨_, ⟨refCheck_spec keys d hk hd, rfl⟩, ?_⟩
  conv => whnf
  repeat (refine ⟨fun _ => ?_, fun h => absurd h (by simp)⟩; conv => whnf)
  refine ⟨_, ⟨Verify_spec keys d s i path hd hs (by omega), rfl⟩, ?_⟩
  conv => whnf
  refine ⟨_, ⟨refVerify_spec keys d s i path hk hd hs (by omega), rfl⟩, ?_⟩
  conv => whnf
  repeat (refine ⟨fun _ => ?_, fun h => absurd h (by simp)⟩; conv => whnf)
end Go.Proofs.YtobdkjjakdjnaaaDoor

set_option linter.unusedVariables false
set_option linter.unusedSimpArgs false
set_option maxRecDepth 100000
namespace Go.Proofs.YtobdkjjakdjnaaaDoor
open Go.Av
theorem remB_sum (l : List Int) : remB (sumL l) = true := by
  have := sumL_bd l
  simp [remB, belowB]; omega
theorem writeB_parts {keys : List Int} {frm to : Int} {lab : List UInt8} {time : Int} {l : List (List UInt8)} (h : writeB keys frm to lab time l = true) : contB l = true ∧ keysB keys = true ∧ docB keys.length (wD0 frm to lab time l) = true := by
  simp [writeB, malB] at h; exact h
theorem written_ok {keys : List Int} {frm to : Int} {lab : List UInt8} {time : Int} {l : List (List UInt8)} (h : writeB keys frm to lab time l = true) : malB keys (writeD keys frm to lab time l) = false ∧ forB keys (writeD keys frm to lab time l) = false := by
  obtain ⟨h1, h2, h3⟩ := writeB_parts h
  constructor
  · simp only [malB, h2, Bool.not_true, Bool.false_or]
    rw [docB_iff] at h3
    have : docB keys.length (writeD keys frm to lab time l) = true := by
      rw [docB_iff]
      exact ⟨h3.1, h3.2.1, h3.2.2.1, h3.2.2.2.1, h3.2.2.2.2.1, h3.2.2.2.2.2.1, remB_sum _, remB_sum _⟩
    rw [this]; rfl
  · have e1 : (writeD keys frm to lab time l).give = sumL (firstL keys (writeD keys frm to lab time l)) := rfl
    have e2 : (writeD keys frm to lab time l).take = sumL (secondL keys (writeD keys frm to lab time l)) := rfl
    simp only [forB, ← e1, ← e2]; simp
theorem checkE_zero {keys : List Int} {d : DD} : checkE keys d = 0 ↔ malB keys d = false ∧ forB keys d = false := by
  unfold checkE
  by_cases a : malB keys d = true
  · simp [a]
  · by_cases b : forB keys d = true
    · simp [a, b]
    · simp [a, b]
theorem verify_zero {keys : List Int} {d : DD} {s : List UInt8} {i : Int} {path : List Int} : verifyE keys d s i path = 0 ↔ malB keys d = false ∧ forB keys d = false ∧ misB d s i = false ∧ unpB d s i path = false := by
  unfold verifyE
  by_cases a : malB keys d = true
  · simp [a]
  · by_cases b : forB keys d = true
    · simp [a, b]
    · by_cases c : misB d s i = true
      · simp [a, b, c]
      · by_cases e : unpB d s i path = true
        · simp [a, b, c, e]
        · simp [a, b, c, e]
theorem proved_ok {keys : List Int} {frm to : Int} {lab : List UInt8} {time : Int} {l : List (List UInt8)} (h : writeB keys frm to lab time l = true) (k : Nat) (hk : k < l.length) :
    verifyE keys (writeD keys frm to lab time l) l[k] k (pathOf l k) = 0 := by
  obtain ⟨h1, h2, h3⟩ := writeB_parts h
  obtain ⟨h4, h5⟩ := written_ok h
  rw [verify_zero]
  simp only [contB, Bool.and_eq_true, decide_eq_true_eq, List.all_eq_true] at h1
  refine ⟨h4, h5, ?_, ?_⟩
  · have := h1.2 l[k] (List.getElem_mem hk)
    have e : (writeD keys frm to lab time l).count = l.length := rfl
    simp [misB, this, belowB, e]; omega
  · have e : (writeD keys frm to lab time l).root = rootOf l := rfl
    obtain ⟨c1, c2, c3⟩ := climb_path l k l[k] (leaves l) (by simpa using hk) (by simp; omega) (leaves_getD l k hk) (bd_leaves l)
    have hne : l ≠ [] := by rintro rfl; simp at hk
    have hp := pathOf_eq l k hk (by omega)
    have hr := rootOf_eq l hne (by omega)
    rw [leaves_length] at c1
    simp only [unpB, e]
    rw [hp, hr, c1]
    rw [leaves_length] at c2
    have : (climbOf l[k] (↑k) (pathL (leaves l) k (height l.length))).2.isEmpty = false := by
      rw [List.isEmpty_eq_false_iff]; intro e; rw [e] at c2; simp at c2
    simp [this]
theorem law2 (keys : List Int) (frm to : Int) (lab : List UInt8) (time : Int) (l : List (List UInt8))
    (hk : keys.length ≤ 9223372036854775807) (hlab : lab.length ≤ 9223372036854775807) (hl : l.length ≤ 9223372036854775807) (hls : ∀ s ∈ l, s.length ≤ 9223372036854775807) :
    Ctr Tryd.prog 4 [.sl 1 (ints keys), .int .i64 frm, .int .i64 to, .str lab, .int .i64 time, .sl 1 (strs l)] (fun r => r = .bool true) := by
  refine Ctr.of_body Tryd.func4 rfl tys_ok (by kernel_rfl) ?_
  conv => whnf
  refine cd_sound tys_ok _ ?_
  conv => whnf
  refine ACall.of_spec (head33_spec) rfl fun r hr => ?_
  subst hr
  conv => whnf
  refine ACall.args (args' := [.sl 1 (ints keys), .sl 1 (strs l), .str lab, .sl 1 (ints [])]) ⟨rfl, rfl, rfl, trivial, trivial⟩ ?_
  refine ACall.of_spec (Small_spec keys l lab []) rfl fun r hr => ?_
  subst hr
  conv => whnf
  refine ⟨fun e1 => ?_, fun e1 => ?_⟩
  · conv => whnf
  simp at e1
  obtain ⟨a1, a2, a3, a4, a5⟩ := small_all e1
  conv => whnf
  refine ACall.of_spec (Write_spec keys frm to lab time l hlab hl hls) rfl fun r hr => ?_
  rw [writeR_eq] at hr
  subst hr
  conv => whnf
  cases hb : writeB keys frm to lab time l with
  | false =>
    have hE : wErr keys frm to lab time l = 1 := by simp [wErr, hb]
    have hD : wDoc keys frm to lab time l = zeroD := by simp [wDoc, hb]
    rw [hE, hD]
    repeat (first | (refine ⟨fun _ => ?_, fun h => absurd h (by decide +kernel)⟩; conv => whnf) | (refine ⟨fun h => absurd h (by decide +kernel), fun _ => ?_⟩; conv => whnf) | (refine ⟨by decide, _, rfl, ?_⟩; conv => whnf))
    simp [zeroD]
  | true =>
    have hE : wErr keys frm to lab time l = 0 := by simp [wErr, hb]
    have hD : wDoc keys frm to lab time l = writeD keys frm to lab time l := by simp [wDoc, hb]
    have hck := checkE_zero.2 (written_ok hb)
    rw [hE, hD]
    repeat (first | (refine ⟨fun _ => ?_, fun h => absurd h (by decide +kernel)⟩; conv => whnf) | (refine ⟨fun h => absurd h (by decide +kernel), fun _ => ?_⟩; conv => whnf) | (refine ⟨by decide, _, rfl, ?_⟩; conv => whnf))
    have hs' : ∀ s ∈ l, s.length ≤ 1000000 := fun s h => by have := a5 s h; omega
    refine ACode.draw [] tys_ok (by kernel_rfl) (by kernel_rfl) ?_
    conv => whnf
    refine ⟨_, ⟨Check_spec keys (writeD keys frm to lab time l) hlab, rfl⟩, ?_⟩
    rw [hck]
    conv => whnf
    repeat (refine ⟨fun h => absurd h (by simp [writeD]), fun _ => ?_⟩; conv => whnf)
    refine ⟨_, ⟨Root_spec l (by omega) hs', rfl⟩, ?_⟩
    conv => whnf
    repeat (refine ⟨fun h => absurd h (by simp [writeD]), fun _ => ?_⟩; conv => whnf)
    refine ACode.loopD (fun k : Nat => mk 123 [(0, .sl 1 (ints keys)), (5, .sl 1 (strs l)), (13, .bool true), (14, .ptr 0 0), (16, .int .i64 k)]) (fun _ => [HO.cells [.str (writeD keys frm to lab time l).lab, .int .i64 (writeD keys frm to lab time l).frm, .int .i64 (writeD keys frm to lab time l).to, .int .i64 (writeD keys frm to lab time l).time, .int .i64 (writeD keys frm to lab time l).count, .int .i64 (writeD keys frm to lab time l).root, .int .i64 (writeD keys frm to lab time l).give, .int .i64 (writeD keys frm to lab time l).take]] ++ List.replicate 42 HO.dead) (fun k => k ≤ l.length) (fun k => l.length - k) (fun k hk => ⟨rfl, rfl, trivial⟩) ⟨0, ?_⟩ (fun _ => rfl) fun k hk => ?_
    · conv => whnf
      repeat (refine And.intro ?_ ?_; (focus (first | rfl | (simp; done))); conv => whnf)
      exact Nat.zero_le _
    · refine cd_sound tys_ok _ ?_
      conv => whnf
      refine ⟨fun hlt => ?_, fun hge => ?_⟩
      · have hlt : k < l.length := by simpa using hlt
        have hc := (writeB_parts hb).1
        have hpv : pvB l k = true := by simp [pvB, hc, belowB, hlt]
        have hpr : proveR l k = .tuple [.agg [.int .i64 k, .sl 1 (ints (pathOf l k))], .int .i64 0] := by
          rw [proveR_eq]; simp [pIdx, pPath, pErr, hpv]
        have hvo := proved_ok hb k hlt
        have hpl := pathOf_len2 l k
        conv => whnf
        refine ACall.of_spec (Prove_spec l k hl hls) rfl fun r hr => ?_
        rw [hpr] at hr
        subst hr
        conv => whnf
        refine ACode.draw [] tys_ok (by kernel_rfl) (by kernel_rfl) ?_
        conv => whnf
        repeat (refine ⟨fun h => absurd h (by simp), fun _ => ?_⟩; conv => whnf)
        refine ⟨by omega, .str l[k], strs_get l k hlt, ?_⟩
        conv => whnf
        refine ⟨_, ⟨Verify_spec keys (writeD keys frm to lab time l) l[k] k (pathOf l k) hlab (hls _ (List.getElem_mem hlt)) (by omega), rfl⟩, ?_⟩
        rw [hvo]
        conv => whnf
        repeat (refine ⟨fun h => absurd h (by simp), fun _ => ?_⟩; conv => whnf)
        refine ⟨k + 1, ?_⟩
        conv => whnf
        repeat (refine And.intro ?_ ?_; (focus (first | rfl | (simp; done) | (rw [Wr64 _ (by omega) (by omega)]; omega))); conv => whnf)
        exact ⟨by omega, by omega⟩
      · conv => whnf
end Go.Proofs.YtobdkjjakdjnaaaDoor

set_option linter.unusedVariables false
set_option linter.unusedSimpArgs false
set_option maxRecDepth 100000
namespace Go.Proofs.YtobdkjjakdjnaaaDoor
open Go.Av
theorem checkE_sign {keys : List Int} {d : DD} (h1 : malB keys d = false) (h2 : forB keys d = true) : checkE keys d = 330 := by
  simp [checkE, h1, h2]
theorem forB_false {keys : List Int} {d : DD} : forB keys d = false ↔ d.give = sumL (firstL keys d) ∧ d.take = sumL (secondL keys d) := by
  simp [forB]
theorem malB_false {keys : List Int} {d : DD} : malB keys d = false ↔ keysB keys = true ∧ docB keys.length d = true := by
  simp [malB]
theorem remB_iff {x : Int} : remB x = true ↔ 0 ≤ x ∧ x < 2147483647 := by simp [remB, belowB]
/-- Another number in the list that is signed first has another digest. -/
theorem sum_other (a : List Int) (k : Nat) (o : Int) (hk : k < a.length) (h0 : 0 ≤ o) (h1 : o < 2147483647) (h2 : 0 ≤ a[k]) (h3 : a[k] < 2147483647) (hne : o ≠ a[k]) : sumL (a.set k o) ≠ sumL a := by
  intro h
  have := (sumL_set a k o hk).1 h
  rw [Int.emod_eq_of_lt h0 h1, Int.emod_eq_of_lt h2 h3] at this
  exact hne this
theorem ch_time {keys : List Int} {d : DD} (h : checkE keys d = 0) (t : Int) (h0 : 0 ≤ t) (h1 : t ≤ 1000000) (hne : t ≠ d.time) : checkE keys { d with time := t } = 330 := by
  obtain ⟨hm, hf⟩ := checkE_zero.1 h
  have hm2 := malB_false.1 hm
  have hd := (docB_iff _ _).1 hm2.2
  refine checkE_sign (malB_false.2 ⟨hm2.1, (docB_iff _ _).2 ?_⟩) ?_
  · exact ⟨hd.1, hd.2.1, hd.2.2.1, ⟨h0, h1⟩, hd.2.2.2.2⟩
  · rw [← Bool.not_eq_false, forB_false]
    rintro ⟨h2, _⟩
    have h3 := (forB_false.1 hf).1
    have := sum_other (firstL keys d) 4 t (by simp [firstL]) h0 (by omega) (by show 0 ≤ d.time; omega) (by show d.time < _; omega) hne
    exact this (h2.symm.trans h3)
theorem ch_count {keys : List Int} {d : DD} (h : checkE keys d = 0) (t : Int) (h0 : 1 ≤ t) (h1 : t ≤ 40) (hne : t ≠ d.count) : checkE keys { d with count := t } = 330 := by
  obtain ⟨hm, hf⟩ := checkE_zero.1 h
  have hm2 := malB_false.1 hm
  have hd := (docB_iff _ _).1 hm2.2
  refine checkE_sign (malB_false.2 ⟨hm2.1, (docB_iff _ _).2 ?_⟩) ?_
  · exact ⟨hd.1, hd.2.1, hd.2.2.1, hd.2.2.2.1, ⟨h0, h1⟩, hd.2.2.2.2.2⟩
  · rw [← Bool.not_eq_false, forB_false]
    rintro ⟨h2, _⟩
    have h3 := (forB_false.1 hf).1
    have := sum_other (firstL keys d) 5 t (by simp [firstL]) (by omega) (by omega) (by show 0 ≤ d.count; omega) (by show d.count < _; omega) hne
    exact this (h2.symm.trans h3)
theorem ch_root {keys : List Int} {d : DD} (h : checkE keys d = 0) (t : Int) (h0 : 0 ≤ t) (h1 : t < 2147483647) (hne : t ≠ d.root) : checkE keys { d with root := t } = 330 := by
  obtain ⟨hm, hf⟩ := checkE_zero.1 h
  have hm2 := malB_false.1 hm
  have hd := (docB_iff _ _).1 hm2.2
  have hr := remB_iff.1 hd.2.2.2.2.2.1
  refine checkE_sign (malB_false.2 ⟨hm2.1, (docB_iff _ _).2 ?_⟩) ?_
  · exact ⟨hd.1, hd.2.1, hd.2.2.1, hd.2.2.2.1, hd.2.2.2.2.1, remB_iff.2 ⟨h0, h1⟩, hd.2.2.2.2.2.2⟩
  · rw [← Bool.not_eq_false, forB_false]
    rintro ⟨h2, _⟩
    have h3 := (forB_false.1 hf).1
    have := sum_other (firstL keys d) 6 t (by simp [firstL]) (by omega) (by omega) hr.1 hr.2 hne
    exact this (h2.symm.trans h3)
theorem ch_give {keys : List Int} {d : DD} (h : checkE keys d = 0) (t : Int) (h0 : 0 ≤ t) (h1 : t < 2147483647) (hne : t ≠ d.give) : checkE keys { d with give := t } = 330 := by
  obtain ⟨hm, hf⟩ := checkE_zero.1 h
  have hm2 := malB_false.1 hm
  have hd := (docB_iff _ _).1 hm2.2
  refine checkE_sign (malB_false.2 ⟨hm2.1, (docB_iff _ _).2 ?_⟩) ?_
  · exact ⟨hd.1, hd.2.1, hd.2.2.1, hd.2.2.2.1, hd.2.2.2.2.1, hd.2.2.2.2.2.1, remB_iff.2 ⟨h0, h1⟩, hd.2.2.2.2.2.2.2⟩
  · rw [← Bool.not_eq_false, forB_false]
    rintro ⟨h2, _⟩
    exact hne (h2.trans (forB_false.1 hf).1.symm)
theorem ch_take {keys : List Int} {d : DD} (h : checkE keys d = 0) (t : Int) (h0 : 0 ≤ t) (h1 : t < 2147483647) (hne : t ≠ d.take) : checkE keys { d with take := t } = 330 := by
  obtain ⟨hm, hf⟩ := checkE_zero.1 h
  have hm2 := malB_false.1 hm
  have hd := (docB_iff _ _).1 hm2.2
  refine checkE_sign (malB_false.2 ⟨hm2.1, (docB_iff _ _).2 ?_⟩) ?_
  · exact ⟨hd.1, hd.2.1, hd.2.2.1, hd.2.2.2.1, hd.2.2.2.2.1, hd.2.2.2.2.2.1, hd.2.2.2.2.2.2.1, remB_iff.2 ⟨h0, h1⟩⟩
  · rw [← Bool.not_eq_false, forB_false]
    rintro ⟨_, h2⟩
    exact hne (h2.trans (forB_false.1 hf).2.symm)
theorem law3 (keys : List Int) (d : DD) (which bz : Int) (hd : d.lab.length ≤ 9223372036854775807) (w0 : 0 ≤ which) (w1 : which ≤ 255) (b0 : 0 ≤ bz) (b1 : bz ≤ 4294967295) :
    Ctr Tryd.prog 5 [.sl 1 (ints keys), d.av, .int .u8 which, .int .u32 bz] (fun r => r = .bool true) := by
  refine Ctr.of_body Tryd.func5 rfl tys_ok (by kernel_rfl) ?_
  conv => whnf
  refine cd_sound tys_ok _ ?_
  conv => whnf
  refine ACall.of_spec (head33_spec) rfl fun r hr => ?_
  subst hr
  conv => whnf
  refine ⟨fun e1 => ?_, fun e1 => ?_⟩; rotate_left
  · conv => whnf
  simp at e1
  conv => whnf
  refine ACall.of_spec (Check_spec keys d hd) rfl fun r hr => ?_
  subst hr
  conv => whnf
  refine ⟨fun e2 => ?_, fun e2 => ?_⟩
  · conv => whnf
  simp at e2
  conv => whnf
  refine ⟨by decide, ?_⟩
  conv => whnf
  have hw : Wr .i64 bz = bz := Wr64 _ (by omega) (by omega)
  rw [hw]
  have hwm : which.tmod 5 = which % 5 := Int.tmod_eq_emod_of_nonneg w0
  rw [hwm]
  refine ⟨fun e3 => ?_, fun q0 => ?_⟩
  · conv => whnf
    refine ⟨by decide, ?_⟩
    conv => whnf
    have ht : bz.tmod 1000001 = bz % 1000001 := Int.tmod_eq_emod_of_nonneg b0
    refine ⟨fun e4 => ?_, fun e4 => ?_⟩
    · conv => whnf
    simp at e4
    conv => whnf
    refine ⟨fun _ => ?_, fun h => absurd h (by simp)⟩
    conv => whnf
    have hc := ch_time e2 (bz.tmod 1000001) (by rw [ht]; omega) (by rw [ht]; omega) e4
    refine ACall.of_spec (Check_spec keys { d with time := bz.tmod 1000001 } hd) rfl fun r hr => ?_
    subst hr
    conv => whnf
    rw [hc]; rfl
  try simp at q0
  conv => whnf
  refine ⟨fun e3 => ?_, fun q1 => ?_⟩
  · conv => whnf
    refine ⟨by decide, ?_⟩
    conv => whnf
    have ht : bz.tmod 40 = bz % 40 := Int.tmod_eq_emod_of_nonneg b0
    have hq : Wr .i64 (1 + bz.tmod 40) = 1 + bz.tmod 40 := Wr64 _ (by rw [ht]; omega) (by rw [ht]; omega)
    rw [hq]
    refine ⟨fun e4 => ?_, fun e4 => ?_⟩
    · conv => whnf
    simp at e4
    conv => whnf
    refine ⟨fun _ => ?_, fun h => absurd h (by simp)⟩
    conv => whnf
    have hc := ch_count e2 (1 + bz.tmod 40) (by rw [ht]; omega) (by rw [ht]; omega) e4
    refine ACall.of_spec (Check_spec keys { d with count := 1 + bz.tmod 40 } hd) rfl fun r hr => ?_
    subst hr
    conv => whnf
    rw [hc]; rfl
  try simp at q1
  conv => whnf
  refine ⟨fun e3 => ?_, fun q2 => ?_⟩
  · conv => whnf
    refine ⟨by decide, ?_⟩
    conv => whnf
    have ht : bz.tmod 2147483647 = bz % 2147483647 := Int.tmod_eq_emod_of_nonneg b0
    refine ⟨fun e4 => ?_, fun e4 => ?_⟩
    · conv => whnf
    simp at e4
    conv => whnf
    refine ⟨fun _ => ?_, fun h => absurd h (by simp)⟩
    conv => whnf
    have hc := ch_root e2 (bz.tmod 2147483647) (by rw [ht]; omega) (by rw [ht]; omega) e4
    refine ACall.of_spec (Check_spec keys { d with root := bz.tmod 2147483647 } hd) rfl fun r hr => ?_
    subst hr
    conv => whnf
    rw [hc]; rfl
  try simp at q2
  conv => whnf
  refine ⟨fun e3 => ?_, fun q3 => ?_⟩
  · conv => whnf
    refine ⟨by decide, ?_⟩
    conv => whnf
    have ht : bz.tmod 2147483647 = bz % 2147483647 := Int.tmod_eq_emod_of_nonneg b0
    refine ⟨fun e4 => ?_, fun e4 => ?_⟩
    · conv => whnf
    simp at e4
    conv => whnf
    refine ⟨fun _ => ?_, fun h => absurd h (by simp)⟩
    conv => whnf
    have hc := ch_give e2 (bz.tmod 2147483647) (by rw [ht]; omega) (by rw [ht]; omega) e4
    refine ACall.of_spec (Check_spec keys { d with give := bz.tmod 2147483647 } hd) rfl fun r hr => ?_
    subst hr
    conv => whnf
    rw [hc]; rfl
  try simp at q3
  conv => whnf
  refine ⟨fun e3 => ?_, fun q4 => ?_⟩
  · conv => whnf
    refine ⟨by decide, ?_⟩
    conv => whnf
    have ht : bz.tmod 2147483647 = bz % 2147483647 := Int.tmod_eq_emod_of_nonneg b0
    refine ⟨fun e4 => ?_, fun e4 => ?_⟩
    · conv => whnf
    simp at e4
    conv => whnf
    refine ⟨fun _ => ?_, fun h => absurd h (by simp)⟩
    conv => whnf
    have hc := ch_take e2 (bz.tmod 2147483647) (by rw [ht]; omega) (by rw [ht]; omega) e4
    refine ACall.of_spec (Check_spec keys { d with take := bz.tmod 2147483647 } hd) rfl fun r hr => ?_
    subst hr
    conv => whnf
    rw [hc]; rfl
  try simp at q4
  conv => whnf
  omega
end Go.Proofs.YtobdkjjakdjnaaaDoor

set_option linter.unusedVariables false
set_option linter.unusedSimpArgs false
set_option maxRecDepth 100000
namespace Go.Proofs.YtobdkjjakdjnaaaDoor
open Go.Av
theorem keysB_iff {l : List Int} : keysB l = true ↔ (1 ≤ l.length ∧ l.length ≤ 6) ∧ ∀ x ∈ l, 0 ≤ x ∧ x < 2147483647 := by
  simp [keysB, remB_iff]
theorem keysB_set {l : List Int} (h : keysB l = true) (k : Nat) (o : Int) (h0 : 0 ≤ o) (h1 : o < 2147483647) : keysB (l.set k o) = true := by
  rw [keysB_iff] at h ⊢
  rw [List.length_set]
  refine ⟨h.1, fun x hx => ?_⟩
  rcases List.mem_or_eq_of_mem_set hx with hx | rfl
  · exact h.2 x hx
  · exact ⟨h0, h1⟩
/-- With another key for the k-th operator. -/
theorem key_from {keys : List Int} {d : DD} (h : checkE keys d = 0) (k : Nat) (hk : k < keys.length) (o : Int) (h0 : 0 ≤ o) (h1 : o < 2147483647) (hne : o ≠ keys[k]) (hf : d.frm = k ∨ d.to = k) : checkE (keys.set k o) d = 330 := by
  obtain ⟨hm, hfo⟩ := checkE_zero.1 h
  have hm2 := malB_false.1 hm
  have hd := (docB_iff _ _).1 hm2.2
  have hkb := (keysB_iff.1 hm2.1).2 keys[k] (List.getElem_mem hk)
  refine checkE_sign (malB_false.2 ⟨keysB_set hm2.1 k o h0 h1, by rw [List.length_set]; exact hm2.2⟩) ?_
  rw [← Bool.not_eq_false, forB_false]
  rintro ⟨g1, g2⟩
  obtain ⟨f1, f2⟩ := forB_false.1 hfo
  rcases hf with hf | hf
  · have e : firstL (keys.set k o) d = (firstL keys d).set 0 o := by simp [firstL, hf, hk]
    have e0 : (firstL keys d)[0]'(by simp [firstL]) = keys[k] := by simp [firstL, hf, hk]
    exact sum_other (firstL keys d) 0 o (by simp [firstL]) h0 h1 (by rw [e0]; exact hkb.1) (by rw [e0]; exact hkb.2) (by rw [e0]; exact hne) (by rw [← e]; exact g1.symm.trans f1)
  · have e : secondL (keys.set k o) d = (secondL keys d).set 0 o := by simp [secondL, hf, hk]
    have e0 : (secondL keys d)[0]'(by simp [secondL]) = keys[k] := by simp [secondL, hf, hk]
    exact sum_other (secondL keys d) 0 o (by simp [secondL]) h0 h1 (by rw [e0]; exact hkb.1) (by rw [e0]; exact hkb.2) (by rw [e0]; exact hne) (by rw [← e]; exact g2.symm.trans f2)
theorem key_other {keys : List Int} {d : DD} (h : checkE keys d = 0) (k : Nat) (hk : k < keys.length) (o : Int) (h0 : 0 ≤ o) (h1 : o < 2147483647) (hf : d.frm ≠ k) (ht : d.to ≠ k) : checkE (keys.set k o) d = 0 := by
  obtain ⟨hm, hfo⟩ := checkE_zero.1 h
  have hm2 := malB_false.1 hm
  have hd := (docB_iff _ _).1 hm2.2
  rw [checkE_zero]
  refine ⟨malB_false.2 ⟨keysB_set hm2.1 k o h0 h1, by rw [List.length_set]; exact hm2.2⟩, ?_⟩
  obtain ⟨f1, f2⟩ := forB_false.1 hfo
  have e1 : firstL (keys.set k o) d = firstL keys d := by
    have : k ≠ d.frm.toNat := by omega
    simp [firstL, this]
  have e2 : secondL (keys.set k o) d = secondL keys d := by
    have : k ≠ d.to.toNat := by omega
    simp [secondL, this]
  rw [forB_false, e1, e2]
  exact ⟨f1, f2⟩
theorem law6 (keys : List Int) (d : DD) (which key : Int) (hd : d.lab.length ≤ 9223372036854775807) (w0 : 0 ≤ which) (w1 : which ≤ 255) (b0 : 0 ≤ key) (b1 : key ≤ 4294967295) :
    Ctr Tryd.prog 8 [.sl 1 (ints keys), d.av, .int .u8 which, .int .u32 key] (fun r => r = .bool true) := by
  refine Ctr.of_body Tryd.func8 rfl tys_ok (by kernel_rfl) ?_
  conv => whnf
  refine cd_sound tys_ok _ ?_
  conv => whnf
  refine ACall.of_spec (head33_spec) rfl fun r hr => ?_
  subst hr
  conv => whnf
  refine ⟨fun e1 => ?_, fun e1 => ?_⟩; rotate_left
  · conv => whnf
  simp at e1
  conv => whnf
  refine ACall.of_spec (Check_spec keys d hd) rfl fun r hr => ?_
  subst hr
  conv => whnf
  refine ⟨fun e2 => ?_, fun e2 => ?_⟩; rotate_left
  · conv => whnf
  simp at e2
  conv => whnf
  refine ⟨fun e3 => ?_, fun e3 => ?_⟩
  · conv => whnf
  simp at e3
  have hpos : 0 < keys.length := by
    cases keys with
    | nil => simp at e3
    | cons a b => simp
  have hlk := ints_length keys
  conv => whnf
  refine ⟨by omega, ?_⟩
  conv => whnf
  obtain ⟨n, hn, hlt⟩ : ∃ n : Nat, (Wr .i64 which).tmod ((ints keys).length : Int) = (n : Int) ∧ n < keys.length := by
    refine ⟨which.toNat % keys.length, ?_, Nat.mod_lt _ hpos⟩
    rw [Wr64 which (by omega) (by omega), ints_length, Int.tmod_eq_emod_of_nonneg w0, Int.natCast_emod, Int.toNat_of_nonneg w0]
  rw [hn]
  have hw : Wr .i64 key = key := Wr64 _ (by omega) (by omega)
  have ht : key.tmod 2147483647 = key % 2147483647 := Int.tmod_eq_emod_of_nonneg b0
  refine ⟨⟨rfl, by simp; omega⟩, ?_⟩
  conv => whnf
  rw [List.nil_append, hw]
  refine ⟨by decide, ?_⟩
  conv => whnf
  refine ⟨⟨by omega, by omega⟩, ?_⟩
  conv => whnf
  have hset : (ints keys).set (0 + (n : Int).toNat) (AV.int .i64 (key.tmod 2147483647)) = ints (keys.set n (key.tmod 2147483647)) := by rw [Nat.zero_add, Int.toNat_natCast]; unfold ints; rw [List.map_set]
  refine ⟨_, by rw [Nat.zero_add]; exact ints_get keys n hlt, ?_⟩
  rw [hset]
  conv => whnf
  have hl0 : (ints keys).length = (ints (keys.set n (key.tmod 2147483647))).length := by simp
  rw [hl0]
  refine ACode.freeze 1 ?_
  conv => whnf
  refine ⟨closed_ints _, ?_⟩
  conv => whnf
  repeat (refine ⟨(by first | rfl | (simp; done) : (_ : Nat) = _), ?_⟩; conv => whnf)
  have hg2 : (ints (keys.set n (key.tmod 2147483647)))[n]? = some (.int .i64 (key.tmod 2147483647)) := by rw [ints_get _ _ (by simpa using hlt)]; simp
  refine ACode.draw [] tys_ok (by kernel_rfl) (by kernel_rfl) ?_
  conv => whnf
  refine ⟨by omega, _, hg2, ?_⟩
  conv => whnf
  refine ⟨by omega, _, ints_get keys n hlt, ?_⟩
  conv => whnf
  refine ⟨fun e4 => ?_, fun e4 => ?_⟩
  · conv => whnf
  simp at e4
  conv => whnf
  refine ACall.of_spec (Check_spec (keys.set n (key.tmod 2147483647)) d hd) rfl fun r hr => ?_
  subst hr
  conv => whnf
  by_cases hf : d.frm = n ∨ d.to = n
  · rw [key_from e2 n hlt (key.tmod 2147483647) (by rw [ht]; omega) (by rw [ht]; omega) e4 hf]
    repeat' (refine And.intro (fun _ => ?_) (fun _ => ?_) <;> conv => whnf)
    all_goals first | rfl | (exfalso; simp_all <;> omega)
  · rw [key_other e2 n hlt (key.tmod 2147483647) (by rw [ht]; omega) (by rw [ht]; omega) (by omega) (by omega)]
    repeat' (refine And.intro (fun _ => ?_) (fun _ => ?_) <;> conv => whnf)
    all_goals first | rfl | (exfalso; simp_all <;> omega)
end Go.Proofs.YtobdkjjakdjnaaaDoor

set_option linter.unusedVariables false
set_option linter.unusedSimpArgs false
set_option maxRecDepth 100000
namespace Go.Proofs.YtobdkjjakdjnaaaDoor
open Go.Av
set_option maxHeartbeats 8000000 in
theorem law7 (keys : List Int) (frm to : Int) (lab : List UInt8) (time : Int) (l : List (List UInt8)) (index : Int)
    (hk : keys.length ≤ 9223372036854775807) (hlab : lab.length ≤ 9223372036854775807) (hl : l.length ≤ 9223372036854775807) (hls : ∀ s ∈ l, s.length ≤ 9223372036854775807) :
    Ctr Tryd.prog 9 [.sl 1 (ints keys), .int .i64 frm, .int .i64 to, .str lab, .int .i64 time, .sl 1 (strs l), .int .i64 index] (fun r => r = .bool true) := by
  refine Ctr.of_body Tryd.func9 rfl tys_ok (by kernel_rfl) ?_
  conv => whnf
  refine cd_sound tys_ok _ ?_
  conv => whnf
  refine ACall.of_spec (head33_spec) rfl fun r hr => ?_
  subst hr
  conv => whnf
  refine ACall.args (args' := [.sl 1 (ints keys), .sl 1 (strs l), .str lab, .sl 1 (ints [])]) ⟨rfl, rfl, rfl, trivial, trivial⟩ ?_
  refine ACall.of_spec (Small_spec keys l lab []) rfl fun r hr => ?_
  subst hr
  conv => whnf
  refine ⟨fun e1 => ?_, fun e1 => ?_⟩
  · conv => whnf
  simp at e1
  obtain ⟨a1, a2, a3, a4, a5⟩ := small_all e1
  conv => whnf
  refine ACall.of_spec (Write_spec keys frm to lab time l hlab hl hls) rfl fun r hr => ?_
  rw [writeR_eq] at hr
  subst hr
  conv => whnf
  refine ACall.of_spec (Prove_spec l index hl hls) rfl fun r hr => ?_
  rw [proveR_eq] at hr
  subst hr
  conv => whnf
  have hwv : writeB keys frm to lab time l = (keysB keys && contB l && docB keys.length ⟨lab, frm, to, time, (strs l).length, 0, 0, 0⟩) := by
    have e : docB keys.length ⟨lab, frm, to, time, (strs l).length, 0, 0, 0⟩ = docB keys.length (wD0 frm to lab time l) := by
      rw [Bool.eq_iff_iff, docB_iff, docB_iff]
      have := rootOf_rem l
      simp [wD0, this, show remB 0 = true from rfl]
    rw [e]; simp only [writeB, malB]
    cases keysB keys <;> cases contB l <;> simp
  cases hb : writeB keys frm to lab time l with
  | false =>
    have hE : wErr keys frm to lab time l = 1 := by simp [wErr, hb]
    have hD : wDoc keys frm to lab time l = zeroD := by simp [wDoc, hb]
    rw [hE, hD]
    repeat (first | (refine ⟨fun _ => ?_, fun h => absurd h (by decide +kernel)⟩; conv => whnf) | (refine ⟨fun h => absurd h (by decide +kernel), fun _ => ?_⟩; conv => whnf) | (refine ⟨by decide, _, rfl, ?_⟩; conv => whnf))
    cases hp : pvB l index with
    | false =>
      have q1 : pErr l index = 1 := by simp [pErr, hp]
      have q2 : pIdx l index = 0 := by simp [pIdx, hp]
      have q3 : pPath l index = [] := by simp [pPath, hp]
      rw [q1, q2, q3]
      repeat (first | (refine ⟨fun _ => ?_, fun h => absurd h (by decide +kernel)⟩; conv => whnf) | (refine ⟨fun h => absurd h (by decide +kernel), fun _ => ?_⟩; conv => whnf) | (refine ⟨by decide, _, rfl, ?_⟩; conv => whnf))
      refine ACall.of_spec (refKeys_spec keys hk) rfl fun r hr => ?_
      subst hr
      conv => whnf
      refine ⟨fun k1 => ?_, fun k1 => ?_⟩
      · conv => whnf
        refine ACall.of_spec (refContents_spec l hl hls) rfl fun r hr => ?_
        subst hr
        conv => whnf
        refine ⟨fun k2 => ?_, fun k2 => ?_⟩
        · conv => whnf
          refine ACall.of_spec (refValid_spec keys ⟨lab, frm, to, time, (strs l).length, 0, 0, 0⟩ hlab) rfl fun r hr => ?_
          subst hr
          conv => whnf
          have hv : docB keys.length ⟨lab, frm, to, time, (strs l).length, 0, 0, 0⟩ = writeB keys frm to lab time l := by rw [hwv, k1, k2]; simp
          rw [hv, hb]
          repeat' (refine And.intro (fun hq => ?_) (fun hq => ?_) <;> first | (exfalso; simp at hq; done) | (conv => whnf))
          all_goals first
            | (exfalso; simp_all; done)
            | (refine ACall.of_spec (refContents_spec l hl hls) rfl fun r hr => ?_
               subst hr
               conv => whnf
               repeat' (refine And.intro (fun hq => ?_) (fun hq => ?_) <;> first | (exfalso; simp at hq; done) | (conv => whnf))
               all_goals (try (simp_all [pvB, belowB] <;> omega)))
        · conv => whnf
          repeat' (refine And.intro (fun hq => ?_) (fun hq => ?_) <;> first | (exfalso; simp at hq; done) | (conv => whnf))
          all_goals first
            | (exfalso; simp_all; done)
            | (refine ACall.of_spec (refContents_spec l hl hls) rfl fun r hr => ?_
               subst hr
               conv => whnf
               repeat' (refine And.intro (fun hq => ?_) (fun hq => ?_) <;> first | (exfalso; simp at hq; done) | (conv => whnf))
               all_goals (try (simp_all [pvB, belowB] <;> omega)))
      · conv => whnf
        repeat' (refine And.intro (fun hq => ?_) (fun hq => ?_) <;> first | (exfalso; simp at hq; done) | (conv => whnf))
        all_goals first
          | (exfalso; simp_all; done)
          | (refine ACall.of_spec (refContents_spec l hl hls) rfl fun r hr => ?_
             subst hr
             conv => whnf
             repeat' (refine And.intro (fun hq => ?_) (fun hq => ?_) <;> first | (exfalso; simp at hq; done) | (conv => whnf))
             all_goals (try (simp_all [pvB, belowB] <;> omega)))
    | true =>
      have q1 : pErr l index = 0 := by simp [pErr, hp]
      rw [q1]
      repeat (first | (refine ⟨fun _ => ?_, fun h => absurd h (by decide +kernel)⟩; conv => whnf) | (refine ⟨fun h => absurd h (by decide +kernel), fun _ => ?_⟩; conv => whnf) | (refine ⟨by decide, _, rfl, ?_⟩; conv => whnf))
      refine ACall.of_spec (refKeys_spec keys hk) rfl fun r hr => ?_
      subst hr
      conv => whnf
      refine ⟨fun k1 => ?_, fun k1 => ?_⟩
      · conv => whnf
        refine ACall.of_spec (refContents_spec l hl hls) rfl fun r hr => ?_
        subst hr
        conv => whnf
        refine ⟨fun k2 => ?_, fun k2 => ?_⟩
        · conv => whnf
          refine ACall.of_spec (refValid_spec keys ⟨lab, frm, to, time, (strs l).length, 0, 0, 0⟩ hlab) rfl fun r hr => ?_
          subst hr
          conv => whnf
          have hv : docB keys.length ⟨lab, frm, to, time, (strs l).length, 0, 0, 0⟩ = writeB keys frm to lab time l := by rw [hwv, k1, k2]; simp
          rw [hv, hb]
          repeat' (refine And.intro (fun hq => ?_) (fun hq => ?_) <;> first | (exfalso; simp at hq; done) | (conv => whnf))
          all_goals first
            | (exfalso; simp_all; done)
            | (refine ACall.of_spec (refContents_spec l hl hls) rfl fun r hr => ?_
               subst hr
               conv => whnf
               repeat' (refine And.intro (fun hq => ?_) (fun hq => ?_) <;> first | (exfalso; simp at hq; done) | (conv => whnf))
               all_goals (try (simp_all [pvB, belowB] <;> omega)))
        · conv => whnf
          repeat' (refine And.intro (fun hq => ?_) (fun hq => ?_) <;> first | (exfalso; simp at hq; done) | (conv => whnf))
          all_goals first
            | (exfalso; simp_all; done)
            | (refine ACall.of_spec (refContents_spec l hl hls) rfl fun r hr => ?_
               subst hr
               conv => whnf
               repeat' (refine And.intro (fun hq => ?_) (fun hq => ?_) <;> first | (exfalso; simp at hq; done) | (conv => whnf))
               all_goals (try (simp_all [pvB, belowB] <;> omega)))
      · conv => whnf
        repeat' (refine And.intro (fun hq => ?_) (fun hq => ?_) <;> first | (exfalso; simp at hq; done) | (conv => whnf))
        all_goals first
          | (exfalso; simp_all; done)
          | (refine ACall.of_spec (refContents_spec l hl hls) rfl fun r hr => ?_
             subst hr
             conv => whnf
             repeat' (refine And.intro (fun hq => ?_) (fun hq => ?_) <;> first | (exfalso; simp at hq; done) | (conv => whnf))
             all_goals (try (simp_all [pvB, belowB] <;> omega)))
  | true =>
    have hE : wErr keys frm to lab time l = 0 := by simp [wErr, hb]
    have hD : wDoc keys frm to lab time l = writeD keys frm to lab time l := by simp [wDoc, hb]
    rw [hE, hD]
    repeat (first | (refine ⟨fun _ => ?_, fun h => absurd h (by decide +kernel)⟩; conv => whnf) | (refine ⟨fun h => absurd h (by decide +kernel), fun _ => ?_⟩; conv => whnf) | (refine ⟨by decide, _, rfl, ?_⟩; conv => whnf))
    cases hp : pvB l index with
    | false =>
      have q1 : pErr l index = 1 := by simp [pErr, hp]
      have q2 : pIdx l index = 0 := by simp [pIdx, hp]
      have q3 : pPath l index = [] := by simp [pPath, hp]
      rw [q1, q2, q3]
      repeat (first | (refine ⟨fun _ => ?_, fun h => absurd h (by decide +kernel)⟩; conv => whnf) | (refine ⟨fun h => absurd h (by decide +kernel), fun _ => ?_⟩; conv => whnf) | (refine ⟨by decide, _, rfl, ?_⟩; conv => whnf))
      refine ACall.of_spec (refKeys_spec keys hk) rfl fun r hr => ?_
      subst hr
      conv => whnf
      refine ⟨fun k1 => ?_, fun k1 => ?_⟩
      · conv => whnf
        refine ACall.of_spec (refContents_spec l hl hls) rfl fun r hr => ?_
        subst hr
        conv => whnf
        refine ⟨fun k2 => ?_, fun k2 => ?_⟩
        · conv => whnf
          refine ACall.of_spec (refValid_spec keys ⟨lab, frm, to, time, (strs l).length, 0, 0, 0⟩ hlab) rfl fun r hr => ?_
          subst hr
          conv => whnf
          have hv : docB keys.length ⟨lab, frm, to, time, (strs l).length, 0, 0, 0⟩ = writeB keys frm to lab time l := by rw [hwv, k1, k2]; simp
          rw [hv, hb]
          repeat' (refine And.intro (fun hq => ?_) (fun hq => ?_) <;> first | (exfalso; simp at hq; done) | (conv => whnf))
          all_goals first
            | (exfalso; simp_all; done)
            | (refine ACall.of_spec (refContents_spec l hl hls) rfl fun r hr => ?_
               subst hr
               conv => whnf
               repeat' (refine And.intro (fun hq => ?_) (fun hq => ?_) <;> first | (exfalso; simp at hq; done) | (conv => whnf))
               all_goals (try (simp_all [pvB, belowB] <;> omega)))
        · conv => whnf
          repeat' (refine And.intro (fun hq => ?_) (fun hq => ?_) <;> first | (exfalso; simp at hq; done) | (conv => whnf))
          all_goals first
            | (exfalso; simp_all; done)
            | (refine ACall.of_spec (refContents_spec l hl hls) rfl fun r hr => ?_
               subst hr
               conv => whnf
               repeat' (refine And.intro (fun hq => ?_) (fun hq => ?_) <;> first | (exfalso; simp at hq; done) | (conv => whnf))
               all_goals (try (simp_all [pvB, belowB] <;> omega)))
      · conv => whnf
        repeat' (refine And.intro (fun hq => ?_) (fun hq => ?_) <;> first | (exfalso; simp at hq; done) | (conv => whnf))
        all_goals first
          | (exfalso; simp_all; done)
          | (refine ACall.of_spec (refContents_spec l hl hls) rfl fun r hr => ?_
             subst hr
             conv => whnf
             repeat' (refine And.intro (fun hq => ?_) (fun hq => ?_) <;> first | (exfalso; simp at hq; done) | (conv => whnf))
             all_goals (try (simp_all [pvB, belowB] <;> omega)))
    | true =>
      have q1 : pErr l index = 0 := by simp [pErr, hp]
      rw [q1]
      repeat (first | (refine ⟨fun _ => ?_, fun h => absurd h (by decide +kernel)⟩; conv => whnf) | (refine ⟨fun h => absurd h (by decide +kernel), fun _ => ?_⟩; conv => whnf) | (refine ⟨by decide, _, rfl, ?_⟩; conv => whnf))
      refine ACall.of_spec (refKeys_spec keys hk) rfl fun r hr => ?_
      subst hr
      conv => whnf
      refine ⟨fun k1 => ?_, fun k1 => ?_⟩
      · conv => whnf
        refine ACall.of_spec (refContents_spec l hl hls) rfl fun r hr => ?_
        subst hr
        conv => whnf
        refine ⟨fun k2 => ?_, fun k2 => ?_⟩
        · conv => whnf
          refine ACall.of_spec (refValid_spec keys ⟨lab, frm, to, time, (strs l).length, 0, 0, 0⟩ hlab) rfl fun r hr => ?_
          subst hr
          conv => whnf
          have hv : docB keys.length ⟨lab, frm, to, time, (strs l).length, 0, 0, 0⟩ = writeB keys frm to lab time l := by rw [hwv, k1, k2]; simp
          rw [hv, hb]
          repeat' (refine And.intro (fun hq => ?_) (fun hq => ?_) <;> first | (exfalso; simp at hq; done) | (conv => whnf))
          all_goals first
            | (exfalso; simp_all; done)
            | (refine ACall.of_spec (refContents_spec l hl hls) rfl fun r hr => ?_
               subst hr
               conv => whnf
               repeat' (refine And.intro (fun hq => ?_) (fun hq => ?_) <;> first | (exfalso; simp at hq; done) | (conv => whnf))
               all_goals (try (simp_all [pvB, belowB] <;> omega)))
        · conv => whnf
          repeat' (refine And.intro (fun hq => ?_) (fun hq => ?_) <;> first | (exfalso; simp at hq; done) | (conv => whnf))
          all_goals first
            | (exfalso; simp_all; done)
            | (refine ACall.of_spec (refContents_spec l hl hls) rfl fun r hr => ?_
               subst hr
               conv => whnf
               repeat' (refine And.intro (fun hq => ?_) (fun hq => ?_) <;> first | (exfalso; simp at hq; done) | (conv => whnf))
               all_goals (try (simp_all [pvB, belowB] <;> omega)))
      · conv => whnf
        repeat' (refine And.intro (fun hq => ?_) (fun hq => ?_) <;> first | (exfalso; simp at hq; done) | (conv => whnf))
        all_goals first
          | (exfalso; simp_all; done)
          | (refine ACall.of_spec (refContents_spec l hl hls) rfl fun r hr => ?_
             subst hr
             conv => whnf
             repeat' (refine And.intro (fun hq => ?_) (fun hq => ?_) <;> first | (exfalso; simp at hq; done) | (conv => whnf))
             all_goals (try (simp_all [pvB, belowB] <;> omega)))
theorem codes_inj {s t : List UInt8} (h : codes s = codes t) : s = t := by
  unfold codes at h
  exact (List.map_inj_right (fun x y h => by apply UInt8.toNat_inj.1; omega)).1 h
theorem collide_spec (a b : List Int) (ha : a.length ≤ 1000000) (hb : b.length ≤ 1000000) : Ctr Tryd.prog 25 [.sl 1 (ints a), .sl 1 (ints b)] (fun r => r = .bool (!(a == b) && decide (sumL a = sumL b))) := by
  refine Ctr.of_body Tryd.func25 rfl tys_ok (by kernel_rfl) ?_
  conv => whnf
  refine cd_sound tys_ok _ ?_
  conv => whnf
  refine ACall.of_spec (Ints_spec a b ha hb) rfl fun r hr => ?_
  subst hr
  conv => whnf
  refine ⟨fun h => ?_, fun h => ?_⟩
  · conv => whnf
    refine ACall.of_spec (Sum_spec a ha) rfl fun r hr => ?_
    subst hr
    conv => whnf
    refine ACall.of_spec (Sum_spec b hb) rfl fun r hr => ?_
    subst hr
    conv => whnf
    simp at h
    simp [h]
  · conv => whnf
    simp at h
    simp [h]
set_option maxHeartbeats 4000000 in
theorem law4 (keys : List Int) (a b : DD) (hk : keys.length ≤ 9223372036854775807) (ha : a.lab.length ≤ 9223372036854775807) (hb : b.lab.length ≤ 9223372036854775807) :
    Ctr Tryd.prog 6 [.sl 1 (ints keys), a.av, b.av] (fun r => r = .bool true) := by
  refine Ctr.of_body Tryd.func6 rfl tys_ok (by kernel_rfl) ?_
  conv => whnf
  refine cd_sound tys_ok _ ?_
  conv => whnf
  refine ACall.of_spec (head33_spec) rfl fun r hr => ?_
  subst hr
  conv => whnf
  refine ⟨fun e1 => ?_, fun e1 => ?_⟩; rotate_left
  · conv => whnf
  simp at e1
  conv => whnf
  refine ACall.of_spec (Check_spec keys a ha) rfl fun r hr => ?_
  subst hr
  conv => whnf
  refine ⟨fun e2 => ?_, fun e2 => ?_⟩; rotate_left
  · conv => whnf
  simp at e2
  conv => whnf
  refine ACall.of_spec (Check_spec keys b hb) rfl fun r hr => ?_
  subst hr
  conv => whnf
  refine ⟨fun e3 => ?_, fun e3 => ?_⟩; rotate_left
  · conv => whnf
  simp at e3
  conv => whnf
  refine ⟨fun e4 => ?_, fun e4 => ?_⟩; rotate_left
  · conv => whnf
  simp at e4
  conv => whnf
  refine ACall.of_spec (refKeys_spec keys hk) rfl fun r hr => ?_
  subst hr
  conv => whnf
  refine ⟨fun e5 => ?_, fun e5 => ?_⟩; rotate_left
  · conv => whnf
  simp at e5
  conv => whnf
  refine ACall.of_spec (refValid_spec keys a ha) rfl fun r hr => ?_
  subst hr
  conv => whnf
  refine ⟨fun e6 => ?_, fun e6 => ?_⟩; rotate_left
  · conv => whnf
  simp at e6
  conv => whnf
  refine ACall.of_spec (refValid_spec keys b hb) rfl fun r hr => ?_
  subst hr
  conv => whnf
  refine ⟨fun e7 => ?_, fun e7 => ?_⟩
  · conv => whnf
  simp at e7
  conv => whnf
  obtain ⟨hma, hfa⟩ := checkE_zero.1 e2
  obtain ⟨hmb, hfb⟩ := checkE_zero.1 e3
  obtain ⟨ga, ta⟩ := forB_false.1 hfa
  obtain ⟨gb, tb⟩ := forB_false.1 hfb
  have hda := (docB_iff _ _).1 e6
  have hdb := (docB_iff _ _).1 e7
  have hla := labelB_len hda.1
  have hlb := labelB_len hdb.1
  have hsum : sumL (firstL keys a) = sumL (firstL keys b) := by rw [← ga, ← gb, e4]
  by_cases hf : firstL keys a = firstL keys b ∧ a.lab = b.lab
  · obtain ⟨hf, hlab⟩ := hf
    have hparts : a.frm = b.frm ∧ a.to = b.to ∧ a.time = b.time ∧ a.count = b.count ∧ a.root = b.root := by
      simp only [firstL, List.cons.injEq, and_true] at hf
      exact hf.2.2
    obtain ⟨p1, p2, p3, p4, p5⟩ := hparts
    have p6 : a.take = b.take := by rw [ta, tb]; simp [secondL, p2, e4]
    repeat (refine ⟨fun _ => ?_, fun h => absurd h (by simp [hlab, p1, p2, p3, p4, p5, p6])⟩; conv => whnf)
    refine ACall.of_spec (refFirst_spec keys a (by omega) (docB_parts e6).2.1) rfl fun r hr => ?_
    subst hr
    conv => whnf
    refine ACall.of_spec (refFirst_spec keys b (by omega) (docB_parts e7).2.1) rfl fun r hr => ?_
    subst hr
    conv => whnf
    refine ACode.draw [] tys_ok (by kernel_rfl) (by kernel_rfl) ?_
    conv => whnf
    refine ⟨_, ⟨collide_spec (firstL keys a) (firstL keys b) (by simp [firstL]) (by simp [firstL]), rfl⟩, ?_⟩
    conv => whnf
    refine ⟨fun h => absurd h (by simp [hf]), fun _ => ?_⟩
    conv => whnf
    refine ⟨_, ⟨Codes_spec a.lab (by omega), rfl⟩, ?_⟩
    conv => whnf
    refine ⟨_, ⟨Codes_spec b.lab (by omega), rfl⟩, ?_⟩
    conv => whnf
    refine ⟨_, ⟨collide_spec (codes a.lab) (codes b.lab) (by simp; omega) (by simp; omega), rfl⟩, ?_⟩
    conv => whnf
    refine ⟨fun h => absurd h (by simp [hlab]), fun _ => ?_⟩
    conv => whnf
    rw [p6]
    repeat' (refine And.intro (fun hq => ?_) (fun hq => ?_) <;> first | (exfalso; simp at hq; done) | (conv => whnf))
  · have hcl : (!(firstL keys a == firstL keys b) && decide (sumL (firstL keys a) = sumL (firstL keys b)) || !(codes a.lab == codes b.lab) && decide (sumL (codes a.lab) = sumL (codes b.lab))) = true := by
      by_cases h1 : firstL keys a = firstL keys b
      · have h2 : a.lab ≠ b.lab := fun h => hf ⟨h1, h⟩
        have h3 : codes a.lab ≠ codes b.lab := fun h => h2 (codes_inj h)
        have h4 : sumL (codes a.lab) = sumL (codes b.lab) := by
          simp only [firstL, List.cons.injEq, and_true] at h1
          exact h1.2.1
        simp [h3, h4]
      · simp [h1, hsum]
    repeat' (refine And.intro (fun _ => ?_) (fun _ => ?_) <;> conv => whnf)
    all_goals
      refine ACall.of_spec (refFirst_spec keys a (by omega) (docB_parts e6).2.1) rfl fun r hr => ?_
      subst hr
      conv => whnf
      refine ACall.of_spec (refFirst_spec keys b (by omega) (docB_parts e7).2.1) rfl fun r hr => ?_
      subst hr
      conv => whnf
      refine ACode.draw [] tys_ok (by kernel_rfl) (by kernel_rfl) ?_
      conv => whnf
      refine ⟨_, ⟨collide_spec (firstL keys a) (firstL keys b) (by simp [firstL]) (by simp [firstL]), rfl⟩, ?_⟩
      conv => whnf
      refine ⟨fun q1 => ?_, fun q1 => ?_⟩
      · conv => whnf
        repeat' (refine And.intro (fun hq => ?_) (fun hq => ?_) <;> first | (exfalso; simp at hq; done) | (conv => whnf))
      · conv => whnf
        refine ⟨_, ⟨Codes_spec a.lab (by omega), rfl⟩, ?_⟩
        conv => whnf
        refine ⟨_, ⟨Codes_spec b.lab (by omega), rfl⟩, ?_⟩
        conv => whnf
        refine ⟨_, ⟨collide_spec (codes a.lab) (codes b.lab) (by simp; omega) (by simp; omega), rfl⟩, ?_⟩
        conv => whnf
        have q2 : (!(codes a.lab == codes b.lab) && decide (sumL (codes a.lab) = sumL (codes b.lab))) = true := by rw [q1] at hcl; simpa using hcl
        refine ⟨fun _ => ?_, fun h => absurd (q2.symm.trans h) (by simp)⟩
        conv => whnf
        repeat' (refine And.intro (fun hq => ?_) (fun hq => ?_) <;> first | (exfalso; simp at hq; done) | (conv => whnf))
end Go.Proofs.YtobdkjjakdjnaaaDoor
