/-
  The reference's first.
-/
import Derived.Test.YtbedaolpfedacaaGreatDoorRa3
import Derived.Test.YtbedaolpfedacaaGreatDoorPa3
import Derived.Test.YtbedaolpfedacaaGreatDoorWa3
import Derived.Test.YtbedaolpfedacaaGreatDoorWb3
set_option linter.unusedVariables false
set_option linter.unusedSimpArgs false
namespace Go.Proofs.YtbedaolpfedacaaGreatDoor
open Go.Av Go.Av.Net Pl
def firstZ (l : List Bs) (i : Int) : Int := if 0 ≤ i then (match l[i.toNat]? with | some x => (match idxOf x l with | some k => (k : Int) | none => -1) | none => -1) else -1
theorem idx_none {x : Bs} {l : List Bs} (h : ∀ j : Nat, l[j]? ≠ some x) : idxOf x l = none := by
 cases e : idxOf x l with
 | none => rfl
 | some k => exact absurd (idx_get e) (h k)
theorem idx_first {x : Bs} : ∀ {l : List Bs} {k : Nat}, l[k]? = some x → (∀ j, j < k → l[j]? ≠ some x) → idxOf x l = some k
 | [], k, h, _ => by simp at h
 | y :: l, 0, h, _ => by simp at h; subst h; unfold idxOf; simp
 | y :: l, k + 1, h, hj => by
  have h0 := hj 0 (by omega)
  have hy : ¬ y = x := by simpa using h0
  have := idx_first (l := l) (k := k) (by simpa using h) (fun j hjk => by have := hj (j + 1) (by omega); simpa using this)
  unfold idxOf
  simp [hy, this]
set_option maxRecDepth 20000 in
theorem rfirst_spec (l : List Bs) (i : Int) (hl : l.length ≤ 1000000) : Ctr Tryz.prog 71 [.sl 1 (strs l), .int .i64 i] (fun r => r = .int .i64 (firstZ l i)) := by
 have hsl : (strs l).length = l.length := strs_length l
 refine Ctr.of_body Tryz.func71 rfl tys_ok (by kernel_rfl) ?_
 conv => whnf
 repeat (first | (refine ACode.st tys_ok rfl ?_; conv => whnf))
 refine ACode.loopD (fun k : Nat => mk 32 [(0, .sl 1 (strs l)), (1, .int .i64 i), (5, .int .i64 k)]) (fun _ => []) (fun k => k ≤ l.length ∧ (0 < k → 0 ≤ i ∧ i < l.length) ∧ ∀ j, j < k → l[j]? ≠ l[i.toNat]?) (fun k => l.length - k) (fun _ _ => ⟨rfl, trivial⟩) ⟨0, ?_⟩ (fun _ => rfl) fun k hk => ?_
 ·conv => whnf
  repeat (refine And.intro ?_ ?_; (focus (first | rfl | (simp; done))); conv => whnf)
  first | exact ⟨Nat.zero_le _, fun h => absurd h (by omega), fun j h => absurd h (by omega)⟩ | exact ⟨fun h => absurd h (by omega), fun j h => absurd h (by omega)⟩ | exact fun j h => absurd h (by omega)
 ·obtain ⟨hk, h0, hj⟩ := hk
  repeat (first | (refine ACode.st tys_ok rfl ?_; conv => whnf))
  refine ⟨fun h => ?_, fun h => ?_⟩
  ·have h : k < l.length := by simpa using h
   have hw1 : Wr .i64 ((k : Int) + 1) = ((k + 1 : Nat) : Int) := by rw [Wr64 _ (by omega) (by omega)]; rfl
   conv => whnf
   repeat (first | (refine ACode.st tys_ok rfl ?_; conv => whnf))
   refine ⟨fun g => ?_, fun g => ?_⟩
   ·have g : 0 ≤ i := by simpa using g
    conv => whnf
    repeat (first | (refine ACode.st tys_ok rfl ?_; conv => whnf))
    refine ⟨fun g2 => ?_, fun g2 => ?_⟩
    ·have g2 : i < l.length := by simpa using g2
     have hi : i.toNat < l.length := by omega
     conv => whnf
     repeat (first | (refine ACode.st tys_ok rfl ?_; conv => whnf))
     refine ACode.draw [] tys_ok (by kernel_rfl) (by kernel_rfl) ?_
     conv => whnf
     refine ⟨by omega, _, strs_get l k h, ?_⟩
     conv => whnf
     refine ⟨by omega, _, strs_get l i.toNat hi, ?_⟩
     conv => whnf
     repeat (first | (refine ACode.st tys_ok rfl ?_; conv => whnf))
     refine ⟨fun e => ?_, fun e => ?_⟩
     ·have e : l[k] = l[i.toNat] := by simpa using e
      conv => whnf
      repeat (first | (refine ACode.st tys_ok rfl ?_; conv => whnf))
      refine congrArg (AV.int .i64) ?_
      have q := idx_first (x := l[i.toNat]) (by rw [List.getElem?_eq_getElem h, e]) (fun j hjk => by have := hj j hjk; rwa [List.getElem?_eq_getElem hi] at this)
      unfold firstZ
      rw [if_pos g, List.getElem?_eq_getElem hi]
      simp only [q]
     ·have e : ¬ l[k] = l[i.toNat] := by simpa using e
      conv => whnf
      repeat (first | (refine ACode.st tys_ok rfl ?_; conv => whnf))
      refine ⟨k + 1, ?_⟩
      conv => whnf
      repeat (refine And.intro ?_ ?_; (focus (first | rfl | (simp; done) | (first | exact hw1; done))); conv => whnf)
      refine ⟨⟨by omega, fun _ => ⟨g, by omega⟩, fun j hjk => ?_⟩, by omega⟩
      by_cases hjq : j = k
      ·subst hjq
       rw [List.getElem?_eq_getElem h, List.getElem?_eq_getElem hi]
       simpa using e
      ·exact hj j (by omega)
    ·have g2 : ¬ i < l.length := by simpa using g2
     conv => whnf
     repeat (first | (refine ACode.st tys_ok rfl ?_; conv => whnf))
     refine congrArg (AV.int .i64) ?_
     unfold firstZ
     rw [if_pos g, List.getElem?_eq_none (by omega)]
   ·have g : ¬ 0 ≤ i := by simpa using g
    conv => whnf
    repeat (first | (refine ACode.st tys_ok rfl ?_; conv => whnf))
    exact congrArg (AV.int .i64) (by unfold firstZ; rw [if_neg g])
  ·have h : k = l.length := by simp at h; omega
   conv => whnf
   repeat (first | (refine ACode.st tys_ok rfl ?_; conv => whnf))
   refine congrArg (AV.int .i64) ?_
   unfold firstZ
   by_cases g : 0 ≤ i
   ·rw [if_pos g]
    cases e : l[i.toNat]? with
    | none => rfl
    | some x =>
     rw [e] at hj
     have : idxOf x l = none := idx_none fun j hq => by
      have := (List.getElem?_eq_some_iff.1 hq).1
      exact hj j (by omega) hq
     simp only [this]
   ·rw [if_neg g]
end Go.Proofs.YtbedaolpfedacaaGreatDoor
namespace Go.Proofs.YtbedaolpfedacaaGreatDoor
open Go.Av Go.Av.Net Pl
theorem rnumber_spec (n : Int) : Ctr Tryz.prog 41 [.int .i64 n] (fun r => r = .bool (numB n)) := by
 refine Ctr.of_body Tryz.func41 rfl tys_ok (by kernel_rfl) ?_
 conv => whnf
 repeat (first | (refine ACode.st tys_ok rfl ?_; conv => whnf))
 repeat' (first | (refine And.intro (fun _ => ?_) (fun _ => ?_) <;> conv => whnf) | (refine ACode.st tys_ok rfl ?_; conv => whnf))
 all_goals (refine congrArg AV.bool ?_; rw [Bool.eq_iff_iff]; simp_all [numB] <;> omega)
end Go.Proofs.YtbedaolpfedacaaGreatDoor
namespace Go.Proofs.YtbedaolpfedacaaGreatDoor
open Go.Av Go.Av.Net Pl
set_option maxRecDepth 20000 in
theorem rrefers_spec (l : List Bs) (i : Int) (h : Ctr Tryz.prog 71 [.sl 1 (strs l), .int .i64 i] (fun r => r = .int .i64 (firstZ l i))) : Ctr Tryz.prog 39 [.sl 1 (strs l), .int .i64 i] (fun r => r = .bool (refB l i)) := by
 have hz : refB l i = (decide (0 ≤ i) && decide (firstZ l i = i)) := by
  unfold refB firstZ
  by_cases h0 : 0 ≤ i
  ·rw [decide_eq_true h0, if_pos h0]
   simp only [Bool.true_and]
   cases hx : l[i.toNat]? with
   | none => simp; omega
   | some x =>
    simp only
    rw [decide_eq_decide]
    cases hk : idxOf x l with
    | none => simp; omega
    | some k => simp only [Option.some.injEq]; omega
  ·rw [decide_eq_false h0]; rfl
 refine Ctr.of_body Tryz.func39 rfl tys_ok (by kernel_rfl) ?_
 conv => whnf
 repeat (first | (refine ACode.st tys_ok rfl ?_; conv => whnf))
 repeat' (first | (refine And.intro (fun _ => ?_) (fun _ => ?_) <;> conv => whnf) | (refine ACall.of_spec (h) rfl fun r hr => ?_; subst hr; conv => whnf) | (refine ACode.st tys_ok rfl ?_; conv => whnf))
 all_goals (refine congrArg AV.bool ?_; rw [hz]; rename_i q; simp at q; simp; omega)
end Go.Proofs.YtbedaolpfedacaaGreatDoor
namespace Go.Proofs.YtbedaolpfedacaaGreatDoor
open Go.Av Go.Av.Net Pl
set_option maxRecDepth 20000 in
theorem rdecimalN_spec : ∀ (k n : Nat), n < 10 ^ (k + 1) → k ≤ 12 → Ctr Tryz.prog 50 [.int .i64 n] (fun r => r = .str (digN n))
 | k, n, hn, hk => by
  have h12 : (10 : Nat) ^ (k + 1) ≤ 10 ^ 13 := Nat.pow_le_pow_right (by omega) (by omega)
  have hb : n < 10000000000000 := Nat.lt_of_lt_of_le hn h12
  have hm : ((n : Int)).tmod 10 = ((n % 10 : Nat) : Int) := by rw [Int.tmod_eq_emod_of_nonneg (by omega)]; omega
  have hd : ((n : Int)).tdiv 10 = ((n / 10 : Nat) : Int) := by rw [Int.tdiv_eq_ediv_of_nonneg (by omega)]; omega
  have hw : Wr .i64 (48 + ((n % 10 : Nat) : Int)) = 48 + ((n % 10 : Nat) : Int) := Wr64 _ (by omega) (by omega)
  have hw2 : Wr .i32 (48 + ((n % 10 : Nat) : Int)) = 48 + ((n % 10 : Nat) : Int) := Wr_eq _ _ (by unfold inK IntKind.min IntKind.max; simp [IntKind.signed, IntKind.bits]; omega)
  have hc : UInt8.ofNat (48 + ((n % 10 : Nat) : Int)).toNat = 48 + (n % 10).toUInt8 := by
   apply UInt8.toNat_inj.1
   rw [dig_nat (by omega)]
   simp [UInt8.toNat_ofNat']
   omega
  refine Ctr.of_body Tryz.func50 rfl tys_ok (by kernel_rfl) ?_
  conv => whnf
  repeat (first | (refine ACode.st tys_ok rfl ?_; conv => whnf))
  refine ⟨fun h => absurd h (by simp), fun h => ?_⟩
  conv => whnf
  repeat (first | (refine ACode.st tys_ok rfl ?_; conv => whnf))
  refine ⟨by decide, ?_⟩
  rw [hm]
  conv => whnf
  repeat (first | (refine ACode.st tys_ok rfl ?_; conv => whnf))
  rw [hw, hw2]
  refine ⟨⟨by omega, by omega⟩, ?_⟩
  rw [hc]
  conv => whnf
  repeat (first | (refine ACode.st tys_ok rfl ?_; conv => whnf))
  refine ⟨fun g => ?_, fun g => ?_⟩
  ·have g : 9 < n := by simp at g; omega
   conv => whnf
   repeat (first | (refine ACode.st tys_ok rfl ?_; conv => whnf))
   refine ⟨by decide, ?_⟩
   rw [hd]
   match k, hn, hk with
   | 0, hn, _ => exact absurd hn (by omega)
   | k + 1, hn, hk =>
    have hrec := rdecimalN_spec k (n / 10) (by rw [Nat.div_lt_iff_lt_mul (by omega)]; rw [Nat.pow_succ] at hn; exact hn) (by omega)
    have hl := digN_len k (n / 10) (by rw [Nat.div_lt_iff_lt_mul (by omega)]; rw [Nat.pow_succ] at hn; exact hn)
    have hwd : Wr .i64 ((n / 10 : Nat) : Int) = ((n / 10 : Nat) : Int) := Wr64 _ (by omega) (by omega)
    rw [hwd]
    conv => whnf
    repeat (first | (refine ACode.st tys_ok rfl ?_; conv => whnf))
    refine ACall.of_spec (hrec) rfl fun r hr => ?_
    subst hr
    conv => whnf
    repeat (first | (refine ACode.st tys_ok rfl ?_; conv => whnf))
    refine ⟨by simp; omega, ?_⟩
    conv => whnf
    repeat (first | (refine ACode.st tys_ok rfl ?_; conv => whnf))
    refine congrArg AV.str ?_
    rw [digN_eq n, if_neg (by omega)]
  ·have g : n < 10 := by simp at g; omega
   conv => whnf
   repeat (first | (refine ACode.st tys_ok rfl ?_; conv => whnf))
   refine congrArg AV.str ?_
   rw [digN_eq, if_pos g, Nat.mod_eq_of_lt g]
set_option maxRecDepth 20000 in
theorem rdecimal_spec {n : Int} (h : intB n = true) : Ctr Tryz.prog 50 [.int .i64 n] (fun r => r = .str (decT n)) := by
 unfold intB at h
 simp only [Bool.and_eq_true, decide_eq_true_eq] at h
 unfold decT
 by_cases g : n < 0
 ·rw [if_pos g]
  have hw : Wr .i64 (0 - n) = (((-n).toNat : Nat) : Int) := by rw [Wr64 _ (by omega) (by omega)]; omega
  have hl := digN_len 8 (-n).toNat (by omega)
  refine Ctr.of_body Tryz.func50 rfl tys_ok (by kernel_rfl) ?_
  conv => whnf
  repeat (first | (refine ACode.st tys_ok rfl ?_; conv => whnf))
  refine ⟨fun _ => ?_, fun q => absurd q (by simp; omega)⟩
  conv => whnf
  repeat (first | (refine ACode.st tys_ok rfl ?_; conv => whnf))
  rw [hw]
  refine ACall.of_spec (rdecimalN_spec 8 (-n).toNat (by omega) (by omega)) rfl fun r hr => ?_
  subst hr
  conv => whnf
  repeat (first | (refine ACode.st tys_ok rfl ?_; conv => whnf))
  refine ⟨by simp; omega, ?_⟩
  conv => whnf
  repeat (first | (refine ACode.st tys_ok rfl ?_; conv => whnf))
  rfl
 ·rw [if_neg g]
  have := rdecimalN_spec 8 n.toNat (by omega) (by omega)
  rwa [Int.toNat_of_nonneg (by omega)] at this
end Go.Proofs.YtbedaolpfedacaaGreatDoor
namespace Go.Proofs.YtbedaolpfedacaaGreatDoor
open Go.Av Go.Av.Net Pl
set_option maxRecDepth 20000 in
theorem roper0 (n : NwI) (h2 : n.opers.length ≤ 1000) : Ctr Tryz.prog 40 [netI n] (fun r => r = .sl 1 (strs (n.opers.map (fun x : Bs => x)))) := by
 refine Ctr.of_body Tryz.func40 rfl tys_ok (by kernel_rfl) ?_
 conv => whnf
 repeat (first | (refine ACode.st tys_ok rfl ?_; conv => whnf))
 refine ACode.loopD (fun k : Nat => mk 23 [(1, .ptr 0 0), (3, .own 1 1 0 k), (4, .int .i64 k)])
  (fun k => [netH n, .arr 9 1 (strs ((n.opers.take k).map (fun x : Bs => x)))]) (fun k => k ≤ n.opers.length) (fun k => n.opers.length - k) (fun _ _ => ⟨rfl, rfl, closed_strs _, trivial⟩) ⟨0, ?_⟩ (fun _ => rfl) fun k hk => ?_
 ·conv => whnf
  repeat (refine And.intro ?_ ?_; (focus (first | rfl | (simp; done))); conv => whnf)
  exact Nat.zero_le _
 ·unfold netH
  repeat (first | (refine ACode.st tys_ok rfl ?_; conv => whnf))
  refine ⟨fun h => ?_, fun h => ?_⟩
  ·have h : k < n.opers.length := by simpa using h
   have hw1 : Wr .i64 ((k : Int) + 1) = ((k + 1 : Nat) : Int) := by rw [Wr64 _ (by omega) (by omega)]; rfl
   have hcg : (n.opers.map operA)[k]? = some (operA n.opers[k]) := by rw [List.getElem?_map, List.getElem?_eq_getElem h]; rfl
   have hst : strs ((n.opers.take (k + 1)).map (fun x : Bs => x)) = strs ((n.opers.take k).map (fun x : Bs => x)) ++ [.str ((fun x : Bs => x) n.opers[k])] := by
    rw [List.take_succ_eq_append_getElem h, List.map_append]; unfold strs; rw [List.map_append]; rfl
   conv => whnf
   repeat (first | (refine ACode.st tys_ok rfl ?_; conv => whnf))
   refine ⟨by omega, _, hcg, ?_⟩
   conv => whnf
   repeat (first | (refine ACode.st tys_ok rfl ?_; conv => whnf))
   refine ⟨rfl, ?_⟩
   conv => whnf
   refine ⟨⟨by simp; omega, by simp; omega⟩, ?_⟩
   conv => whnf
   repeat (first | (refine ACode.st tys_ok rfl ?_; conv => whnf))
   refine ⟨k + 1, ?_⟩
   conv => whnf
   repeat (refine And.intro ?_ ?_; (focus (first | rfl | (simp; done) | (first | exact hw1 | exact congrArg (AV.own 1 1 0) (by simp; omega) | exact congrArg (HO.arr 9 1) hst.symm; done))); conv => whnf)
   omega
  ·have h : k = n.opers.length := by simp at h; omega
   rw [h, List.take_length]
   conv => whnf
   repeat (first | (refine ACode.st tys_ok rfl ?_; conv => whnf))
   refine ⟨⟨by simp, closed_strs _⟩, ?_⟩
   try (conv => whnf)
   try rfl
set_option maxRecDepth 20000 in
theorem roffices_spec (n : NwI) (h2 : n.offs.length ≤ 1000) : Ctr Tryz.prog 43 [netI n] (fun r => r = .sl 1 (strs (n.offs.map (fun x : OffI => x.name)))) := by
 refine Ctr.of_body Tryz.func43 rfl tys_ok (by kernel_rfl) ?_
 conv => whnf
 repeat (first | (refine ACode.st tys_ok rfl ?_; conv => whnf))
 refine ACode.loopD (fun k : Nat => mk 23 [(1, .ptr 0 0), (3, .own 1 1 0 k), (4, .int .i64 k)])
  (fun k => [netH n, .arr 9 1 (strs ((n.offs.take k).map (fun x : OffI => x.name)))]) (fun k => k ≤ n.offs.length) (fun k => n.offs.length - k) (fun _ _ => ⟨rfl, rfl, closed_strs _, trivial⟩) ⟨0, ?_⟩ (fun _ => rfl) fun k hk => ?_
 ·conv => whnf
  repeat (refine And.intro ?_ ?_; (focus (first | rfl | (simp; done))); conv => whnf)
  exact Nat.zero_le _
 ·unfold netH
  repeat (first | (refine ACode.st tys_ok rfl ?_; conv => whnf))
  refine ⟨fun h => ?_, fun h => ?_⟩
  ·have h : k < n.offs.length := by simpa using h
   have hw1 : Wr .i64 ((k : Int) + 1) = ((k + 1 : Nat) : Int) := by rw [Wr64 _ (by omega) (by omega)]; rfl
   have hcg : (n.offs.map offIA)[k]? = some (offIA n.offs[k]) := by rw [List.getElem?_map, List.getElem?_eq_getElem h]; rfl
   have hst : strs ((n.offs.take (k + 1)).map (fun x : OffI => x.name)) = strs ((n.offs.take k).map (fun x : OffI => x.name)) ++ [.str ((fun x : OffI => x.name) n.offs[k])] := by
    rw [List.take_succ_eq_append_getElem h, List.map_append]; unfold strs; rw [List.map_append]; rfl
   conv => whnf
   repeat (first | (refine ACode.st tys_ok rfl ?_; conv => whnf))
   refine ⟨by omega, _, hcg, ?_⟩
   conv => whnf
   repeat (first | (refine ACode.st tys_ok rfl ?_; conv => whnf))
   refine ⟨rfl, ?_⟩
   conv => whnf
   refine ⟨⟨by simp; omega, by simp; omega⟩, ?_⟩
   conv => whnf
   repeat (first | (refine ACode.st tys_ok rfl ?_; conv => whnf))
   refine ⟨k + 1, ?_⟩
   conv => whnf
   repeat (refine And.intro ?_ ?_; (focus (first | rfl | (simp; done) | (first | exact hw1 | exact congrArg (AV.own 1 1 0) (by simp; omega) | exact congrArg (HO.arr 9 1) hst.symm; done))); conv => whnf)
   omega
  ·have h : k = n.offs.length := by simp at h; omega
   rw [h, List.take_length]
   conv => whnf
   repeat (first | (refine ACode.st tys_ok rfl ?_; conv => whnf))
   refine ⟨⟨by simp, closed_strs _⟩, ?_⟩
   try (conv => whnf)
   try rfl
theorem roperators_spec (n : NwI) (h2 : n.opers.length ≤ 1000) : Ctr Tryz.prog 40 [netI n] (fun r => r = .sl 1 (strs n.opers)) := by
 have := roper0 n h2; rwa [List.map_id'] at this
set_option maxRecDepth 20000 in
theorem rcalendar_spec (c : Cal) (hw : c.week.length ≤ 1000000) (hh : c.hols.length ≤ 1000000) : Ctr Tryz.prog 38 [calA c] (fun r => r = .bool (calB c)) := by
 refine Ctr.of_body Tryz.func38 rfl tys_ok (by kernel_rfl) ?_
 conv => whnf
 repeat (first | (refine ACode.st tys_ok rfl ?_; conv => whnf))
 refine ACode.loopD (fun k : Nat => mk 39 [(1, .ptr 0 0), (3, .int .i64 k)]) (fun _ => [.cells [.int .i64 c.zone, .sl 1 (c.week.map .bool), .sl 1 (c.hols.map (.int .i64))]]) (fun k => k ≤ c.hols.length ∧ (c.hols.take k).all intB = true) (fun k => c.hols.length - k) (fun _ _ => ⟨rfl, rfl, trivial⟩) ⟨0, ?_⟩ (fun _ => rfl) fun k hk => ?_
 ·conv => whnf
  repeat (refine And.intro ?_ ?_; (focus (first | rfl | (simp; done))); conv => whnf)
  rfl
 ·obtain ⟨hk, ha⟩ := hk
  repeat (first | (refine ACode.st tys_ok rfl ?_; conv => whnf))
  refine ⟨fun h => ?_, fun h => ?_⟩
  ·have h : k < c.hols.length := by simpa using h
   have hw1 : Wr .i64 ((k : Int) + 1) = ((k + 1 : Nat) : Int) := by rw [Wr64 _ (by omega) (by omega)]; rfl
   have hcg : (c.hols.map (AV.int .i64))[k]? = some (.int .i64 c.hols[k]) := by rw [List.getElem?_map, List.getElem?_eq_getElem h]; rfl
   have hno := all_no intB c.hols k h
   have hst := all_snoc intB c.hols k h
   have hN : c.hols.all intB = false → calB c = false := fun e => by unfold calB; rw [e]; simp
   generalize c.hols[k] = d at *
   conv => whnf
   repeat (first | (refine ACode.st tys_ok rfl ?_; conv => whnf))
   refine ⟨by omega, _, hcg, ?_⟩
   conv => whnf
   repeat (first | (refine ACode.st tys_ok rfl ?_; conv => whnf))
   refine ⟨fun z => ?_, fun z => ?_⟩
   ·have z : -99999999 ≤ d := by simp at z; omega
    conv => whnf
    repeat (first | (refine ACode.st tys_ok rfl ?_; conv => whnf))
    refine ⟨by omega, _, hcg, ?_⟩
    conv => whnf
    repeat (first | (refine ACode.st tys_ok rfl ?_; conv => whnf))
    refine ⟨fun y => ?_, fun y => ?_⟩
    ·have y : 99999999 < d := by simp at y; omega
     have e : intB d = false := by unfold intB; rw [decide_eq_false (show ¬ d ≤ 99999999 by omega)]; simp
     conv => whnf
     repeat (first | (refine ACode.st tys_ok rfl ?_; conv => whnf))
     exact congrArg AV.bool (hN (hno e)).symm
    ·have y : d ≤ 99999999 := by simp at y; omega
     have e : intB d = true := by unfold intB; rw [decide_eq_true z, decide_eq_true y]; rfl
     conv => whnf
     repeat (first | (refine ACode.st tys_ok rfl ?_; conv => whnf))
     refine ⟨k + 1, ?_⟩
     conv => whnf
     repeat (refine And.intro ?_ ?_; (focus (first | rfl | (simp; done) | (first | exact hw1; done))); conv => whnf)
     exact ⟨⟨by omega, by rw [hst, ha, e]; rfl⟩, by omega⟩
   ·have z : d < -99999999 := by simp at z; omega
    have e : intB d = false := by unfold intB; rw [decide_eq_false (show ¬ -99999999 ≤ d by omega)]; simp
    conv => whnf
    repeat (first | (refine ACode.st tys_ok rfl ?_; conv => whnf))
    exact congrArg AV.bool (hN (hno e)).symm
  ·have h : k = c.hols.length := by simp at h; omega
   rw [h, List.take_length] at ha
   conv => whnf
   repeat (first | (refine ACode.st tys_ok rfl ?_; conv => whnf))
   repeat' (first | (refine And.intro (fun _ => ?_) (fun _ => ?_) <;> conv => whnf) | (refine ACode.st tys_ok rfl ?_; conv => whnf))
   all_goals
    refine congrArg AV.bool ?_
    rw [Bool.eq_iff_iff]
    simp_all [calB, intB] <;> omega
end Go.Proofs.YtbedaolpfedacaaGreatDoor
namespace Go.Proofs.YtbedaolpfedacaaGreatDoor
open Go.Av Go.Av.Net Pl
theorem names_all (n : NwI) : (namesL n).all isNameB = namesB n := by
 unfold namesL namesB
 simp only [List.all_append, List.all_map]
 rfl
theorem no_names {n : NwI} (h : (namesL n).all isNameB = false) : printB n = false := by
 rw [names_all] at h; unfold printB; rw [h]; simp
theorem rref_spec (l : List Bs) (i : Int) (hl : l.length ≤ 1000000) : Ctr Tryz.prog 39 [.sl 1 (strs l), .int .i64 i] (fun r => r = .bool (refB l i)) := rrefers_spec l i (rfirst_spec l i hl)
def offH (o : OffI) : HO := .cells [.str o.name, .int .i64 o.oper, .int .i64 o.cal, .int .i64 o.pockets, .int .i64 o.passes, .int .i64 o.minutes, .sl 1 (strs o.codes)]
theorem rref_at {l : List Bs} {i : Int} {b : Bool} (hl : l.length ≤ 1000000) (h : refB l i = b) : Ctr Tryz.prog 39 [.sl 1 (strs l), .int .i64 i] (fun r => r = .bool b) := by
 have := rref_spec l i hl; rwa [h] at this
theorem rnum_at {n : Int} {b : Bool} (h : numB n = b) : Ctr Tryz.prog 41 [.int .i64 n] (fun r => r = .bool b) := by
 have := rnumber_spec n; rwa [h] at this
set_option maxRecDepth 20000 in
set_option maxHeartbeats 4000000 in
theorem rPrintable_spec (n : NwI) (sm : SmI n) (h1 : n.names.length ≤ 100) (h2 : n.opers.length ≤ 100) (h3 : n.offs.length ≤ 100) (h4 : n.lins.length ≤ 100) (h5 : n.clss.length ≤ 100) :
  Ctr Tryz.prog 12 [netI n] (fun r => r = .bool (printB n)) := by
 have s1 := sm.cals; have s2 := sm.offs; have s3 := sm.lins; have s4 := sm.clss; have s5 := sm.opers
 have hnl : (namesL n).length ≤ 500 := by simp [namesL]; omega
 have hnt : ∀ x ∈ namesL n, x.length ≤ 8000 := fun x hx => by
  unfold namesL at hx
  simp only [List.mem_append, List.mem_map] at hx
  rcases hx with (((h | h) | ⟨y, h, rfl⟩) | ⟨y, h, rfl⟩) | ⟨y, h, rfl⟩
  ·exact sm.nmt x h
  ·exact sm.opt x h
  ·exact sm.oft y h
  ·exact sm.lit y h
  ·exact sm.clt y h
 refine Ctr.of_body Tryz.func12 rfl tys_ok (by kernel_rfl) ?_
 conv => whnf
 repeat (first | (refine ACode.st tys_ok rfl ?_; conv => whnf))
 refine ACall.of_spec (rnames_spec n (by omega) (by omega) (by omega) (by omega) (by omega)) rfl fun r hr => ?_
 subst hr
 conv => whnf
 repeat (first | (refine ACode.st tys_ok rfl ?_; conv => whnf))
 refine ACode.loopD (fun k : Nat => mk 174 [(1, .ptr 0 0), (3, .sl 1 (strs (namesL n))), (4, .int .i64 k)]) (fun _ => [netH n]) (fun k => k ≤ (namesL n).length ∧ ((namesL n).take k).all isNameB = true) (fun k => (namesL n).length - k) (fun _ _ => ⟨rfl, rfl, trivial⟩) ⟨0, ?_⟩ (fun _ => rfl) fun k hk => ?_
 ·conv => whnf
  repeat (refine And.intro ?_ ?_; (focus (first | rfl | (simp; done))); conv => whnf)
  rfl
 ·obtain ⟨hk, ha⟩ := hk
  unfold netH
  repeat (first | (refine ACode.st tys_ok rfl ?_; conv => whnf))
  refine ⟨fun h => ?_, fun h => ?_⟩
  ·have h : k < (namesL n).length := by rw [strs_length] at h; simpa using h
   have hw1 : Wr .i64 ((k : Int) + 1) = ((k + 1 : Nat) : Int) := by rw [Wr64 _ (by omega) (by omega)]; rfl
   have hno := fun e => no_names (all_no isNameB (namesL n) k h e)
   have hst := all_snoc isNameB (namesL n) k h
   conv => whnf
   repeat (first | (refine ACode.st tys_ok rfl ?_; conv => whnf))
   refine ⟨by omega, _, strs_get (namesL n) k h, ?_⟩
   conv => whnf
   repeat (first | (refine ACode.st tys_ok rfl ?_; conv => whnf))
   have hxl := hnt _ (List.getElem_mem h)
   refine ACall.of_spec (rName_spec (namesL n)[k] (by omega)) rfl fun r hr => ?_
   subst hr
   conv => whnf
   repeat (first | (refine ACode.st tys_ok rfl ?_; conv => whnf))
   refine ⟨fun z => ?_, fun z => ?_⟩
   ·have z : isNameB (namesL n)[k] = false := by simpa using z
    conv => whnf
    repeat (first | (refine ACode.st tys_ok rfl ?_; conv => whnf))
    exact congrArg AV.bool (hno z).symm
   ·have z : isNameB (namesL n)[k] = true := by simpa using z
    conv => whnf
    repeat (first | (refine ACode.st tys_ok rfl ?_; conv => whnf))
    refine ⟨k + 1, ?_⟩
    conv => whnf
    repeat (refine And.intro ?_ ?_; (focus (first | rfl | (simp; done) | (first | exact hw1; done))); conv => whnf)
    exact ⟨⟨by omega, by rw [hst, ha, z]; rfl⟩, by omega⟩
  ·have h : k = (namesL n).length := by rw [strs_length] at h; simp at h; omega
   rw [h, List.take_length] at ha
   rw [names_all] at ha
   conv => whnf
   repeat (first | (refine ACode.st tys_ok rfl ?_; conv => whnf))
   refine ACode.loopD (fun k : Nat => mk 174 [(1, .ptr 0 0), (5, .int .i64 k)]) (fun _ => [netH n]) (fun k => k ≤ n.cals.length ∧ (n.cals.take k).all calB = true) (fun k => n.cals.length - k) (fun _ _ => ⟨rfl, rfl, trivial⟩) ⟨0, ?_⟩ (fun _ => rfl) fun k hk => ?_
   ·conv => whnf
    repeat (refine And.intro ?_ ?_; (focus (first | rfl | (simp; done))); conv => whnf)
    rfl
   ·obtain ⟨hk, hb⟩ := hk
    unfold netH
    repeat (first | (refine ACode.st tys_ok rfl ?_; conv => whnf))
    refine ⟨fun h => ?_, fun h => ?_⟩
    ·have h : k < n.cals.length := by simpa using h
     have hw1 : Wr .i64 ((k : Int) + 1) = ((k + 1 : Nat) : Int) := by rw [Wr64 _ (by omega) (by omega)]; rfl
     have hcg : (n.cals.map calA)[k]? = some (calA n.cals[k]) := by rw [List.getElem?_map, List.getElem?_eq_getElem h]; rfl
     have hno := fun e => no_cal (all_no calB n.cals k h e)
     have hst := all_snoc calB n.cals k h
     have hhl := sm.hol _ (List.getElem_mem h)
     generalize n.cals[k] = c at *
     conv => whnf
     repeat (first | (refine ACode.st tys_ok rfl ?_; conv => whnf))
     refine ⟨by omega, _, hcg, ?_⟩
     conv => whnf
     repeat (first | (refine ACode.st tys_ok rfl ?_; conv => whnf))
     refine ACall.of_spec (rcalendar_spec c (by omega) (by omega)) rfl fun r hr => ?_
     subst hr
     conv => whnf
     repeat (first | (refine ACode.st tys_ok rfl ?_; conv => whnf))
     refine ⟨fun z => ?_, fun z => ?_⟩
     ·have z : calB c = false := by simpa using z
      conv => whnf
      repeat (first | (refine ACode.st tys_ok rfl ?_; conv => whnf))
      exact congrArg AV.bool (hno z).symm
     ·have z : calB c = true := by simpa using z
      conv => whnf
      repeat (first | (refine ACode.st tys_ok rfl ?_; conv => whnf))
      refine ⟨k + 1, ?_⟩
      conv => whnf
      repeat (refine And.intro ?_ ?_; (focus (first | rfl | (simp; done) | (first | exact hw1; done))); conv => whnf)
      exact ⟨⟨by omega, by rw [hst, hb, z]; rfl⟩, by omega⟩
    ·have h : k = n.cals.length := by simp at h; omega
     rw [h, List.take_length] at hb
     conv => whnf
     repeat (first | (refine ACode.st tys_ok rfl ?_; conv => whnf))
     refine ACode.loopD (fun k : Nat => mk 174 [(1, .ptr 0 0), (6, .int .i64 k)]) (fun _ => [netH n]) (fun k => k ≤ n.offs.length ∧ (n.offs.take k).all (offB n) = true) (fun k => n.offs.length - k) (fun _ _ => ⟨rfl, rfl, trivial⟩) ⟨0, ?_⟩ (fun _ => rfl) fun k hk => ?_
     ·conv => whnf
      repeat (refine And.intro ?_ ?_; (focus (first | rfl | (simp; done))); conv => whnf)
      rfl
     ·obtain ⟨hk, hc⟩ := hk
      unfold netH
      repeat (first | (refine ACode.st tys_ok rfl ?_; conv => whnf))
      refine ⟨fun h => ?_, fun h => ?_⟩
      ·have h : k < n.offs.length := by simpa using h
       have hw1 : Wr .i64 ((k : Int) + 1) = ((k + 1 : Nat) : Int) := by rw [Wr64 _ (by omega) (by omega)]; rfl
       have hcg : (n.offs.map offIA)[k]? = some (offIA n.offs[k]) := by rw [List.getElem?_map, List.getElem?_eq_getElem h]; rfl
       have hno := fun e => no_off (all_no (offB n) n.offs k h e)
       have hst' := all_snoc (offB n) n.offs k h
       have hcd := sm.cod _ (List.getElem_mem h)
       generalize n.offs[k] = o at *
       conv => whnf
       repeat (first | (refine ACode.st tys_ok rfl ?_; conv => whnf))
       refine ⟨by omega, _, hcg, ?_⟩
       conv => whnf
       repeat (first | (refine ACode.st tys_ok rfl ?_; conv => whnf))
       cases e1 : refB n.opers o.oper with
       | false =>
        have c1 := rref_at (by omega) e1
        repeat (first | (refine ACode.draw [] tys_ok (by kernel_rfl) (by kernel_rfl) ?_; conv => whnf) | (refine ⟨_, ⟨roperators_spec n (by omega), rfl⟩, ?_⟩; conv => whnf) | (refine ⟨_, ⟨c1, rfl⟩, ?_⟩; conv => whnf) | (refine no_br ?_ (fun _ => ?_); (focus (simp; done)); conv => whnf) | (refine yes_br ?_ (fun _ => ?_); (focus (simp; done)); conv => whnf) | (refine ACode.st tys_ok rfl ?_; conv => whnf))
        exact congrArg AV.bool (hno (by unfold offB; rw [e1]; simp)).symm
       | true =>
        have c1 := rref_at (by omega) e1
        cases e2 : refB n.names o.cal with
        | false =>
         have c2 := rref_at (by omega) e2
         repeat (first | (refine ACode.draw [] tys_ok (by kernel_rfl) (by kernel_rfl) ?_; conv => whnf) | (refine ⟨_, ⟨roperators_spec n (by omega), rfl⟩, ?_⟩; conv => whnf) | (refine ⟨_, ⟨c1, rfl⟩, ?_⟩; conv => whnf) | (refine ⟨_, ⟨c2, rfl⟩, ?_⟩; conv => whnf) | (refine no_br ?_ (fun _ => ?_); (focus (simp; done)); conv => whnf) | (refine yes_br ?_ (fun _ => ?_); (focus (simp; done)); conv => whnf) | (refine ACode.st tys_ok rfl ?_; conv => whnf))
         exact congrArg AV.bool (hno (by unfold offB; rw [e2]; simp)).symm
        | true =>
         have c2 := rref_at (by omega) e2
         cases e3 : numB o.pockets with
         | false =>
          have c3 := rnum_at e3
          repeat (first | (refine ACode.draw [] tys_ok (by kernel_rfl) (by kernel_rfl) ?_; conv => whnf) | (refine ⟨_, ⟨roperators_spec n (by omega), rfl⟩, ?_⟩; conv => whnf) | (refine ⟨_, ⟨c1, rfl⟩, ?_⟩; conv => whnf) | (refine ⟨_, ⟨c2, rfl⟩, ?_⟩; conv => whnf) | (refine ⟨_, ⟨c3, rfl⟩, ?_⟩; conv => whnf) | (refine no_br ?_ (fun _ => ?_); (focus (simp; done)); conv => whnf) | (refine yes_br ?_ (fun _ => ?_); (focus (simp; done)); conv => whnf) | (refine ACode.st tys_ok rfl ?_; conv => whnf))
          exact congrArg AV.bool (hno (by unfold offB; rw [e3]; simp)).symm
         | true =>
          have c3 := rnum_at e3
          cases e4 : numB o.passes with
          | false =>
           have c4 := rnum_at e4
           repeat (first | (refine ACode.draw [] tys_ok (by kernel_rfl) (by kernel_rfl) ?_; conv => whnf) | (refine ⟨_, ⟨roperators_spec n (by omega), rfl⟩, ?_⟩; conv => whnf) | (refine ⟨_, ⟨c1, rfl⟩, ?_⟩; conv => whnf) | (refine ⟨_, ⟨c2, rfl⟩, ?_⟩; conv => whnf) | (refine ⟨_, ⟨c3, rfl⟩, ?_⟩; conv => whnf) | (refine ⟨_, ⟨c4, rfl⟩, ?_⟩; conv => whnf) | (refine no_br ?_ (fun _ => ?_); (focus (simp; done)); conv => whnf) | (refine yes_br ?_ (fun _ => ?_); (focus (simp; done)); conv => whnf) | (refine ACode.st tys_ok rfl ?_; conv => whnf))
           exact congrArg AV.bool (hno (by unfold offB; rw [e4]; simp)).symm
          | true =>
           have c4 := rnum_at e4
           cases e5 : numB o.minutes with
           | false =>
            have c5 := rnum_at e5
            repeat (first | (refine ACode.draw [] tys_ok (by kernel_rfl) (by kernel_rfl) ?_; conv => whnf) | (refine ⟨_, ⟨roperators_spec n (by omega), rfl⟩, ?_⟩; conv => whnf) | (refine ⟨_, ⟨c1, rfl⟩, ?_⟩; conv => whnf) | (refine ⟨_, ⟨c2, rfl⟩, ?_⟩; conv => whnf) | (refine ⟨_, ⟨c3, rfl⟩, ?_⟩; conv => whnf) | (refine ⟨_, ⟨c4, rfl⟩, ?_⟩; conv => whnf) | (refine ⟨_, ⟨c5, rfl⟩, ?_⟩; conv => whnf) | (refine no_br ?_ (fun _ => ?_); (focus (simp; done)); conv => whnf) | (refine yes_br ?_ (fun _ => ?_); (focus (simp; done)); conv => whnf) | (refine ACode.st tys_ok rfl ?_; conv => whnf))
            exact congrArg AV.bool (hno (by unfold offB; rw [e5]; simp)).symm
           | true =>
            have c5 := rnum_at e5
            repeat (first | (refine ACode.draw [] tys_ok (by kernel_rfl) (by kernel_rfl) ?_; conv => whnf) | (refine ⟨_, ⟨roperators_spec n (by omega), rfl⟩, ?_⟩; conv => whnf) | (refine ⟨_, ⟨c1, rfl⟩, ?_⟩; conv => whnf) | (refine ⟨_, ⟨c2, rfl⟩, ?_⟩; conv => whnf) | (refine ⟨_, ⟨c3, rfl⟩, ?_⟩; conv => whnf) | (refine ⟨_, ⟨c4, rfl⟩, ?_⟩; conv => whnf) | (refine ⟨_, ⟨c5, rfl⟩, ?_⟩; conv => whnf) | (refine no_br ?_ (fun _ => ?_); (focus (simp; done)); conv => whnf) | (refine yes_br ?_ (fun _ => ?_); (focus (simp; done)); conv => whnf) | (refine ACode.st tys_ok rfl ?_; conv => whnf))
            have hnc := fun e : o.codes.all isCodeB = false => hno (by unfold offB; rw [e]; simp)
            have hoB : o.codes.all isCodeB = true → offB n o = true := fun e => by unfold offB; rw [e1, e2, e3, e4, e5, e]; rfl
            refine ACode.loopD (fun q : Nat => mk 174 [(1, .ptr 0 0), (6, .int .i64 k), (7, .ptr 1 0), (8, .int .i64 q)]) (fun _ => [netH n, offH o] ++ List.replicate 32 .dead) (fun q => q ≤ o.codes.length ∧ (o.codes.take q).all isCodeB = true) (fun q => o.codes.length - q) (fun _ _ => by simp [objsOK, netH, offH, List.replicate]; first | done | rfl | trivial) ⟨0, ?_⟩ (fun _ => rfl) fun q hq => ?_
            ·conv => whnf
             repeat (refine And.intro ?_ ?_; (focus (first | rfl | (simp; done))); conv => whnf)
             rfl
            ·obtain ⟨hq, hd⟩ := hq
             unfold netH offH
             repeat (first | (refine ACode.st tys_ok rfl ?_; conv => whnf))
             refine ⟨fun h => ?_, fun h => ?_⟩
             ·have h : q < o.codes.length := by simpa [strs] using h
              have hw1 : Wr .i64 ((q : Int) + 1) = ((q + 1 : Nat) : Int) := by rw [Wr64 _ (by omega) (by omega)]; rfl
              have hno2 := fun e => hnc (all_no isCodeB o.codes q h e)
              have hst := all_snoc isCodeB o.codes q h
              conv => whnf
              repeat (first | (refine ACode.st tys_ok rfl ?_; conv => whnf))
              refine ⟨by omega, _, strs_get o.codes q h, ?_⟩
              conv => whnf
              repeat (first | (refine ACode.st tys_ok rfl ?_; conv => whnf))
              refine ACall.of_spec (rCode_spec o.codes[q] (by have := hcd.2 _ (List.getElem_mem h); omega)) rfl fun r hr => ?_
              subst hr
              conv => whnf
              repeat (first | (refine ACode.st tys_ok rfl ?_; conv => whnf))
              refine ⟨fun z => ?_, fun z => ?_⟩
              ·have z : isCodeB o.codes[q] = false := by simpa using z
               conv => whnf
               repeat (first | (refine ACode.st tys_ok rfl ?_; conv => whnf))
               exact congrArg AV.bool (hno2 z).symm
              ·have z : isCodeB o.codes[q] = true := by simpa using z
               conv => whnf
               repeat (first | (refine ACode.st tys_ok rfl ?_; conv => whnf))
               refine ⟨q + 1, ?_⟩
               conv => whnf
               repeat (refine And.intro ?_ ?_; (focus (first | rfl | (simp; done) | (first | exact hw1; done))); conv => whnf)
               exact ⟨⟨by omega, by rw [hst, hd, z]; rfl⟩, by omega⟩
             ·have h : q = o.codes.length := by simp [strs] at h; omega
              rw [h, List.take_length] at hd
              conv => whnf
              repeat (first | (refine ACode.st tys_ok rfl ?_; conv => whnf))
              refine ⟨k + 1, ?_⟩
              conv => whnf
              repeat (refine And.intro ?_ ?_; (focus (first | rfl | (simp; done) | (first | exact hw1; done))); conv => whnf)
              exact ⟨⟨by omega, by rw [hst', hc, hoB hd]; rfl⟩, by omega⟩
      ·have h : k = n.offs.length := by simp at h; omega
       rw [h, List.take_length] at hc
       conv => whnf
       repeat (first | (refine ACode.st tys_ok rfl ?_; conv => whnf))
       refine ACode.loopD (fun k : Nat => mk 174 [(1, .ptr 0 0), (9, .int .i64 k)]) (fun _ => [netH n]) (fun k => k ≤ n.lins.length ∧ (n.lins.take k).all (linB n) = true) (fun k => n.lins.length - k) (fun _ _ => ⟨rfl, rfl, trivial⟩) ⟨0, ?_⟩ (fun _ => rfl) fun k hk => ?_
       ·conv => whnf
        repeat (refine And.intro ?_ ?_; (focus (first | rfl | (simp; done))); conv => whnf)
        rfl
       ·obtain ⟨hk, hd⟩ := hk
        unfold netH
        repeat (first | (refine ACode.st tys_ok rfl ?_; conv => whnf))
        refine ⟨fun h => ?_, fun h => ?_⟩
        ·have h : k < n.lins.length := by simpa using h
         have hw1 : Wr .i64 ((k : Int) + 1) = ((k + 1 : Nat) : Int) := by rw [Wr64 _ (by omega) (by omega)]; rfl
         have hcg : (n.lins.map linIA)[k]? = some (linIA n.lins[k]) := by rw [List.getElem?_map, List.getElem?_eq_getElem h]; rfl
         have hno := fun e => no_lin (all_no (linB n) n.lins k h e)
         have hst := all_snoc (linB n) n.lins k h
         generalize n.lins[k] = x at *
         conv => whnf
         repeat (first | (refine ACode.st tys_ok rfl ?_; conv => whnf))
         refine ⟨by omega, _, hcg, ?_⟩
         conv => whnf
         repeat (first | (refine ACode.st tys_ok rfl ?_; conv => whnf))
         cases e1 : refB (n.offs.map (·.name)) x.from_ with
         | false =>
          have c1 := rref_at (by rw [List.length_map]; omega) e1
          repeat (first | (refine ACode.draw [] tys_ok (by kernel_rfl) (by kernel_rfl) ?_; conv => whnf) | (refine ⟨_, ⟨roffices_spec n (by omega), rfl⟩, ?_⟩; conv => whnf) | (refine ⟨_, ⟨c1, rfl⟩, ?_⟩; conv => whnf) | (refine ACall.of_spec (c1) rfl fun r hr => ?_; subst hr; conv => whnf) | (refine no_br ?_ (fun _ => ?_); (focus (simp; done)); conv => whnf) | (refine yes_br ?_ (fun _ => ?_); (focus (simp; done)); conv => whnf) | (refine ACode.st tys_ok rfl ?_; conv => whnf))
          exact congrArg AV.bool (hno (by unfold linB; rw [e1]; simp)).symm
         | true =>
          have c1 := rref_at (by rw [List.length_map]; omega) e1
          cases e2 : refB (n.offs.map (·.name)) x.to_ with
          | false =>
           have c2 := rref_at (by rw [List.length_map]; omega) e2
           repeat (first | (refine ACode.draw [] tys_ok (by kernel_rfl) (by kernel_rfl) ?_; conv => whnf) | (refine ⟨_, ⟨roffices_spec n (by omega), rfl⟩, ?_⟩; conv => whnf) | (refine ⟨_, ⟨c1, rfl⟩, ?_⟩; conv => whnf) | (refine ⟨_, ⟨c2, rfl⟩, ?_⟩; conv => whnf) | (refine ACall.of_spec (c1) rfl fun r hr => ?_; subst hr; conv => whnf) | (refine ACall.of_spec (c2) rfl fun r hr => ?_; subst hr; conv => whnf) | (refine no_br ?_ (fun _ => ?_); (focus (simp; done)); conv => whnf) | (refine yes_br ?_ (fun _ => ?_); (focus (simp; done)); conv => whnf) | (refine ACode.st tys_ok rfl ?_; conv => whnf))
           exact congrArg AV.bool (hno (by unfold linB; rw [e2]; simp)).symm
          | true =>
           have c2 := rref_at (by rw [List.length_map]; omega) e2
           cases e3 : numB x.at_ with
           | false =>
            have c3 := rnum_at e3
            repeat (first | (refine ACode.draw [] tys_ok (by kernel_rfl) (by kernel_rfl) ?_; conv => whnf) | (refine ⟨_, ⟨roffices_spec n (by omega), rfl⟩, ?_⟩; conv => whnf) | (refine ⟨_, ⟨c1, rfl⟩, ?_⟩; conv => whnf) | (refine ⟨_, ⟨c2, rfl⟩, ?_⟩; conv => whnf) | (refine ⟨_, ⟨c3, rfl⟩, ?_⟩; conv => whnf) | (refine ACall.of_spec (c1) rfl fun r hr => ?_; subst hr; conv => whnf) | (refine ACall.of_spec (c2) rfl fun r hr => ?_; subst hr; conv => whnf) | (refine ACall.of_spec (c3) rfl fun r hr => ?_; subst hr; conv => whnf) | (refine no_br ?_ (fun _ => ?_); (focus (simp; done)); conv => whnf) | (refine yes_br ?_ (fun _ => ?_); (focus (simp; done)); conv => whnf) | (refine ACode.st tys_ok rfl ?_; conv => whnf))
            exact congrArg AV.bool (hno (by unfold linB; rw [e3]; simp)).symm
           | true =>
            have c3 := rnum_at e3
            cases e4 : numB x.travel with
            | false =>
             have c4 := rnum_at e4
             repeat (first | (refine ACode.draw [] tys_ok (by kernel_rfl) (by kernel_rfl) ?_; conv => whnf) | (refine ⟨_, ⟨roffices_spec n (by omega), rfl⟩, ?_⟩; conv => whnf) | (refine ⟨_, ⟨c1, rfl⟩, ?_⟩; conv => whnf) | (refine ⟨_, ⟨c2, rfl⟩, ?_⟩; conv => whnf) | (refine ⟨_, ⟨c3, rfl⟩, ?_⟩; conv => whnf) | (refine ⟨_, ⟨c4, rfl⟩, ?_⟩; conv => whnf) | (refine ACall.of_spec (c1) rfl fun r hr => ?_; subst hr; conv => whnf) | (refine ACall.of_spec (c2) rfl fun r hr => ?_; subst hr; conv => whnf) | (refine ACall.of_spec (c3) rfl fun r hr => ?_; subst hr; conv => whnf) | (refine ACall.of_spec (c4) rfl fun r hr => ?_; subst hr; conv => whnf) | (refine no_br ?_ (fun _ => ?_); (focus (simp; done)); conv => whnf) | (refine yes_br ?_ (fun _ => ?_); (focus (simp; done)); conv => whnf) | (refine ACode.st tys_ok rfl ?_; conv => whnf))
             exact congrArg AV.bool (hno (by unfold linB; rw [e4]; simp)).symm
            | true =>
             have c4 := rnum_at e4
             cases e5 : numB x.load with
             | false =>
              have c5 := rnum_at e5
              repeat (first | (refine ACode.draw [] tys_ok (by kernel_rfl) (by kernel_rfl) ?_; conv => whnf) | (refine ⟨_, ⟨roffices_spec n (by omega), rfl⟩, ?_⟩; conv => whnf) | (refine ⟨_, ⟨c1, rfl⟩, ?_⟩; conv => whnf) | (refine ⟨_, ⟨c2, rfl⟩, ?_⟩; conv => whnf) | (refine ⟨_, ⟨c3, rfl⟩, ?_⟩; conv => whnf) | (refine ⟨_, ⟨c4, rfl⟩, ?_⟩; conv => whnf) | (refine ⟨_, ⟨c5, rfl⟩, ?_⟩; conv => whnf) | (refine ACall.of_spec (c1) rfl fun r hr => ?_; subst hr; conv => whnf) | (refine ACall.of_spec (c2) rfl fun r hr => ?_; subst hr; conv => whnf) | (refine ACall.of_spec (c3) rfl fun r hr => ?_; subst hr; conv => whnf) | (refine ACall.of_spec (c4) rfl fun r hr => ?_; subst hr; conv => whnf) | (refine ACall.of_spec (c5) rfl fun r hr => ?_; subst hr; conv => whnf) | (refine no_br ?_ (fun _ => ?_); (focus (simp; done)); conv => whnf) | (refine yes_br ?_ (fun _ => ?_); (focus (simp; done)); conv => whnf) | (refine ACode.st tys_ok rfl ?_; conv => whnf))
              exact congrArg AV.bool (hno (by unfold linB; rw [e5]; simp)).symm
             | true =>
              have c5 := rnum_at e5
              repeat (first | (refine ACode.draw [] tys_ok (by kernel_rfl) (by kernel_rfl) ?_; conv => whnf) | (refine ⟨_, ⟨roffices_spec n (by omega), rfl⟩, ?_⟩; conv => whnf) | (refine ⟨_, ⟨c1, rfl⟩, ?_⟩; conv => whnf) | (refine ⟨_, ⟨c2, rfl⟩, ?_⟩; conv => whnf) | (refine ⟨_, ⟨c3, rfl⟩, ?_⟩; conv => whnf) | (refine ⟨_, ⟨c4, rfl⟩, ?_⟩; conv => whnf) | (refine ⟨_, ⟨c5, rfl⟩, ?_⟩; conv => whnf) | (refine ACall.of_spec (c1) rfl fun r hr => ?_; subst hr; conv => whnf) | (refine ACall.of_spec (c2) rfl fun r hr => ?_; subst hr; conv => whnf) | (refine ACall.of_spec (c3) rfl fun r hr => ?_; subst hr; conv => whnf) | (refine ACall.of_spec (c4) rfl fun r hr => ?_; subst hr; conv => whnf) | (refine ACall.of_spec (c5) rfl fun r hr => ?_; subst hr; conv => whnf) | (refine no_br ?_ (fun _ => ?_); (focus (simp; done)); conv => whnf) | (refine yes_br ?_ (fun _ => ?_); (focus (simp; done)); conv => whnf) | (refine ACode.st tys_ok rfl ?_; conv => whnf))
              have hok : linB n x = true := by unfold linB; rw [e1, e2, e3, e4, e5]; rfl
              refine ⟨k + 1, ?_⟩
              conv => whnf
              repeat (refine And.intro ?_ ?_; (focus (first | rfl | (simp; done) | (first | exact hw1; done))); conv => whnf)
              exact ⟨⟨by omega, by rw [hst, hd, hok]; rfl⟩, by omega⟩
        ·have h : k = n.lins.length := by simp at h; omega
         rw [h, List.take_length] at hd
         conv => whnf
         repeat (first | (refine ACode.st tys_ok rfl ?_; conv => whnf))
         refine ACode.loopD (fun k : Nat => mk 174 [(1, .ptr 0 0), (11, .int .i64 k)]) (fun _ => [netH n]) (fun k => k ≤ n.clss.length ∧ (n.clss.take k).all clsB = true) (fun k => n.clss.length - k) (fun _ _ => ⟨rfl, rfl, trivial⟩) ⟨0, ?_⟩ (fun _ => rfl) fun k hk => ?_
         ·conv => whnf
          repeat (refine And.intro ?_ ?_; (focus (first | rfl | (simp; done))); conv => whnf)
          rfl
         ·obtain ⟨hk, he⟩ := hk
          unfold netH
          repeat (first | (refine ACode.st tys_ok rfl ?_; conv => whnf))
          refine ⟨fun h => ?_, fun h => ?_⟩
          ·have h : k < n.clss.length := by simpa using h
           have hw1 : Wr .i64 ((k : Int) + 1) = ((k + 1 : Nat) : Int) := by rw [Wr64 _ (by omega) (by omega)]; rfl
           have hcg : (n.clss.map clsA)[k]? = some (clsA n.clss[k]) := by rw [List.getElem?_map, List.getElem?_eq_getElem h]; rfl
           have hno := fun e => no_cls (all_no clsB n.clss k h e)
           have hst := all_snoc clsB n.clss k h
           generalize n.clss[k] = x at *
           conv => whnf
           repeat (first | (refine ACode.st tys_ok rfl ?_; conv => whnf))
           cases e1 : numB x.cut with
           | false =>
            have c1 := rnum_at e1
            repeat (first | (refine ACode.draw [] tys_ok (by kernel_rfl) (by kernel_rfl) ?_; conv => whnf) | (refine ⟨by omega, _, (by exact hcg), ?_⟩; conv => whnf) | (refine ⟨_, ⟨c1, rfl⟩, ?_⟩; conv => whnf) | (refine ACall.of_spec (c1) rfl fun r hr => ?_; subst hr; conv => whnf) | (refine no_br ?_ (fun _ => ?_); (focus (simp; done)); conv => whnf) | (refine yes_br ?_ (fun _ => ?_); (focus (simp; done)); conv => whnf) | (refine ACode.st tys_ok rfl ?_; conv => whnf))
            exact congrArg AV.bool (hno (by unfold clsB; rw [e1]; simp)).symm
           | true =>
            have c1 := rnum_at e1
            cases e2 : numB x.deliver with
            | false =>
             have c2 := rnum_at e2
             repeat (first | (refine ACode.draw [] tys_ok (by kernel_rfl) (by kernel_rfl) ?_; conv => whnf) | (refine ⟨by omega, _, (by exact hcg), ?_⟩; conv => whnf) | (refine ⟨_, ⟨c1, rfl⟩, ?_⟩; conv => whnf) | (refine ⟨_, ⟨c2, rfl⟩, ?_⟩; conv => whnf) | (refine ACall.of_spec (c1) rfl fun r hr => ?_; subst hr; conv => whnf) | (refine ACall.of_spec (c2) rfl fun r hr => ?_; subst hr; conv => whnf) | (refine no_br ?_ (fun _ => ?_); (focus (simp; done)); conv => whnf) | (refine yes_br ?_ (fun _ => ?_); (focus (simp; done)); conv => whnf) | (refine ACode.st tys_ok rfl ?_; conv => whnf))
             exact congrArg AV.bool (hno (by unfold clsB; rw [e2]; simp)).symm
            | true =>
             have c2 := rnum_at e2
             repeat (first | (refine ACode.draw [] tys_ok (by kernel_rfl) (by kernel_rfl) ?_; conv => whnf) | (refine ⟨by omega, _, (by exact hcg), ?_⟩; conv => whnf) | (refine ⟨_, ⟨c1, rfl⟩, ?_⟩; conv => whnf) | (refine ⟨_, ⟨c2, rfl⟩, ?_⟩; conv => whnf) | (refine ACall.of_spec (c1) rfl fun r hr => ?_; subst hr; conv => whnf) | (refine ACall.of_spec (c2) rfl fun r hr => ?_; subst hr; conv => whnf) | (refine no_br ?_ (fun _ => ?_); (focus (simp; done)); conv => whnf) | (refine yes_br ?_ (fun _ => ?_); (focus (simp; done)); conv => whnf) | (refine ACode.st tys_ok rfl ?_; conv => whnf))
             have hok : clsB x = true := by unfold clsB; rw [e1, e2]; rfl
             refine ⟨k + 1, ?_⟩
             conv => whnf
             repeat (refine And.intro ?_ ?_; (focus (first | rfl | (simp; done) | (first | exact hw1; done))); conv => whnf)
             exact ⟨⟨by omega, by rw [hst, he, hok]; rfl⟩, by omega⟩
          ·have h : k = n.clss.length := by simp at h; omega
           rw [h, List.take_length] at he
           conv => whnf
           repeat (first | (refine ACode.st tys_ok rfl ?_; conv => whnf))
           refine congrArg AV.bool ?_
           unfold printB
           rw [ha, hb, hc, hd, he, strs_length, List.length_map, Bool.eq_iff_iff]
           simp only [Bool.and_true, decide_eq_true_eq]
           omega
end Go.Proofs.YtbedaolpfedacaaGreatDoor
