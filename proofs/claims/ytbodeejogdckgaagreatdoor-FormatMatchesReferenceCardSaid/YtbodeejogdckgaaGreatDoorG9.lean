/-
 The reference: read.
-/
import Derived.Test.YtbodeejogdckgaaGreatDoorG8
set_option linter.unusedVariables false
set_option linter.unusedSimpArgs false
namespace Go.Proofs.YtbodeejogdckgaaGreatDoor
open Go.Av Go.Shelf Pl
theorem readR_len : ∀ (ps : List Pt) (ws : List Bs) (a : Ad), (readR ps ws a).length ≤ 4 ^ ps.length
 | [], [], a => by simp [readR]
 | [], _ :: _, a => by simp [readR]
 | p :: ps, ws, a => by
  show ((List.range (min 4 ws.length)).flatMap (stepR p (readR ps) ws a)).length ≤ _
  have h := flat_range_bound (stepR p (readR ps) ws a) (4 ^ ps.length) (min 4 ws.length) fun i _ => by
   unfold stepR
   split
   ·exact readR_len ps _ _
   ·exact Nat.zero_le _
  rw [List.length_cons, Nat.pow_succ]
  have : min 4 ws.length * 4 ^ ps.length ≤ 4 * 4 ^ ps.length := Nat.mul_le_mul_right _ (by omega)
  omega
theorem strs_take (l : List Bs) (n : Nat) : (strs l).take n = strs (l.take n) := List.map_take.symm
theorem strs_drop (l : List Bs) (n : Nat) : (strs l).drop n = strs (l.drop n) := List.map_drop.symm
set_option maxRecDepth 100000 in
theorem rread_spec : ∀ (ps : List Pt) (ws : List Bs) (a : Ad), (∀ p ∈ ps, partB p = true) → ps.length ≤ 8 → ws.length ≤ 1000 → (∀ w ∈ ws, w.length ≤ 1000) →
  Ctr Tryz.prog 34 [a.v, ptsA ps, strsA ws] (fun r => r = .sl 5 ((readR ps ws a).map Ad.v))
 | [], ws, a, hp, h8, hws, hwl => by
  refine Ctr.of_body Tryz.func34 rfl tys_ok (by kernel_rfl) ?_
  conv => whnf
  repeat (first | refine ACode.seq ?_ | (refine ACode.s_reg tys_ok ?_; conv => whnf) | refine ACode.s_block ?_ | refine ACode.s_scope ?_ | (refine ACode.s_cond ?_; conv => whnf) | (refine ACode.s_exit ?_; conv => whnf) | (refine ACode.s_ret ?_; conv => whnf) | (refine ACode.s_skip ?_; conv => whnf) | (refine ACode.s_label ?_; conv => whnf))
  repeat (first | (refine ⟨fun _ => ?_, fun h => absurd h (by decide +kernel)⟩; conv => whnf) | (refine ⟨fun h => absurd h (by decide +kernel), fun _ => ?_⟩; conv => whnf) | (refine ⟨by decide, _, rfl, ?_⟩; conv => whnf) | refine ACode.seq ?_ | (refine ACode.s_reg tys_ok ?_; conv => whnf) | refine ACode.s_block ?_ | refine ACode.s_scope ?_ | (refine ACode.s_cond ?_; conv => whnf) | (refine ACode.s_exit ?_; conv => whnf) | (refine ACode.s_ret ?_; conv => whnf) | (refine ACode.s_skip ?_; conv => whnf) | (refine ACode.s_label ?_; conv => whnf))
  refine ⟨fun h => ?_, fun h => ?_⟩
  ·have h : ws = [] := by
    have h := of_decide_eq_true h
    rw [strs_len] at h
    exact List.length_eq_zero_iff.1 (by omega)
   subst h
   conv => whnf
   repeat (first | refine ACode.seq ?_ | (refine ACode.s_reg tys_ok ?_; conv => whnf) | refine ACode.s_block ?_ | refine ACode.s_scope ?_ | (refine ACode.s_cond ?_; conv => whnf) | (refine ACode.s_exit ?_; conv => whnf) | (refine ACode.s_ret ?_; conv => whnf) | (refine ACode.s_skip ?_; conv => whnf) | (refine ACode.s_label ?_; conv => whnf))
   refine ⟨⟨rfl, by simp [closed, closeds]⟩, ?_⟩
   conv => whnf
   rfl
  ·have h : ws ≠ [] := fun e => by rw [e] at h; simp at h
   obtain ⟨w, ws, rfl⟩ := List.exists_cons_of_ne_nil h
   conv => whnf
   repeat (first | refine ACode.seq ?_ | (refine ACode.s_reg tys_ok ?_; conv => whnf) | refine ACode.s_block ?_ | refine ACode.s_scope ?_ | (refine ACode.s_cond ?_; conv => whnf) | (refine ACode.s_exit ?_; conv => whnf) | (refine ACode.s_ret ?_; conv => whnf) | (refine ACode.s_skip ?_; conv => whnf) | (refine ACode.s_label ?_; conv => whnf))
   refine ⟨5, ?_⟩
   conv => whnf
   rfl
 | p :: ps, ws, a, hp, h8, hws, hwl => by
  refine Ctr.of_body Tryz.func34 rfl tys_ok (by kernel_rfl) ?_
  conv => whnf
  repeat (first | refine ACode.seq ?_ | (refine ACode.s_reg tys_ok ?_; conv => whnf) | refine ACode.s_block ?_ | refine ACode.s_scope ?_ | (refine ACode.s_cond ?_; conv => whnf) | (refine ACode.s_exit ?_; conv => whnf) | (refine ACode.s_ret ?_; conv => whnf) | (refine ACode.s_skip ?_; conv => whnf) | (refine ACode.s_label ?_; conv => whnf))
  refine And.intro (fun h => absurd h (by (simp; omega))) (fun h => ?_)
  conv => whnf
  have hwsl : (strs ws).length = ws.length := by simp
  conv => whnf
  repeat (first | refine ACode.seq ?_ | (refine ACode.s_reg tys_ok ?_; conv => whnf) | refine ACode.s_block ?_ | refine ACode.s_scope ?_ | (refine ACode.s_cond ?_; conv => whnf) | (refine ACode.s_exit ?_; conv => whnf) | (refine ACode.s_ret ?_; conv => whnf) | (refine ACode.s_skip ?_; conv => whnf) | (refine ACode.s_label ?_; conv => whnf))
  have hlen := readR_len
  generalize hf : stepR p (readR ps) ws a = f
  have hfl : ∀ i, (f i).length ≤ 4 ^ 8 := fun i => by
   rw [← hf]
   unfold stepR
   split
   ·exact Nat.le_trans (readR_len ps _ _) (Nat.pow_le_pow_right (by omega) (by simp at h8; omega))
   ·exact Nat.zero_le _
  have hbd : ∀ n, ((List.range n).flatMap f).length ≤ n * 4 ^ 8 := fun n => flat_range_bound f _ n fun i _ => hfl i
  have hR : readR (p :: ps) ws a = (List.range (min 4 ws.length)).flatMap f := by rw [← hf]; rfl
  rw [hR]
  refine ACode.loopD (fun i : Nat => mk 52 [(1, ptsA (p :: ps)), (2, strsA ws), (3, .ptr 0 0), (6, .raw (Value.slice none 0 0)), (7, .own 1 5 0 ((List.range i).flatMap f).length), (8, .int .i64 (i + 1))]) (fun i => [.cells (adA a), .arr 27 5 (((List.range i).flatMap f).map Ad.v)]) (fun i => i ≤ min 4 ws.length) (fun i => 4 - i) (fun _ _ => ⟨rfl, rfl, ads_closed _, trivial⟩) ⟨0, ?_⟩ (fun _ => rfl) fun i hi => ?_
  ·conv => whnf
   repeat (refine And.intro ?_ ?_; (focus (first | rfl | (simp; done))); conv => whnf)
   exact Nat.zero_le _
  ·repeat (first | refine ACode.seq ?_ | (refine ACode.s_reg tys_ok ?_; conv => whnf) | refine ACode.s_block ?_ | refine ACode.s_scope ?_ | (refine ACode.s_cond ?_; conv => whnf) | (refine ACode.s_exit ?_; conv => whnf) | (refine ACode.s_ret ?_; conv => whnf) | (refine ACode.s_skip ?_; conv => whnf) | (refine ACode.s_label ?_; conv => whnf))
   refine ⟨fun h => ?_, fun h => ?_⟩
   ·have h : i < 4 := by have := of_decide_eq_true h; omega
    conv => whnf
    repeat (first | refine ACode.seq ?_ | (refine ACode.s_reg tys_ok ?_; conv => whnf) | refine ACode.s_block ?_ | refine ACode.s_scope ?_ | (refine ACode.s_cond ?_; conv => whnf) | (refine ACode.s_exit ?_; conv => whnf) | (refine ACode.s_ret ?_; conv => whnf) | (refine ACode.s_skip ?_; conv => whnf) | (refine ACode.s_label ?_; conv => whnf))
    refine ⟨fun h2 => ?_, fun h2 => ?_⟩
    ·have h2 : i < ws.length := by have := of_decide_eq_true h2; omega
     have hw1 : Wr .i64 ((i : Int) + 1 + 1) = ((i + 1 : Nat) : Int) + 1 := by rw [Wr64 _ (by omega) (by omega)]; rfl
     conv => whnf
     repeat (first | refine ACode.seq ?_ | (refine ACode.s_reg tys_ok ?_; conv => whnf) | refine ACode.s_block ?_ | refine ACode.s_scope ?_ | (refine ACode.s_cond ?_; conv => whnf) | (refine ACode.s_exit ?_; conv => whnf) | (refine ACode.s_ret ?_; conv => whnf) | (refine ACode.s_skip ?_; conv => whnf) | (refine ACode.s_label ?_; conv => whnf))
     refine ACode.draw2 [12] tys_ok (by kernel_rfl) (by kernel_rfl) ?_
     conv => whnf
     refine ⟨by omega, _, rfl, ?_⟩
     conv => whnf
     refine ⟨⟨by omega, by omega, by omega⟩, ?_⟩
     rw [show ((i : Int) + 1).toNat = i + 1 by omega, show (0 : Int).toNat = 0 from rfl, List.drop_zero, strs_take]
     conv => whnf
     refine ⟨_, ⟨rtake_spec a p (ws.take (i + 1)) (hp p (by simp)) (by rw [List.length_take]; omega) (fun w hw => hwl w (List.mem_of_mem_take hw)), rfl⟩, ?_⟩
     conv => whnf
     refine ⟨fun g => ?_, fun g => ?_⟩
     ·rw [take_put g]
      have hfi : f i = readR ps (ws.drop (i + 1)) (putP p (ws.take (i + 1)) a) := by
       rw [← hf]
       unfold stepR
       rw [if_pos g]
      conv => whnf
      repeat (first | refine ACode.seq ?_ | (refine ACode.s_reg tys_ok ?_; conv => whnf) | refine ACode.s_block ?_ | refine ACode.s_scope ?_ | (refine ACode.s_cond ?_; conv => whnf) | (refine ACode.s_exit ?_; conv => whnf) | (refine ACode.s_ret ?_; conv => whnf) | (refine ACode.s_skip ?_; conv => whnf) | (refine ACode.s_label ?_; conv => whnf))
      repeat' (first | (refine And.intro (fun _ => ?_) (fun _ => ?_) <;> conv => whnf) | refine ACode.seq ?_ | (refine ACode.s_reg tys_ok ?_; conv => whnf) | refine ACode.s_block ?_ | refine ACode.s_scope ?_ | (refine ACode.s_cond ?_; conv => whnf) | (refine ACode.s_exit ?_; conv => whnf) | (refine ACode.s_ret ?_; conv => whnf) | (refine ACode.s_skip ?_; conv => whnf) | (refine ACode.s_label ?_; conv => whnf))
      refine ACode.draw [8] tys_ok (by kernel_rfl) (by kernel_rfl) ?_
      conv => whnf
      refine ⟨⟨by first | omega | simp, by first | omega | (simp; done) | (simp; omega), by first | omega | (simp; done) | (simp; omega)⟩, ?_⟩
      conv => whnf
      refine ⟨⟨by omega, by first | omega | simp, by first | omega | simp⟩, ?_⟩
      rw [show ((i : Int) + 1).toNat = i + 1 by omega]
      rw [show List.drop (Int.toNat 1) (List.take (((p :: ps).map Pt.v).length : Int).toNat ((p :: ps).map Pt.v)) = ps.map Pt.v by rw [Int.toNat_natCast, List.take_length]; rfl, show List.drop (i + 1) (List.take ((strs ws).length : Int).toNat (strs ws)) = strs (ws.drop (i + 1)) by rw [Int.toNat_natCast, List.take_length, strs_drop]]
      conv => whnf
      refine ⟨_, ⟨rread_spec ps (ws.drop (i + 1)) (putP p (ws.take (i + 1)) a) (fun q hq => hp q (by simp [hq])) (by simp at h8; omega) (by rw [List.length_drop]; omega) (fun w hw => hwl w (List.mem_of_mem_drop hw)), rfl⟩, ?_⟩
      conv => whnf
      rw [← hfi]
      have hsn : (List.range (i + 1)).flatMap f = (List.range i).flatMap f ++ f i := by rw [List.range_succ, List.flatMap_append]; simp
      have hbi := hbd i
      have hbf := hfl i
      refine ⟨⟨by rw [List.length_map], by rw [List.length_append, List.length_map, List.length_map]; omega⟩, ?_⟩
      rw [← List.map_append, ← hsn]
      conv => whnf
      repeat (first | refine ACode.seq ?_ | (refine ACode.s_reg tys_ok ?_; conv => whnf) | refine ACode.s_block ?_ | refine ACode.s_scope ?_ | (refine ACode.s_cond ?_; conv => whnf) | (refine ACode.s_exit ?_; conv => whnf) | (refine ACode.s_ret ?_; conv => whnf) | (refine ACode.s_skip ?_; conv => whnf) | (refine ACode.s_label ?_; conv => whnf))
      refine ⟨i + 1, ?_⟩
      conv => whnf
      repeat (refine And.intro ?_ ?_; (focus (first | rfl | (simp; done) | (first | exact hw1 | exact congrArg (AV.own 1 5 0) (List.length_map ..); done))); conv => whnf)
      exact ⟨by omega, by omega⟩
     ·have hfi : f i = [] := by
       rw [← hf]
       unfold stepR
       rw [if_neg (by rw [g]; simp)]
      have hsn : (List.range (i + 1)).flatMap f = (List.range i).flatMap f := by rw [List.range_succ, List.flatMap_append]; simp [hfi]
      conv => whnf
      repeat (first | refine ACode.seq ?_ | (refine ACode.s_reg tys_ok ?_; conv => whnf) | refine ACode.s_block ?_ | refine ACode.s_scope ?_ | (refine ACode.s_cond ?_; conv => whnf) | (refine ACode.s_exit ?_; conv => whnf) | (refine ACode.s_ret ?_; conv => whnf) | (refine ACode.s_skip ?_; conv => whnf) | (refine ACode.s_label ?_; conv => whnf))
      repeat' (first | (refine And.intro (fun _ => ?_) (fun _ => ?_) <;> conv => whnf) | refine ACode.seq ?_ | (refine ACode.s_reg tys_ok ?_; conv => whnf) | refine ACode.s_block ?_ | refine ACode.s_scope ?_ | (refine ACode.s_cond ?_; conv => whnf) | (refine ACode.s_exit ?_; conv => whnf) | (refine ACode.s_ret ?_; conv => whnf) | (refine ACode.s_skip ?_; conv => whnf) | (refine ACode.s_label ?_; conv => whnf))
      refine ⟨i + 1, ?_⟩
      rw [hsn]
      conv => whnf
      repeat (refine And.intro ?_ ?_; (focus (first | rfl | (simp; done) | (first | exact hw1; done))); conv => whnf)
      exact ⟨by omega, by omega⟩
    ·have h2 : i = ws.length := by have := of_decide_eq_false h2; omega
     conv => whnf
     repeat (first | refine ACode.seq ?_ | (refine ACode.s_reg tys_ok ?_; conv => whnf) | refine ACode.s_block ?_ | refine ACode.s_scope ?_ | (refine ACode.s_cond ?_; conv => whnf) | (refine ACode.s_exit ?_; conv => whnf) | (refine ACode.s_ret ?_; conv => whnf) | (refine ACode.s_skip ?_; conv => whnf) | (refine ACode.s_label ?_; conv => whnf))
     refine ⟨⟨by rw [List.length_map], ads_closed _⟩, ?_⟩
     conv => whnf
     rw [show min 4 ws.length = i by omega]
   ·have h : i = 4 := by have := of_decide_eq_false h; omega
    conv => whnf
    repeat (first | refine ACode.seq ?_ | (refine ACode.s_reg tys_ok ?_; conv => whnf) | refine ACode.s_block ?_ | refine ACode.s_scope ?_ | (refine ACode.s_cond ?_; conv => whnf) | (refine ACode.s_exit ?_; conv => whnf) | (refine ACode.s_ret ?_; conv => whnf) | (refine ACode.s_skip ?_; conv => whnf) | (refine ACode.s_label ?_; conv => whnf))
    refine ⟨⟨by rw [List.length_map], ads_closed _⟩, ?_⟩
    conv => whnf
    rw [show min 4 ws.length = i by omega]
end Go.Proofs.YtbodeejogdckgaaGreatDoor
