/-
 strings.Split at a blank; houseNumber, isWords, printed, fits, allFit.
-/
import Derived.Test.YtbodeejogdckgaaGreatDoorF2
set_option linter.unusedVariables false
set_option linter.unusedSimpArgs false
namespace Go.Proofs.YtbodeejogdckgaaGreatDoor
open Go.Av Go.Shelf Pl Go.RowKit
theorem arr_closed (d : List Bs) (n : Nat) : ∀ a ∈ strs d ++ List.replicate n (AV.str []), closed a = true := by
 intro a ha
 rcases List.mem_append.1 ha with ha | ha
 ·obtain ⟨x, _, rfl⟩ := List.mem_map.1 ha; rfl
 ·rw [List.eq_of_mem_replicate ha]; rfl
theorem arr_get (d : List Bs) (N : Nat) (h : d.length < N) : (strs d ++ List.replicate (N - d.length) (AV.str []))[0 + ((d.length : Nat) : Int).toNat]? = some (AV.str []) := by
 obtain ⟨k, hk⟩ : ∃ k, N - d.length = k + 1 := ⟨N - d.length - 1, by omega⟩
 rw [Nat.zero_add, Int.toNat_natCast, List.getElem?_append_right (by simp [strs]), hk]
 simp [strs]
theorem arr_set (d : List Bs) (N : Nat) (t : Bs) (h : d.length < N) : (strs d ++ List.replicate (N - d.length) (AV.str [])).set (0 + ((d.length : Nat) : Int).toNat) (.str t) = strs (d ++ [t]) ++ List.replicate (N - (d ++ [t]).length) (AV.str []) := by
 obtain ⟨k, hk⟩ : ∃ k, N - d.length = k + 1 := ⟨N - d.length - 1, by omega⟩
 have hk2 : N - (d ++ [t]).length = k := by simp; omega
 rw [Nat.zero_add, Int.toNat_natCast, List.set_append_right (h := by simp [strs]), hk, hk2]
 simp [strs, List.replicate_succ]
set_option maxRecDepth 100000 in
theorem genSplit_spec (s : Bs) (hs : s.length ≤ 100000) : Ctr Tryz.prog 97 [.str s, .str [32], .int .i64 0, .int .i64 (-1)] (fun r => r = .sl 1 (strs (splitB s))) := by
 refine Ctr.of_body Tryz.func97 rfl tys_ok (by kernel_rfl) ?_
 conv => whnf
 repeat (first | refine ACode.seq ?_ | (refine ACode.s_reg tys_ok ?_; conv => whnf) | refine ACode.s_block ?_ | refine ACode.s_scope ?_ | (refine ACode.s_cond ?_; conv => whnf) | (refine ACode.s_exit ?_; conv => whnf) | (refine ACode.s_ret ?_; conv => whnf) | (refine ACode.s_skip ?_; conv => whnf) | (refine ACode.s_label ?_; conv => whnf))
 refine ⟨fun h => absurd h (by decide), fun _ => ?_⟩
 conv => whnf
 repeat (first | refine ACode.seq ?_ | (refine ACode.s_reg tys_ok ?_; conv => whnf) | refine ACode.s_block ?_ | refine ACode.s_scope ?_ | (refine ACode.s_cond ?_; conv => whnf) | (refine ACode.s_exit ?_; conv => whnf) | (refine ACode.s_ret ?_; conv => whnf) | (refine ACode.s_skip ?_; conv => whnf) | (refine ACode.s_label ?_; conv => whnf))
 refine ⟨fun h => absurd h (by decide), fun _ => ?_⟩
 conv => whnf
 repeat (first | refine ACode.seq ?_ | (refine ACode.s_reg tys_ok ?_; conv => whnf) | refine ACode.s_block ?_ | refine ACode.s_scope ?_ | (refine ACode.s_cond ?_; conv => whnf) | (refine ACode.s_exit ?_; conv => whnf) | (refine ACode.s_ret ?_; conv => whnf) | (refine ACode.s_skip ?_; conv => whnf) | (refine ACode.s_label ?_; conv => whnf))
 refine ⟨fun _ => ?_, fun h => absurd h (by decide)⟩
 conv => whnf
 repeat (first | refine ACode.seq ?_ | (refine ACode.s_reg tys_ok ?_; conv => whnf) | refine ACode.s_block ?_ | refine ACode.s_scope ?_ | (refine ACode.s_cond ?_; conv => whnf) | (refine ACode.s_exit ?_; conv => whnf) | (refine ACode.s_ret ?_; conv => whnf) | (refine ACode.s_skip ?_; conv => whnf) | (refine ACode.s_label ?_; conv => whnf))
 refine ACall.of_spec (count_spec s) rfl fun r hr => ?_
 subst hr
 conv => whnf
 repeat (first | refine ACode.seq ?_ | (refine ACode.s_reg tys_ok ?_; conv => whnf) | refine ACode.s_block ?_ | refine ACode.s_scope ?_ | (refine ACode.s_cond ?_; conv => whnf) | (refine ACode.s_exit ?_; conv => whnf) | (refine ACode.s_ret ?_; conv => whnf) | (refine ACode.s_skip ?_; conv => whnf) | (refine ACode.s_label ?_; conv => whnf))
 have hc : Lib.countByte s 32 ≤ s.length := List.count_le_length
 have hn : (splitB s).length = Lib.countByte s 32 + 1 := splitB_len s
 have hm : min (Wr IntKind.i64 ((Lib.countByte s 32 : Nat) + 1)) (Wr IntKind.i64 ((s.length : Nat) + 1)) = (((splitB s).length : Nat) : Int) := by
  rw [Wr64 _ (by omega) (by omega), Wr64 _ (by omega) (by omega)]; omega
 rw [hm, Int.toNat_natCast]
 refine ⟨by omega, ?_⟩
 conv => whnf
 repeat (first | refine ACode.seq ?_ | (refine ACode.s_reg tys_ok ?_; conv => whnf) | refine ACode.s_block ?_ | refine ACode.s_scope ?_ | (refine ACode.s_cond ?_; conv => whnf) | (refine ACode.s_exit ?_; conv => whnf) | (refine ACode.s_ret ?_; conv => whnf) | (refine ACode.s_skip ?_; conv => whnf) | (refine ACode.s_label ?_; conv => whnf))
 generalize hN : (splitB s).length = N at *
 have hN1 : 1 ≤ N := by omega
 refine ACode.loopD (fun d : List Bs × Bs => mk 66 [(0, .str d.2), (1, .str [32]), (2, .int .i64 0), (3, .int .i64 ((N : Int) - 1)), (8, .raw (Value.slice none 0 0)), (9, .own 0 1 0 N), (10, .int .i64 d.1.length)]) (fun d => [.arr 9 1 (strs d.1 ++ List.replicate (N - d.1.length) (AV.str []))])
  (fun d => splitB s = d.1 ++ splitB d.2 ∧ d.2.length ≤ s.length) (fun d => N - d.1.length) (fun _ _ => ⟨rfl, arr_closed _ _, trivial⟩) ⟨([], s), ?_⟩ (fun _ => rfl) fun ⟨d, t⟩ hd => ?_
 ·conv => whnf
  repeat (refine And.intro ?_ ?_; (focus (first | rfl | (simp; done) | (first | (rw [Wr64 _ (by omega) (by omega)]; done) | (simp [strs]; done); done))); conv => whnf)
  exact Nat.le_refl _
 ·obtain ⟨hd, ht⟩ := hd
  simp only at hd ht
  have hdl : d.length + (splitB t).length = N := by rw [← hN, hd]; simp
  have htp := splitB_pos t
  repeat (first | refine ACode.seq ?_ | (refine ACode.s_reg tys_ok ?_; conv => whnf) | refine ACode.s_block ?_ | refine ACode.s_scope ?_ | (refine ACode.s_cond ?_; conv => whnf) | (refine ACode.s_exit ?_; conv => whnf) | (refine ACode.s_ret ?_; conv => whnf) | (refine ACode.s_skip ?_; conv => whnf) | (refine ACode.s_label ?_; conv => whnf))
  refine ⟨fun h => ?_, fun h => ?_⟩
  ·have h : d.length < N - 1 := by simp at h; omega
   conv => whnf
   repeat (first | refine ACode.seq ?_ | (refine ACode.s_reg tys_ok ?_; conv => whnf) | refine ACode.s_block ?_ | refine ACode.s_scope ?_ | (refine ACode.s_cond ?_; conv => whnf) | (refine ACode.s_exit ?_; conv => whnf) | (refine ACode.s_ret ?_; conv => whnf) | (refine ACode.s_skip ?_; conv => whnf) | (refine ACode.s_label ?_; conv => whnf))
   refine ACall.of_spec (index_spec t) rfl fun r hr => ?_
   subst hr
   conv => whnf
   repeat (first | refine ACode.seq ?_ | (refine ACode.s_reg tys_ok ?_; conv => whnf) | refine ACode.s_block ?_ | refine ACode.s_scope ?_ | (refine ACode.s_cond ?_; conv => whnf) | (refine ACode.s_exit ?_; conv => whnf) | (refine ACode.s_ret ?_; conv => whnf) | (refine ACode.s_skip ?_; conv => whnf) | (refine ACode.s_label ?_; conv => whnf))
   refine ⟨fun h2 => ?_, fun h2 => ?_⟩
   ·exfalso
    have h2 : Lib.indexByte t 32 = -1 := by have := Lib.indexByte_ge t 32; simp at h2; omega
    have := splitB_free (Lib.indexByte_none h2)
    rw [this] at hdl
    simp at hdl
    omega
   ·obtain ⟨m, hm2⟩ : ∃ m : Nat, Lib.indexByte t 32 = m := ⟨(Lib.indexByte t 32).toNat, by simp at h2; omega⟩
    rw [hm2]
    obtain ⟨i1, i2⟩ := Lib.indexByte_some hm2
    have hml : m < t.length := (List.getElem?_eq_some_iff.1 i1).1
    have hmm : (m : Int) + 0 = m := by omega
    conv => whnf
    repeat (first | refine ACode.seq ?_ | (refine ACode.s_reg tys_ok ?_; conv => whnf) | refine ACode.s_block ?_ | refine ACode.s_scope ?_ | (refine ACode.s_cond ?_; conv => whnf) | (refine ACode.s_exit ?_; conv => whnf) | (refine ACode.s_ret ?_; conv => whnf) | (refine ACode.s_skip ?_; conv => whnf) | (refine ACode.s_label ?_; conv => whnf))
    rw [hmm, Wr64 _ (by omega) (by omega)]
    refine ⟨by simp only; omega, ?_⟩
    conv => whnf
    repeat (first | refine ACode.seq ?_ | (refine ACode.s_reg tys_ok ?_; conv => whnf) | refine ACode.s_block ?_ | refine ACode.s_scope ?_ | (refine ACode.s_cond ?_; conv => whnf) | (refine ACode.s_exit ?_; conv => whnf) | (refine ACode.s_ret ?_; conv => whnf) | (refine ACode.s_skip ?_; conv => whnf) | (refine ACode.s_label ?_; conv => whnf))
    refine ⟨by simp only; omega, ?_⟩
    conv => whnf
    repeat (first | refine ACode.seq ?_ | (refine ACode.s_reg tys_ok ?_; conv => whnf) | refine ACode.s_block ?_ | refine ACode.s_scope ?_ | (refine ACode.s_cond ?_; conv => whnf) | (refine ACode.s_exit ?_; conv => whnf) | (refine ACode.s_ret ?_; conv => whnf) | (refine ACode.s_skip ?_; conv => whnf) | (refine ACode.s_label ?_; conv => whnf))
    refine ⟨_, arr_get d N (by omega), ?_⟩
    conv => whnf
    repeat (first | refine ACode.seq ?_ | (refine ACode.s_reg tys_ok ?_; conv => whnf) | refine ACode.s_block ?_ | refine ACode.s_scope ?_ | (refine ACode.s_cond ?_; conv => whnf) | (refine ACode.s_exit ?_; conv => whnf) | (refine ACode.s_ret ?_; conv => whnf) | (refine ACode.s_skip ?_; conv => whnf) | (refine ACode.s_label ?_; conv => whnf))
    have h32 : (m : Int) + ((([32] : List UInt8).length : Nat) : Int) = ((m + 1 : Nat) : Int) := rfl
    rw [h32, Wr64 _ (by omega) (by omega)]
    refine ⟨by simp only; omega, ?_⟩
    conv => whnf
    repeat (first | refine ACode.seq ?_ | (refine ACode.s_reg tys_ok ?_; conv => whnf) | refine ACode.s_block ?_ | refine ACode.s_scope ?_ | (refine ACode.s_cond ?_; conv => whnf) | (refine ACode.s_exit ?_; conv => whnf) | (refine ACode.s_ret ?_; conv => whnf) | (refine ACode.s_skip ?_; conv => whnf) | (refine ACode.s_label ?_; conv => whnf))
    refine ⟨(d ++ [t.take m], t.drop (m + 1)), ?_⟩
    have hsp := splitB_at i1 i2
    conv => whnf
    repeat (refine And.intro ?_ ?_; (focus (first | rfl | (simp; done) | (first | (rw [Wr64 _ (by simp only; omega) (by simp only; omega)]; simp; done) | (simp; omega); done))); conv => whnf)
    refine ⟨congrArg (HO.arr _ 1) (arr_set d N (t.take m) (by omega)), ⟨?_, by simp; omega⟩, by simp; omega⟩
    rw [hd, hsp]
    simp
  ·have h : d.length = N - 1 := by simp at h; omega
   have h1 : (splitB t).length = 1 := by omega
   have ht1 : splitB t = [t] := by
    refine splitB_free fun k hk => ?_
    have h2 := splitB_len t
    have h3 : 0 < List.count 32 t := List.count_pos_iff.2 (List.mem_of_getElem? hk)
    omega
   conv => whnf
   repeat (first | refine ACode.seq ?_ | (refine ACode.s_reg tys_ok ?_; conv => whnf) | refine ACode.s_block ?_ | refine ACode.s_scope ?_ | (refine ACode.s_cond ?_; conv => whnf) | (refine ACode.s_exit ?_; conv => whnf) | (refine ACode.s_ret ?_; conv => whnf) | (refine ACode.s_skip ?_; conv => whnf) | (refine ACode.s_label ?_; conv => whnf))
   refine ⟨by simp only; omega, ?_⟩
   conv => whnf
   repeat (first | refine ACode.seq ?_ | (refine ACode.s_reg tys_ok ?_; conv => whnf) | refine ACode.s_block ?_ | refine ACode.s_scope ?_ | (refine ACode.s_cond ?_; conv => whnf) | (refine ACode.s_exit ?_; conv => whnf) | (refine ACode.s_ret ?_; conv => whnf) | (refine ACode.s_skip ?_; conv => whnf) | (refine ACode.s_label ?_; conv => whnf))
   refine ⟨_, arr_get d N (by omega), ?_⟩
   conv => whnf
   repeat (first | refine ACode.seq ?_ | (refine ACode.s_reg tys_ok ?_; conv => whnf) | refine ACode.s_block ?_ | refine ACode.s_scope ?_ | (refine ACode.s_cond ?_; conv => whnf) | (refine ACode.s_exit ?_; conv => whnf) | (refine ACode.s_ret ?_; conv => whnf) | (refine ACode.s_skip ?_; conv => whnf) | (refine ACode.s_label ?_; conv => whnf))
   rw [Wr64 _ (by simp only; omega) (by simp only; omega)]
   refine ⟨by simp only; omega, ?_⟩
   conv => whnf
   repeat (first | refine ACode.seq ?_ | (refine ACode.s_reg tys_ok ?_; conv => whnf) | refine ACode.s_block ?_ | refine ACode.s_scope ?_ | (refine ACode.s_cond ?_; conv => whnf) | (refine ACode.s_exit ?_; conv => whnf) | (refine ACode.s_ret ?_; conv => whnf) | (refine ACode.s_skip ?_; conv => whnf) | (refine ACode.s_label ?_; conv => whnf))
   have e : (strs d ++ List.replicate (N - d.length) (AV.str [])).set (0 + ((d.length : Nat) : Int).toNat) (.str t) = strs (splitB s) := by
    have h2 : N - (d ++ [t]).length = 0 := by simp; omega
    rw [arr_set d N t (by omega), h2, hd, ht1]
    simp
   refine ⟨⟨?_, ?_⟩, ?_⟩
   ·show _ = ((strs d ++ List.replicate (N - d.length) (AV.str [])).set (0 + ((d.length : Nat) : Int).toNat) (.str t)).length
    rw [e, strs_len, hN]
    simp only
    omega
   ·show ∀ a ∈ (strs d ++ List.replicate (N - d.length) (AV.str [])).set (0 + ((d.length : Nat) : Int).toNat) (.str t), closed a = true
    rw [e]
    intro a ha; obtain ⟨x, _, rfl⟩ := List.mem_map.1 ha; rfl
   ·exact congrArg (AV.sl 1) e
theorem split_spec (s : Bs) (hs : s.length ≤ 100000) : Ctr Tryz.prog 79 [.str s, .str [32]] (fun r => r = .sl 1 (strs (splitB s))) := by
 refine Ctr.of_body Tryz.func79 rfl tys_ok (by kernel_rfl) ?_
 conv => whnf
 repeat (first | refine ACode.seq ?_ | (refine ACode.s_reg tys_ok ?_; conv => whnf) | refine ACode.s_block ?_ | refine ACode.s_scope ?_ | (refine ACode.s_cond ?_; conv => whnf) | (refine ACode.s_exit ?_; conv => whnf) | (refine ACode.s_ret ?_; conv => whnf) | (refine ACode.s_skip ?_; conv => whnf) | (refine ACode.s_label ?_; conv => whnf))
 repeat (first | (refine ACall.of_spec (genSplit_spec s hs) rfl fun r hr => ?_; subst hr; conv => whnf) | refine ACode.seq ?_ | (refine ACode.s_reg tys_ok ?_; conv => whnf) | refine ACode.s_block ?_ | refine ACode.s_scope ?_ | (refine ACode.s_cond ?_; conv => whnf) | (refine ACode.s_exit ?_; conv => whnf) | (refine ACode.s_ret ?_; conv => whnf) | (refine ACode.s_skip ?_; conv => whnf) | (refine ACode.s_label ?_; conv => whnf))
theorem bytesWorld_below (w : World) (e : TypeId) (s : ByteArray) : Below w.heap.size w (Lib.bytesWorld w e s) :=
 ⟨rfl, rfl, rfl, by rw [Lib.bytesWorld_size]; omega, fun k hk => Lib.bytesWorld_at_old w e s k (by omega)⟩
theorem atoi_rng {s : Bs} {v : Int} (h : Lib.atoiAll s = .ok v) : inK .i64 v := by
 unfold Lib.atoiAll at h
 split at h
 ·cases h
 ·simp only at h
  split at h
  ·cases h
  ·cases h
  ·split at h
   ·cases h
   ·split at h
    ·cases h
    ·injection h with h
     constructor <;> simp [IntKind.min, IntKind.max, IntKind.bits, IntKind.signed] <;> split at h <;> omega
theorem atoi_spec (s : Bs) (hs : s.length ≤ 100000) (v : Int) (hv : Lib.atoiAll s = .ok v) : Ctr Tryz.prog 76 [.str s] (fun r => r = .tuple [.int .i64 v, .raw .nilIface]) := by
 refine ⟨by kernel_rfl, fun C w vs hlt hr => ?_⟩
 unfold Reps at hr
 obtain ⟨v1, _, rfl, h2, hr⟩ := hr
 unfold Reps at hr
 subst hr
 unfold Rep at h2
 obtain ⟨rfl, hl⟩ := h2
 refine (Tryz.strconv_Atoi_ok ⟨s.toArray⟩ (by simp [ByteArray.size]; omega) v (by simpa using hv) w).mono fun e w' ⟨h3, h4⟩ => ?_
 refine ⟨_, _, h3, rfl, ?_, ?_⟩
 ·rcases h4 with rfl | ⟨t, rfl⟩
  ·exact Below.refl _ _
  ·exact bytesWorld_below _ _ _
 ·unfold Rep
  refine ⟨_, rfl, ?_⟩
  unfold Reps
  refine ⟨_, _, rfl, ?_, ?_⟩
  ·unfold Rep; exact ⟨rfl, atoi_rng hv⟩
  ·unfold Reps
   refine ⟨_, _, rfl, ?_, ?_⟩
   ·unfold Rep; rfl
   ·unfold Reps; rfl
/-! ### House numbers -/
set_option maxRecDepth 100000 in
theorem houseNumber_spec (w : Bs) (h0 : 1 ≤ w.length) (hw : w.length ≤ 1000) : Ctr Tryz.prog 55 [.str w] (fun r => r = .tuple [.int .i64 (if numOK w then (valB w : Int) else 0), .bool (numOK w)]) := by
 refine Ctr.of_body Tryz.func55 rfl tys_ok (by kernel_rfl) ?_
 conv => whnf
 repeat (first | refine ACode.seq ?_ | (refine ACode.s_reg tys_ok ?_; conv => whnf) | refine ACode.s_block ?_ | refine ACode.s_scope ?_ | (refine ACode.s_cond ?_; conv => whnf) | (refine ACode.s_exit ?_; conv => whnf) | (refine ACode.s_ret ?_; conv => whnf) | (refine ACode.s_skip ?_; conv => whnf) | (refine ACode.s_label ?_; conv => whnf))
 have hbad : numOK w = false → AV.tuple [AV.int IntKind.i64 0, AV.bool false] = AV.tuple [.int .i64 (if numOK w then (valB w : Int) else 0), .bool (numOK w)] := fun h => by rw [h]; rfl
 have hnum : numOK w = (decide (w.length ≤ 4) && !decide (w[0] = 48) && w.all digB) := by
  unfold numOK
  rw [decide_eq_true h0, Bool.and_true]
  cases w with
  | nil => simp at h0
  | cons c r => simp only [List.head?_cons, Option.some.injEq, List.getElem_cons_zero]
 repeat' (first | (refine And.intro (fun _ => ?_) (fun _ => ?_) <;> conv => whnf) | refine ACode.seq ?_ | (refine ACode.s_reg tys_ok ?_; conv => whnf) | refine ACode.s_block ?_ | refine ACode.s_scope ?_ | (refine ACode.s_cond ?_; conv => whnf) | (refine ACode.s_exit ?_; conv => whnf) | (refine ACode.s_ret ?_; conv => whnf) | (refine ACode.s_skip ?_; conv => whnf) | (refine ACode.s_label ?_; conv => whnf))
 rotate_left
 ·rename_i h1
  exact hbad (by rw [hnum, decide_eq_false (p := w.length ≤ 4) (by simp at h1; omega)]; rfl)
 ·rename_i h1
  have h1 : w.length ≤ 4 := by simp at h1; omega
  have hg0 : w.getD (Int.toNat 0) 0 = w[0] := by simp [List.getD, show 0 < w.length by omega]
  refine ⟨⟨by omega, by omega⟩, ?_⟩
  rw [hg0]
  conv => whnf
  repeat (first | refine ACode.seq ?_ | (refine ACode.s_reg tys_ok ?_; conv => whnf) | refine ACode.s_block ?_ | refine ACode.s_scope ?_ | (refine ACode.s_cond ?_; conv => whnf) | (refine ACode.s_exit ?_; conv => whnf) | (refine ACode.s_ret ?_; conv => whnf) | (refine ACode.s_skip ?_; conv => whnf) | (refine ACode.s_label ?_; conv => whnf))
  refine ⟨fun h2 => ?_, fun h2 => ?_⟩
  ·have h2 : w[0] = 48 := by
    have : w[0].toNat = 48 := by simp at h2; omega
    exact UInt8.toNat_inj.1 this
   conv => whnf
   repeat (first | refine ACode.seq ?_ | (refine ACode.s_reg tys_ok ?_; conv => whnf) | refine ACode.s_block ?_ | refine ACode.s_scope ?_ | (refine ACode.s_cond ?_; conv => whnf) | (refine ACode.s_exit ?_; conv => whnf) | (refine ACode.s_ret ?_; conv => whnf) | (refine ACode.s_skip ?_; conv => whnf) | (refine ACode.s_label ?_; conv => whnf))
   exact hbad (by rw [hnum, decide_eq_true h2]; simp)
  ·have h2 : ¬ w[0] = 48 := fun e => by simp [e] at h2
   have hnum : numOK w = w.all digB := by rw [hnum, decide_eq_true h1, decide_eq_false h2]; simp
   conv => whnf
   repeat (first | refine ACode.seq ?_ | (refine ACode.s_reg tys_ok ?_; conv => whnf) | refine ACode.s_block ?_ | refine ACode.s_scope ?_ | (refine ACode.s_cond ?_; conv => whnf) | (refine ACode.s_exit ?_; conv => whnf) | (refine ACode.s_ret ?_; conv => whnf) | (refine ACode.s_skip ?_; conv => whnf) | (refine ACode.s_label ?_; conv => whnf))
   refine ACode.loopD (fun k : Nat => mk 35 [(0, .str w), (2, .int .i64 0), (3, .lit false), (17, .sl 1 (bytesA w)), (18, .int .i64 w.length), (19, .int .i64 k)]) (fun _ => []) (fun k => k ≤ w.length ∧ (w.take k).all digB = true) (fun k => w.length - k) (fun _ _ => ⟨rfl, trivial⟩) ⟨0, ?_⟩ (fun _ => rfl) fun k hk => ?_
   ·conv => whnf
    repeat (refine And.intro ?_ ?_; (focus (first | rfl | (simp; done))); conv => whnf)
    simp
   ·obtain ⟨hk, ha⟩ := hk
    repeat (first | refine ACode.seq ?_ | (refine ACode.s_reg tys_ok ?_; conv => whnf) | refine ACode.s_block ?_ | refine ACode.s_scope ?_ | (refine ACode.s_cond ?_; conv => whnf) | (refine ACode.s_exit ?_; conv => whnf) | (refine ACode.s_ret ?_; conv => whnf) | (refine ACode.s_skip ?_; conv => whnf) | (refine ACode.s_label ?_; conv => whnf))
    refine ⟨fun h => ?_, fun h => ?_⟩
    ·have h : k < w.length := by simpa using h
     have hw1 : Wr .i64 ((k : Int) + 1) = ((k + 1 : Nat) : Int) := by rw [Wr64 _ (by omega) (by omega)]; rfl
     have ht := all_take digB w k h
     have hff := all_false digB w k h
     conv => whnf
     repeat (first | refine ACode.seq ?_ | (refine ACode.s_reg tys_ok ?_; conv => whnf) | refine ACode.s_block ?_ | refine ACode.s_scope ?_ | (refine ACode.s_cond ?_; conv => whnf) | (refine ACode.s_exit ?_; conv => whnf) | (refine ACode.s_ret ?_; conv => whnf) | (refine ACode.s_skip ?_; conv => whnf) | (refine ACode.s_label ?_; conv => whnf))
     refine ⟨by omega, _, bytes_get w k h, ?_⟩
     conv => whnf
     repeat (first | refine ACode.seq ?_ | (refine ACode.s_reg tys_ok ?_; conv => whnf) | refine ACode.s_block ?_ | refine ACode.s_scope ?_ | (refine ACode.s_cond ?_; conv => whnf) | (refine ACode.s_exit ?_; conv => whnf) | (refine ACode.s_ret ?_; conv => whnf) | (refine ACode.s_skip ?_; conv => whnf) | (refine ACode.s_label ?_; conv => whnf))
     repeat' (first | (refine And.intro (fun _ => ?_) (fun _ => ?_) <;> conv => whnf) | (refine ACall.of_spec (isDigit_spec w[k]) rfl fun r hr => ?_; subst hr; conv => whnf) | refine ACode.seq ?_ | (refine ACode.s_reg tys_ok ?_; conv => whnf) | refine ACode.s_block ?_ | refine ACode.s_scope ?_ | (refine ACode.s_cond ?_; conv => whnf) | (refine ACode.s_exit ?_; conv => whnf) | (refine ACode.s_ret ?_; conv => whnf) | (refine ACode.s_skip ?_; conv => whnf) | (refine ACode.s_label ?_; conv => whnf))
     all_goals first
      | (have hn : digB w[k] = false := by simp_all
         exact hbad (by rw [hnum, hff hn]))
      | (have hy : digB w[k] = true := by simp_all
         refine ⟨k + 1, ?_⟩
         conv => whnf
         repeat (refine And.intro ?_ ?_; (focus (first | rfl | (simp; done) | (first | exact hw1; done))); conv => whnf)
         exact ⟨⟨by omega, by rw [ht, ha, hy]; rfl⟩, by omega⟩)
    ·have h : k = w.length := by simp at h; omega
     rw [h, List.take_length] at ha
     have hav := atoi_val ha h0 h1
     conv => whnf
     repeat (first | refine ACode.seq ?_ | (refine ACode.s_reg tys_ok ?_; conv => whnf) | refine ACode.s_block ?_ | refine ACode.s_scope ?_ | (refine ACode.s_cond ?_; conv => whnf) | (refine ACode.s_exit ?_; conv => whnf) | (refine ACode.s_ret ?_; conv => whnf) | (refine ACode.s_skip ?_; conv => whnf) | (refine ACode.s_label ?_; conv => whnf))
     refine ACall.of_spec (atoi_spec w (by omega) _ hav.1) rfl fun r hr => ?_
     subst hr
     conv => whnf
     repeat (first | refine ACode.seq ?_ | (refine ACode.s_reg tys_ok ?_; conv => whnf) | refine ACode.s_block ?_ | refine ACode.s_scope ?_ | (refine ACode.s_cond ?_; conv => whnf) | (refine ACode.s_exit ?_; conv => whnf) | (refine ACode.s_ret ?_; conv => whnf) | (refine ACode.s_skip ?_; conv => whnf) | (refine ACode.s_label ?_; conv => whnf))
     rw [← hnum] at ha
     refine ACode.draw [] tys_ok (by kernel_rfl) (by kernel_rfl) ?_
     conv => whnf
     repeat (first | refine ACode.seq ?_ | (refine ACode.s_reg tys_ok ?_; conv => whnf) | refine ACode.s_block ?_ | refine ACode.s_scope ?_ | (refine ACode.s_cond ?_; conv => whnf) | (refine ACode.s_exit ?_; conv => whnf) | (refine ACode.s_ret ?_; conv => whnf) | (refine ACode.s_skip ?_; conv => whnf) | (refine ACode.s_label ?_; conv => whnf))
     rw [ha]
     rfl
/-! ### Several words -/
def isWordsB (s : Bs) : Bool := decide (s.length ≤ 84) && decide ((splitB s).length ≤ 4) && (splitB s).all fitB
theorem strs_get (l : List Bs) (k : Nat) (h : k < l.length) : (strs l)[k]? = some (.str l[k]) := by simp [h]
set_option maxRecDepth 100000 in
theorem isWords_spec (s : Bs) : Ctr Tryz.prog 63 [.str s] (fun r => r = .bool (isWordsB s)) := by
 refine Ctr.of_body Tryz.func63 rfl tys_ok (by kernel_rfl) ?_
 conv => whnf
 repeat (first | refine ACode.seq ?_ | (refine ACode.s_reg tys_ok ?_; conv => whnf) | refine ACode.s_block ?_ | refine ACode.s_scope ?_ | (refine ACode.s_cond ?_; conv => whnf) | (refine ACode.s_exit ?_; conv => whnf) | (refine ACode.s_ret ?_; conv => whnf) | (refine ACode.s_skip ?_; conv => whnf) | (refine ACode.s_label ?_; conv => whnf))
 refine ⟨fun h1 => ?_, fun h1 => ?_⟩
 ·conv => whnf
  repeat (first | refine ACode.seq ?_ | (refine ACode.s_reg tys_ok ?_; conv => whnf) | refine ACode.s_block ?_ | refine ACode.s_scope ?_ | (refine ACode.s_cond ?_; conv => whnf) | (refine ACode.s_exit ?_; conv => whnf) | (refine ACode.s_ret ?_; conv => whnf) | (refine ACode.s_skip ?_; conv => whnf) | (refine ACode.s_label ?_; conv => whnf))
  exact congrArg AV.bool (by unfold isWordsB; rw [decide_eq_false (p := s.length ≤ 84) (by simp at h1; omega)]; rfl)
 ·have h1 : s.length ≤ 84 := by simp at h1; omega
  conv => whnf
  repeat (first | refine ACode.seq ?_ | (refine ACode.s_reg tys_ok ?_; conv => whnf) | refine ACode.s_block ?_ | refine ACode.s_scope ?_ | (refine ACode.s_cond ?_; conv => whnf) | (refine ACode.s_exit ?_; conv => whnf) | (refine ACode.s_ret ?_; conv => whnf) | (refine ACode.s_skip ?_; conv => whnf) | (refine ACode.s_label ?_; conv => whnf))
  refine ACall.of_spec (split_spec s (by omega)) rfl fun r hr => ?_
  subst hr
  conv => whnf
  repeat (first | refine ACode.seq ?_ | (refine ACode.s_reg tys_ok ?_; conv => whnf) | refine ACode.s_block ?_ | refine ACode.s_scope ?_ | (refine ACode.s_cond ?_; conv => whnf) | (refine ACode.s_exit ?_; conv => whnf) | (refine ACode.s_ret ?_; conv => whnf) | (refine ACode.s_skip ?_; conv => whnf) | (refine ACode.s_label ?_; conv => whnf))
  refine ⟨fun h2 => ?_, fun h2 => ?_⟩
  ·conv => whnf
   repeat (first | refine ACode.seq ?_ | (refine ACode.s_reg tys_ok ?_; conv => whnf) | refine ACode.s_block ?_ | refine ACode.s_scope ?_ | (refine ACode.s_cond ?_; conv => whnf) | (refine ACode.s_exit ?_; conv => whnf) | (refine ACode.s_ret ?_; conv => whnf) | (refine ACode.s_skip ?_; conv => whnf) | (refine ACode.s_label ?_; conv => whnf))
   exact congrArg AV.bool (by unfold isWordsB; rw [decide_eq_false (p := (splitB s).length ≤ 4) (by simp at h2; omega)]; simp)
  ·have h2 : (splitB s).length ≤ 4 := by simp at h2; omega
   have hb : isWordsB s = (splitB s).all fitB := by unfold isWordsB; rw [decide_eq_true h1, decide_eq_true h2]; rfl
   have hmm := splitB_mem s
   generalize splitB s = L at *
   conv => whnf
   repeat (first | refine ACode.seq ?_ | (refine ACode.s_reg tys_ok ?_; conv => whnf) | refine ACode.s_block ?_ | refine ACode.s_scope ?_ | (refine ACode.s_cond ?_; conv => whnf) | (refine ACode.s_exit ?_; conv => whnf) | (refine ACode.s_ret ?_; conv => whnf) | (refine ACode.s_skip ?_; conv => whnf) | (refine ACode.s_label ?_; conv => whnf))
   refine ACode.loopD (fun k : Nat => mk 24 [(0, .str s), (2, .lit false), (14, .sl 1 (strs L)), (15, .int .i64 L.length), (16, .int .i64 k)]) (fun _ => []) (fun k => k ≤ L.length ∧ (L.take k).all fitB = true) (fun k => L.length - k) (fun _ _ => ⟨rfl, trivial⟩) ⟨0, ?_⟩ (fun _ => rfl) fun k hk => ?_
   ·conv => whnf
    repeat (refine And.intro ?_ ?_; (focus (first | rfl | (simp; done))); conv => whnf)
    simp
   ·obtain ⟨hk, ha⟩ := hk
    repeat (first | refine ACode.seq ?_ | (refine ACode.s_reg tys_ok ?_; conv => whnf) | refine ACode.s_block ?_ | refine ACode.s_scope ?_ | (refine ACode.s_cond ?_; conv => whnf) | (refine ACode.s_exit ?_; conv => whnf) | (refine ACode.s_ret ?_; conv => whnf) | (refine ACode.s_skip ?_; conv => whnf) | (refine ACode.s_label ?_; conv => whnf))
    refine ⟨fun h => ?_, fun h => ?_⟩
    ·have h : k < L.length := by simpa using h
     have hw1 : Wr .i64 ((k : Int) + 1) = ((k + 1 : Nat) : Int) := by rw [Wr64 _ (by omega) (by omega)]; rfl
     have hlk := hmm _ (List.getElem_mem h)
     conv => whnf
     repeat (first | refine ACode.seq ?_ | (refine ACode.s_reg tys_ok ?_; conv => whnf) | refine ACode.s_block ?_ | refine ACode.s_scope ?_ | (refine ACode.s_cond ?_; conv => whnf) | (refine ACode.s_exit ?_; conv => whnf) | (refine ACode.s_ret ?_; conv => whnf) | (refine ACode.s_skip ?_; conv => whnf) | (refine ACode.s_label ?_; conv => whnf))
     refine ⟨by omega, _, strs_get L k h, ?_⟩
     conv => whnf
     repeat (first | refine ACode.seq ?_ | (refine ACode.s_reg tys_ok ?_; conv => whnf) | refine ACode.s_block ?_ | refine ACode.s_scope ?_ | (refine ACode.s_cond ?_; conv => whnf) | (refine ACode.s_exit ?_; conv => whnf) | (refine ACode.s_ret ?_; conv => whnf) | (refine ACode.s_skip ?_; conv => whnf) | (refine ACode.s_label ?_; conv => whnf))
     repeat' (first | (refine And.intro (fun _ => ?_) (fun _ => ?_) <;> conv => whnf) | (refine ACall.of_spec (isFit_spec L[k] (by omega)) rfl fun r hr => ?_; subst hr; conv => whnf) | refine ACode.seq ?_ | (refine ACode.s_reg tys_ok ?_; conv => whnf) | refine ACode.s_block ?_ | refine ACode.s_scope ?_ | (refine ACode.s_cond ?_; conv => whnf) | (refine ACode.s_exit ?_; conv => whnf) | (refine ACode.s_ret ?_; conv => whnf) | (refine ACode.s_skip ?_; conv => whnf) | (refine ACode.s_label ?_; conv => whnf))
     ·rename_i h5
      exact congrArg AV.bool (by rw [hb]; exact (List.all_eq_false.2 ⟨L[k], List.getElem_mem h, by simpa using h5⟩).symm)
     ·rename_i h5
      refine ⟨k + 1, ?_⟩
      conv => whnf
      repeat (refine And.intro ?_ ?_; (focus (first | rfl | (simp; done) | (first | exact hw1; done))); conv => whnf)
      exact ⟨⟨by omega, by rw [List.take_succ_eq_append_getElem h, List.all_append, ha]; simpa using h5⟩, by omega⟩
    ·have h : k = L.length := by simp at h; omega
     rw [h, List.take_length] at ha
     conv => whnf
     repeat (first | refine ACode.seq ?_ | (refine ACode.s_reg tys_ok ?_; conv => whnf) | refine ACode.s_block ?_ | refine ACode.s_scope ?_ | (refine ACode.s_cond ?_; conv => whnf) | (refine ACode.s_exit ?_; conv => whnf) | (refine ACode.s_ret ?_; conv => whnf) | (refine ACode.s_skip ?_; conv => whnf) | (refine ACode.s_label ?_; conv => whnf))
     exact congrArg AV.bool (by rw [hb, ha])
/-! ### Printed parts -/
def printP (p : Pt) (a : Ad) : Bs := if p.k = 1 then p.t else if p.k = 2 then Lib.itoa a.nu else if p.k = 3 then a.co else if p.k = 4 then a.st else if p.k = 5 then a.to else a.pe
set_option maxRecDepth 100000 in
theorem printed_spec (p : Pt) (a : Ad) (h0 : p.k = 2 → 0 ≤ a.nu ∧ a.nu ≤ 9999) : Ctr Tryz.prog 36 [p.v, a.v] (fun r => r = .str (printP p a)) := by
 refine Ctr.of_body Tryz.func36 rfl tys_ok (by kernel_rfl) ?_
 conv => whnf
 repeat (first | refine ACode.seq ?_ | (refine ACode.s_reg tys_ok ?_; conv => whnf) | refine ACode.s_block ?_ | refine ACode.s_scope ?_ | (refine ACode.s_cond ?_; conv => whnf) | (refine ACode.s_exit ?_; conv => whnf) | (refine ACode.s_ret ?_; conv => whnf) | (refine ACode.s_skip ?_; conv => whnf) | (refine ACode.s_label ?_; conv => whnf))
 repeat' (first | (refine And.intro (fun _ => ?_) (fun _ => ?_) <;> conv => whnf) | refine ACode.seq ?_ | (refine ACode.s_reg tys_ok ?_; conv => whnf) | refine ACode.s_block ?_ | refine ACode.s_scope ?_ | (refine ACode.s_cond ?_; conv => whnf) | (refine ACode.s_exit ?_; conv => whnf) | (refine ACode.s_ret ?_; conv => whnf) | (refine ACode.s_skip ?_; conv => whnf) | (refine ACode.s_label ?_; conv => whnf))
 all_goals try (refine congrArg AV.str ?_; unfold printP; simp_all; done)
 rename_i h1 h2
 have h2 : p.k = 2 := by simpa using h2
 have h3 := h0 h2
 refine ACall.of_spec (itoa_spec a.nu (by omega) (by omega) (by have := itoa_len h3.1 (by omega); omega)) rfl fun r hr => ?_
 subst hr
 conv => whnf
 repeat (first | refine ACode.seq ?_ | (refine ACode.s_reg tys_ok ?_; conv => whnf) | refine ACode.s_block ?_ | refine ACode.s_scope ?_ | (refine ACode.s_cond ?_; conv => whnf) | (refine ACode.s_exit ?_; conv => whnf) | (refine ACode.s_ret ?_; conv => whnf) | (refine ACode.s_skip ?_; conv => whnf) | (refine ACode.s_label ?_; conv => whnf))
 refine congrArg AV.str ?_
 unfold printP
 rw [h2]
 rfl
/-! ### Addresses that fit -/
def fitP (a : Ad) (p : Pt) : Bool :=
 if p.k = 2 then decide (1 ≤ a.nu) && decide (a.nu ≤ 9999)
 else if p.k = 3 then matchB a.co p.t && decide (a.co = upB a.co)
 else if p.k = 4 then isWordsB a.st
 else if p.k = 5 then isWordsB a.to
 else if p.k = 6 then isWordsB a.pe
 else true
def clearP (a : Ad) (p : Pt) : Ad :=
 if p.k = 2 then ⟨a.pe, a.st, 0, a.co, a.to⟩ else if p.k = 3 then ⟨a.pe, a.st, a.nu, [], a.to⟩ else if p.k = 4 then ⟨a.pe, [], a.nu, a.co, a.to⟩ else if p.k = 5 then ⟨a.pe, a.st, a.nu, a.co, []⟩ else if p.k = 6 then ⟨[], a.st, a.nu, a.co, a.to⟩ else a
abbrev adA (a : Ad) : List AV := [.str a.pe, .str a.st, .int .i64 a.nu, .str a.co, .str a.to]
def fitsF (f : Fm) (a : Ad) : Bool := f.lines.flatten.all (fitP a) && decide (f.lines.flatten.foldl clearP a = ad0)
theorem match_ascii : ∀ (w q : Bs), q.all patC = true → matchB w q = true → ∀ c ∈ w, c.toNat < 128
 | [], _, _, _, c, h => by simp at h
 | _ :: _, [], _, hm, _, _ => by simp [matchB] at hm
 | x :: w, y :: q, hq, hm, c, h => by
  simp only [List.all_cons, Bool.and_eq_true] at hq
  simp only [matchB, Bool.and_eq_true] at hm
  rcases List.mem_cons.1 h with rfl | h
  ·obtain ⟨⟨m1, m2⟩, _⟩ := hm
   obtain ⟨q1, _⟩ := hq
   simp only [patC, Bool.or_eq_true, decide_eq_true_eq] at q1
   simp only [digB, letterB, smallB, capB, Bool.or_eq_true, Bool.and_eq_true, decide_eq_true_eq, Bool.not_eq_true', decide_eq_false_iff_not] at m1 m2
   rcases q1 with q1 | q1
   ·rcases m1 with m1 | m1
    ·exact absurd q1 m1
    ·omega
   ·rcases m2 with m2 | m2
    ·exact absurd q1 m2
    ·omega
  ·exact match_ascii w q hq.2 hm.2 c h
theorem pat_text {p : Pt} (h : partB p = true) (hk : p.k = 3) : p.t.all patC = true := by
 unfold partB at h
 rw [hk] at h
 simp only [patB, show (3 : Int) ≠ 1 by decide, if_false, if_true, Bool.and_eq_true] at h
 exact h.2
set_option maxRecDepth 100000 in
theorem fits_spec (f : Fm) (a : Ad) (hl : f.lines.length ≤ 1000) (hl2 : ∀ l ∈ f.lines, l.length ≤ 1000) (ht : ∀ l ∈ f.lines, ∀ p ∈ l, partB p = true) (hs : a.co.length ≤ 9223372036854775807) : Ctr Tryz.prog 35 [f.v, a.v] (fun r => r = .bool (fitsF f a)) := by
 refine Ctr.of_body Tryz.func35 rfl tys_ok (by kernel_rfl) ?_
 conv => whnf
 repeat (first | refine ACode.seq ?_ | (refine ACode.s_reg tys_ok ?_; conv => whnf) | refine ACode.s_block ?_ | refine ACode.s_scope ?_ | (refine ACode.s_cond ?_; conv => whnf) | (refine ACode.s_exit ?_; conv => whnf) | (refine ACode.s_ret ?_; conv => whnf) | (refine ACode.s_skip ?_; conv => whnf) | (refine ACode.s_label ?_; conv => whnf))
 refine ACode.loopD (fun i : Nat => mk 79 [(3, .ptr 1 0), (4, .lit false), (5, .ptr 2 0), (13, .sl 1 (f.lines.map ptsA)), (14, .int .i64 f.lines.length), (15, .int .i64 i)]) (fun i => [.cells [.str f.name, .sl 1 (f.lines.map ptsA)], .cells (adA a), .cells (adA ((f.lines.take i).flatten.foldl clearP a))]) (fun i => i ≤ f.lines.length ∧ (f.lines.take i).flatten.all (fitP a) = true) (fun i => f.lines.length - i) (fun _ _ => ⟨rfl, rfl, rfl, rfl, trivial⟩) ⟨0, ?_⟩ (fun _ => rfl) fun i hi => ?_
 ·conv => whnf
  repeat (refine And.intro ?_ ?_; (focus (first | rfl | (simp; done))); conv => whnf)
  rfl
 ·obtain ⟨hi, ha⟩ := hi
  repeat (first | refine ACode.seq ?_ | (refine ACode.s_reg tys_ok ?_; conv => whnf) | refine ACode.s_block ?_ | refine ACode.s_scope ?_ | (refine ACode.s_cond ?_; conv => whnf) | (refine ACode.s_exit ?_; conv => whnf) | (refine ACode.s_ret ?_; conv => whnf) | (refine ACode.s_skip ?_; conv => whnf) | (refine ACode.s_label ?_; conv => whnf))
  refine ⟨fun h => ?_, fun h => ?_⟩
  ·have h : i < f.lines.length := by simp at h; omega
   have hw1 : Wr .i64 ((i : Int) + 1) = ((i + 1 : Nat) : Int) := by rw [Wr64 _ (by omega) (by omega)]; rfl
   have htk : f.lines.take (i + 1) = f.lines.take i ++ [f.lines[i]] := List.take_succ_eq_append_getElem h
   conv => whnf
   repeat (first | refine ACode.seq ?_ | (refine ACode.s_reg tys_ok ?_; conv => whnf) | refine ACode.s_block ?_ | refine ACode.s_scope ?_ | (refine ACode.s_cond ?_; conv => whnf) | (refine ACode.s_exit ?_; conv => whnf) | (refine ACode.s_ret ?_; conv => whnf) | (refine ACode.s_skip ?_; conv => whnf) | (refine ACode.s_label ?_; conv => whnf))
   refine ⟨by omega, _, lines_get f i h, ?_⟩
   conv => whnf
   repeat (first | refine ACode.seq ?_ | (refine ACode.s_reg tys_ok ?_; conv => whnf) | refine ACode.s_block ?_ | refine ACode.s_scope ?_ | (refine ACode.s_cond ?_; conv => whnf) | (refine ACode.s_exit ?_; conv => whnf) | (refine ACode.s_ret ?_; conv => whnf) | (refine ACode.s_skip ?_; conv => whnf) | (refine ACode.s_label ?_; conv => whnf))
   have hfalse : ∀ p, p ∈ f.lines[i] → fitP a p = false → fitsF f a = false := fun p hp hf => by
    unfold fitsF
    rw [show f.lines.flatten.all (fitP a) = false from List.all_eq_false.2 ⟨p, List.mem_flatten.2 ⟨_, List.getElem_mem h, hp⟩, by simp [hf]⟩]
    rfl
   have hBL : (f.lines.take (i + 1)).flatten = (f.lines.take i).flatten ++ f.lines[i] := by rw [htk, List.flatten_append, List.flatten_cons, List.flatten_nil, List.append_nil]
   have hlL := hl2 _ (List.getElem_mem h)
   have htL := ht _ (List.getElem_mem h)
   generalize f.lines[i] = L at *
   generalize (f.lines.take i).flatten = B at *
   refine ACode.loopD (fun k : Nat => mk 79 [(3, .ptr 1 0), (4, .lit false), (5, .ptr 2 0), (13, .sl 1 (f.lines.map ptsA)), (14, .int .i64 f.lines.length), (15, .int .i64 i), (19, .sl 2 (L.map Pt.v)), (20, .int .i64 L.length), (21, .int .i64 k)]) (fun k => [.cells [.str f.name, .sl 1 (f.lines.map ptsA)], .cells (adA a), .cells (adA ((B ++ L.take k).foldl clearP a))]) (fun k => k ≤ L.length ∧ (B ++ L.take k).all (fitP a) = true) (fun k => L.length - k) (fun _ _ => ⟨rfl, rfl, rfl, rfl, trivial⟩) ⟨0, ?_⟩ (fun _ => rfl) fun k hk => ?_
   ·conv => whnf
    repeat (refine And.intro ?_ ?_; (focus (first | rfl | (simp; done))); conv => whnf)
    rw [List.take_zero, List.append_nil]
    exact ha
   ·obtain ⟨hk, hc⟩ := hk
    repeat (first | refine ACode.seq ?_ | (refine ACode.s_reg tys_ok ?_; conv => whnf) | refine ACode.s_block ?_ | refine ACode.s_scope ?_ | (refine ACode.s_cond ?_; conv => whnf) | (refine ACode.s_exit ?_; conv => whnf) | (refine ACode.s_ret ?_; conv => whnf) | (refine ACode.s_skip ?_; conv => whnf) | (refine ACode.s_label ?_; conv => whnf))
    refine ⟨fun h3 => ?_, fun h3 => ?_⟩
    ·have h3 : k < L.length := by simp at h3; omega
     have hw2 : Wr .i64 ((k : Int) + 1) = ((k + 1 : Nat) : Int) := by rw [Wr64 _ (by omega) (by omega)]; rfl
     have htk2 : B ++ L.take (k + 1) = (B ++ L.take k) ++ [L[k]] := by rw [List.take_succ_eq_append_getElem h3, List.append_assoc]
     have hal : (B ++ L.take (k + 1)).all (fitP a) = fitP a L[k] := by rw [htk2, List.all_append, hc]; simp
     have hcl : (B ++ L.take (k + 1)).foldl clearP a = clearP ((B ++ L.take k).foldl clearP a) L[k] := by rw [htk2, List.foldl_append]; rfl
     have hff := hfalse _ (List.getElem_mem h3)
     have hpk := htL _ (List.getElem_mem h3)
     conv => whnf
     repeat (first | refine ACode.seq ?_ | (refine ACode.s_reg tys_ok ?_; conv => whnf) | refine ACode.s_block ?_ | refine ACode.s_scope ?_ | (refine ACode.s_cond ?_; conv => whnf) | (refine ACode.s_exit ?_; conv => whnf) | (refine ACode.s_ret ?_; conv => whnf) | (refine ACode.s_skip ?_; conv => whnf) | (refine ACode.s_label ?_; conv => whnf))
     refine ⟨by omega, _, pts_get L k h3, ?_⟩
     generalize (B ++ L.take k).foldl clearP a = c at *
     generalize L[k] = p at *
     have hkk := part_kind hpk
     conv => whnf
     repeat (first | refine ACode.seq ?_ | (refine ACode.s_reg tys_ok ?_; conv => whnf) | refine ACode.s_block ?_ | refine ACode.s_scope ?_ | (refine ACode.s_cond ?_; conv => whnf) | (refine ACode.s_exit ?_; conv => whnf) | (refine ACode.s_ret ?_; conv => whnf) | (refine ACode.s_skip ?_; conv => whnf) | (refine ACode.s_label ?_; conv => whnf))
     generalize hK : p.k = K at *
     rcases hkk with rfl | rfl | rfl | rfl | rfl | rfl
     ·have hy : fitP a p = true := by unfold fitP; rw [hK]; rfl
      repeat (first | (refine ⟨fun _ => ?_, fun h => absurd h (by decide +kernel)⟩; conv => whnf) | (refine ⟨fun h => absurd h (by decide +kernel), fun _ => ?_⟩; conv => whnf) | (refine ⟨by decide, _, rfl, ?_⟩; conv => whnf) | refine ACode.seq ?_ | (refine ACode.s_reg tys_ok ?_; conv => whnf) | refine ACode.s_block ?_ | refine ACode.s_scope ?_ | (refine ACode.s_cond ?_; conv => whnf) | (refine ACode.s_exit ?_; conv => whnf) | (refine ACode.s_ret ?_; conv => whnf) | (refine ACode.s_skip ?_; conv => whnf) | (refine ACode.s_label ?_; conv => whnf))
      refine ⟨k + 1, ?_⟩
      conv => whnf
      repeat (refine And.intro ?_ ?_; (focus (first | rfl | (simp; done) | (first | exact hw2; done))); conv => whnf)
      rw [hcl, clearP, hK]
      exact ⟨rfl, ⟨by omega, by rw [hal]; exact hy⟩, by omega⟩
     ·have hfit : fitP a p = (decide (1 ≤ a.nu) && decide (a.nu ≤ 9999)) := by unfold fitP; rw [hK]; rfl
      repeat (first | (refine ⟨fun _ => ?_, fun h => absurd h (by decide +kernel)⟩; conv => whnf) | (refine ⟨fun h => absurd h (by decide +kernel), fun _ => ?_⟩; conv => whnf) | (refine ⟨by decide, _, rfl, ?_⟩; conv => whnf) | refine ACode.seq ?_ | (refine ACode.s_reg tys_ok ?_; conv => whnf) | refine ACode.s_block ?_ | refine ACode.s_scope ?_ | (refine ACode.s_cond ?_; conv => whnf) | (refine ACode.s_exit ?_; conv => whnf) | (refine ACode.s_ret ?_; conv => whnf) | (refine ACode.s_skip ?_; conv => whnf) | (refine ACode.s_label ?_; conv => whnf))
      repeat' (first | (refine And.intro (fun _ => ?_) (fun _ => ?_) <;> conv => whnf) | refine ACode.seq ?_ | (refine ACode.s_reg tys_ok ?_; conv => whnf) | refine ACode.s_block ?_ | refine ACode.s_scope ?_ | (refine ACode.s_cond ?_; conv => whnf) | (refine ACode.s_exit ?_; conv => whnf) | (refine ACode.s_ret ?_; conv => whnf) | (refine ACode.s_skip ?_; conv => whnf) | (refine ACode.s_label ?_; conv => whnf))
      ·rename_i h6 h7
       exact congrArg AV.bool (hff (by rw [hfit, h6]; simpa using h7)).symm
      rotate_left
      ·rename_i h6
       exact congrArg AV.bool (hff (by rw [hfit, h6]; rfl)).symm
      rename_i h6 h7
      have hy : fitP a p = true := by rw [hfit, h6]; simpa using h7
      refine ⟨k + 1, ?_⟩
      conv => whnf
      repeat (refine And.intro ?_ ?_; (focus (first | rfl | (simp; done) | (first | exact hw2; done))); conv => whnf)
      rw [hcl, clearP, hK]
      exact ⟨rfl, ⟨by omega, by rw [hal]; exact hy⟩, by omega⟩
     ·have hfit : fitP a p = (matchB a.co p.t && decide (a.co = upB a.co)) := by unfold fitP; rw [hK]; rfl
      repeat (first | (refine ⟨fun _ => ?_, fun h => absurd h (by decide +kernel)⟩; conv => whnf) | (refine ⟨fun h => absurd h (by decide +kernel), fun _ => ?_⟩; conv => whnf) | (refine ⟨by decide, _, rfl, ?_⟩; conv => whnf) | refine ACode.seq ?_ | (refine ACode.s_reg tys_ok ?_; conv => whnf) | refine ACode.s_block ?_ | refine ACode.s_scope ?_ | (refine ACode.s_cond ?_; conv => whnf) | (refine ACode.s_exit ?_; conv => whnf) | (refine ACode.s_ret ?_; conv => whnf) | (refine ACode.s_skip ?_; conv => whnf) | (refine ACode.s_label ?_; conv => whnf))
      refine ACode.draw [15] tys_ok (by kernel_rfl) (by kernel_rfl) ?_
      conv => whnf
      refine ⟨_, ⟨matches_spec a.co p.t (by omega), rfl⟩, ?_⟩
      conv => whnf
      refine ⟨fun hm => ?_, fun hm => ?_⟩
      ·have hasc : ∀ c ∈ a.co, c.toNat < 128 := match_ascii a.co p.t (pat_text hpk hK) hm
       have hcl8 : a.co.length ≤ 8 := by
        have hml : a.co.length = p.t.length := Classical.byContradiction fun e => by rw [match_len e] at hm; cases hm
        unfold partB at hpk
        rw [if_neg (by omega), if_pos hK] at hpk
        unfold patB at hpk
        simp only [Bool.and_eq_true, decide_eq_true_eq] at hpk
        omega
       conv => whnf
       refine ⟨_, ⟨toUpper_spec a.co (by omega) hasc, rfl⟩, ?_⟩
       conv => whnf
       refine ⟨fun hu => ?_, fun hu => ?_⟩
       ·have hy : fitP a p = true := by rw [hfit, hm]; simpa using hu
        conv => whnf
        repeat (first | refine ACode.seq ?_ | (refine ACode.s_reg tys_ok ?_; conv => whnf) | refine ACode.s_block ?_ | refine ACode.s_scope ?_ | (refine ACode.s_cond ?_; conv => whnf) | (refine ACode.s_exit ?_; conv => whnf) | (refine ACode.s_ret ?_; conv => whnf) | (refine ACode.s_skip ?_; conv => whnf) | (refine ACode.s_label ?_; conv => whnf))
        refine ⟨k + 1, ?_⟩
        conv => whnf
        repeat (refine And.intro ?_ ?_; (focus (first | rfl | (simp; done) | (first | exact hw2; done))); conv => whnf)
        rw [hcl, clearP, hK]
        exact ⟨rfl, ⟨by omega, by rw [hal]; exact hy⟩, by omega⟩
       ·conv => whnf
        repeat (first | refine ACode.seq ?_ | (refine ACode.s_reg tys_ok ?_; conv => whnf) | refine ACode.s_block ?_ | refine ACode.s_scope ?_ | (refine ACode.s_cond ?_; conv => whnf) | (refine ACode.s_exit ?_; conv => whnf) | (refine ACode.s_ret ?_; conv => whnf) | (refine ACode.s_skip ?_; conv => whnf) | (refine ACode.s_label ?_; conv => whnf))
        exact congrArg AV.bool (hff (by rw [hfit, hm]; simpa using hu)).symm
      ·conv => whnf
       repeat (first | refine ACode.seq ?_ | (refine ACode.s_reg tys_ok ?_; conv => whnf) | refine ACode.s_block ?_ | refine ACode.s_scope ?_ | (refine ACode.s_cond ?_; conv => whnf) | (refine ACode.s_exit ?_; conv => whnf) | (refine ACode.s_ret ?_; conv => whnf) | (refine ACode.s_skip ?_; conv => whnf) | (refine ACode.s_label ?_; conv => whnf))
       exact congrArg AV.bool (hff (by rw [hfit, hm]; rfl)).symm
     ·have hfit : fitP a p = isWordsB a.st := by unfold fitP; rw [hK]; rfl
      repeat (first | (refine ⟨fun _ => ?_, fun h => absurd h (by decide +kernel)⟩; conv => whnf) | (refine ⟨fun h => absurd h (by decide +kernel), fun _ => ?_⟩; conv => whnf) | (refine ⟨by decide, _, rfl, ?_⟩; conv => whnf) | refine ACode.seq ?_ | (refine ACode.s_reg tys_ok ?_; conv => whnf) | refine ACode.s_block ?_ | refine ACode.s_scope ?_ | (refine ACode.s_cond ?_; conv => whnf) | (refine ACode.s_exit ?_; conv => whnf) | (refine ACode.s_ret ?_; conv => whnf) | (refine ACode.s_skip ?_; conv => whnf) | (refine ACode.s_label ?_; conv => whnf))
      repeat' (first | (refine And.intro (fun _ => ?_) (fun _ => ?_) <;> conv => whnf) | (refine ACall.of_spec (isWords_spec a.st) rfl fun r hr => ?_; subst hr; conv => whnf) | refine ACode.seq ?_ | (refine ACode.s_reg tys_ok ?_; conv => whnf) | refine ACode.s_block ?_ | refine ACode.s_scope ?_ | (refine ACode.s_cond ?_; conv => whnf) | (refine ACode.s_exit ?_; conv => whnf) | (refine ACode.s_ret ?_; conv => whnf) | (refine ACode.s_skip ?_; conv => whnf) | (refine ACode.s_label ?_; conv => whnf))
      ·rename_i h6
       exact congrArg AV.bool (hff (by rw [hfit]; simpa using h6)).symm
      rename_i h6
      have hy : fitP a p = true := by rw [hfit]; simpa using h6
      refine ⟨k + 1, ?_⟩
      conv => whnf
      repeat (refine And.intro ?_ ?_; (focus (first | rfl | (simp; done) | (first | exact hw2; done))); conv => whnf)
      rw [hcl, clearP, hK]
      exact ⟨rfl, ⟨by omega, by rw [hal]; exact hy⟩, by omega⟩
     ·have hfit : fitP a p = isWordsB a.to := by unfold fitP; rw [hK]; rfl
      repeat (first | (refine ⟨fun _ => ?_, fun h => absurd h (by decide +kernel)⟩; conv => whnf) | (refine ⟨fun h => absurd h (by decide +kernel), fun _ => ?_⟩; conv => whnf) | (refine ⟨by decide, _, rfl, ?_⟩; conv => whnf) | refine ACode.seq ?_ | (refine ACode.s_reg tys_ok ?_; conv => whnf) | refine ACode.s_block ?_ | refine ACode.s_scope ?_ | (refine ACode.s_cond ?_; conv => whnf) | (refine ACode.s_exit ?_; conv => whnf) | (refine ACode.s_ret ?_; conv => whnf) | (refine ACode.s_skip ?_; conv => whnf) | (refine ACode.s_label ?_; conv => whnf))
      repeat' (first | (refine And.intro (fun _ => ?_) (fun _ => ?_) <;> conv => whnf) | (refine ACall.of_spec (isWords_spec a.to) rfl fun r hr => ?_; subst hr; conv => whnf) | refine ACode.seq ?_ | (refine ACode.s_reg tys_ok ?_; conv => whnf) | refine ACode.s_block ?_ | refine ACode.s_scope ?_ | (refine ACode.s_cond ?_; conv => whnf) | (refine ACode.s_exit ?_; conv => whnf) | (refine ACode.s_ret ?_; conv => whnf) | (refine ACode.s_skip ?_; conv => whnf) | (refine ACode.s_label ?_; conv => whnf))
      ·rename_i h6
       exact congrArg AV.bool (hff (by rw [hfit]; simpa using h6)).symm
      rename_i h6
      have hy : fitP a p = true := by rw [hfit]; simpa using h6
      refine ⟨k + 1, ?_⟩
      conv => whnf
      repeat (refine And.intro ?_ ?_; (focus (first | rfl | (simp; done) | (first | exact hw2; done))); conv => whnf)
      rw [hcl, clearP, hK]
      exact ⟨rfl, ⟨by omega, by rw [hal]; exact hy⟩, by omega⟩
     ·have hfit : fitP a p = isWordsB a.pe := by unfold fitP; rw [hK]; rfl
      repeat (first | (refine ⟨fun _ => ?_, fun h => absurd h (by decide +kernel)⟩; conv => whnf) | (refine ⟨fun h => absurd h (by decide +kernel), fun _ => ?_⟩; conv => whnf) | (refine ⟨by decide, _, rfl, ?_⟩; conv => whnf) | refine ACode.seq ?_ | (refine ACode.s_reg tys_ok ?_; conv => whnf) | refine ACode.s_block ?_ | refine ACode.s_scope ?_ | (refine ACode.s_cond ?_; conv => whnf) | (refine ACode.s_exit ?_; conv => whnf) | (refine ACode.s_ret ?_; conv => whnf) | (refine ACode.s_skip ?_; conv => whnf) | (refine ACode.s_label ?_; conv => whnf))
      repeat' (first | (refine And.intro (fun _ => ?_) (fun _ => ?_) <;> conv => whnf) | (refine ACall.of_spec (isWords_spec a.pe) rfl fun r hr => ?_; subst hr; conv => whnf) | refine ACode.seq ?_ | (refine ACode.s_reg tys_ok ?_; conv => whnf) | refine ACode.s_block ?_ | refine ACode.s_scope ?_ | (refine ACode.s_cond ?_; conv => whnf) | (refine ACode.s_exit ?_; conv => whnf) | (refine ACode.s_ret ?_; conv => whnf) | (refine ACode.s_skip ?_; conv => whnf) | (refine ACode.s_label ?_; conv => whnf))
      ·rename_i h6
       exact congrArg AV.bool (hff (by rw [hfit]; simpa using h6)).symm
      rename_i h6
      have hy : fitP a p = true := by rw [hfit]; simpa using h6
      refine ⟨k + 1, ?_⟩
      conv => whnf
      repeat (refine And.intro ?_ ?_; (focus (first | rfl | (simp; done) | (first | exact hw2; done))); conv => whnf)
      rw [hcl, clearP, hK]
      exact ⟨rfl, ⟨by omega, by rw [hal]; exact hy⟩, by omega⟩
    ·have h3 : k = L.length := by simp at h3; omega
     rw [h3, List.take_length, ← hBL] at hc ⊢
     conv => whnf
     repeat (first | refine ACode.seq ?_ | (refine ACode.s_reg tys_ok ?_; conv => whnf) | refine ACode.s_block ?_ | refine ACode.s_scope ?_ | (refine ACode.s_cond ?_; conv => whnf) | (refine ACode.s_exit ?_; conv => whnf) | (refine ACode.s_ret ?_; conv => whnf) | (refine ACode.s_skip ?_; conv => whnf) | (refine ACode.s_label ?_; conv => whnf))
     refine ⟨i + 1, ?_⟩
     conv => whnf
     repeat (refine And.intro ?_ ?_; (focus (first | rfl | (simp; done) | (first | exact hw1; done))); conv => whnf)
     exact ⟨⟨by omega, hc⟩, by omega⟩
  ·have h : i = f.lines.length := by simp at h; omega
   rw [h, List.take_length] at ha ⊢
   conv => whnf
   repeat (first | refine ACode.seq ?_ | (refine ACode.s_reg tys_ok ?_; conv => whnf) | refine ACode.s_block ?_ | refine ACode.s_scope ?_ | (refine ACode.s_cond ?_; conv => whnf) | (refine ACode.s_exit ?_; conv => whnf) | (refine ACode.s_ret ?_; conv => whnf) | (refine ACode.s_skip ?_; conv => whnf) | (refine ACode.s_label ?_; conv => whnf))
   refine congrArg AV.bool ?_
   unfold fitsF
   rw [ha, Bool.true_and]
   generalize f.lines.flatten.foldl clearP a = c
   obtain ⟨c1, c2, c3, c4, c5⟩ := c
   rw [Bool.eq_iff_iff]
   simp [ad0]
/-! ### All words -/
def allFitB (ls : List (List Bs)) : Bool := ls.all fun l => l.all fitB
theorem lls_get (L : List (List Bs)) (k : Nat) (h : k < L.length) : (L.map strsA)[k]? = some (strsA L[k]) := by simp [h]
set_option maxRecDepth 100000 in
theorem allFit_spec (L : List (List Bs)) (h0 : L.length ≤ 1000) (h1 : ∀ l ∈ L, l.length ≤ 1000) (h2 : ∀ l ∈ L, ∀ w ∈ l, w.length ≤ 1000) : Ctr Tryz.prog 30 [.sl 1 (L.map strsA)] (fun r => r = .bool (allFitB L)) := by
 refine Ctr.of_body Tryz.func30 rfl tys_ok (by kernel_rfl) ?_
 conv => whnf
 repeat (first | refine ACode.seq ?_ | (refine ACode.s_reg tys_ok ?_; conv => whnf) | refine ACode.s_block ?_ | refine ACode.s_scope ?_ | (refine ACode.s_cond ?_; conv => whnf) | (refine ACode.s_exit ?_; conv => whnf) | (refine ACode.s_ret ?_; conv => whnf) | (refine ACode.s_skip ?_; conv => whnf) | (refine ACode.s_label ?_; conv => whnf))
 have hll : (L.map strsA).length = L.length := by simp
 refine ACode.loopD (fun i : Nat => mk 24 [(2, .lit false), (7, .sl 1 (L.map strsA)), (8, .int .i64 L.length), (9, .int .i64 i)]) (fun _ => []) (fun i => i ≤ L.length ∧ allFitB (L.take i) = true) (fun i => L.length - i) (fun _ _ => ⟨rfl, trivial⟩) ⟨0, ?_⟩ (fun _ => rfl) fun i hi => ?_
 ·conv => whnf
  repeat (refine And.intro ?_ ?_; (focus (first | rfl | (simp; done))); conv => whnf)
  rfl
 ·obtain ⟨hi, ha⟩ := hi
  repeat (first | refine ACode.seq ?_ | (refine ACode.s_reg tys_ok ?_; conv => whnf) | refine ACode.s_block ?_ | refine ACode.s_scope ?_ | (refine ACode.s_cond ?_; conv => whnf) | (refine ACode.s_exit ?_; conv => whnf) | (refine ACode.s_ret ?_; conv => whnf) | (refine ACode.s_skip ?_; conv => whnf) | (refine ACode.s_label ?_; conv => whnf))
  refine ⟨fun h => ?_, fun h => ?_⟩
  ·have h : i < L.length := by simp at h; omega
   have hw1 : Wr .i64 ((i : Int) + 1) = ((i + 1 : Nat) : Int) := by rw [Wr64 _ (by omega) (by omega)]; rfl
   have htk : L.take (i + 1) = L.take i ++ [L[i]] := List.take_succ_eq_append_getElem h
   conv => whnf
   repeat (first | refine ACode.seq ?_ | (refine ACode.s_reg tys_ok ?_; conv => whnf) | refine ACode.s_block ?_ | refine ACode.s_scope ?_ | (refine ACode.s_cond ?_; conv => whnf) | (refine ACode.s_exit ?_; conv => whnf) | (refine ACode.s_ret ?_; conv => whnf) | (refine ACode.s_skip ?_; conv => whnf) | (refine ACode.s_label ?_; conv => whnf))
   refine ⟨by omega, _, lls_get L i h, ?_⟩
   conv => whnf
   repeat (first | refine ACode.seq ?_ | (refine ACode.s_reg tys_ok ?_; conv => whnf) | refine ACode.s_block ?_ | refine ACode.s_scope ?_ | (refine ACode.s_cond ?_; conv => whnf) | (refine ACode.s_exit ?_; conv => whnf) | (refine ACode.s_ret ?_; conv => whnf) | (refine ACode.s_skip ?_; conv => whnf) | (refine ACode.s_label ?_; conv => whnf))
   have hf : (L[i]).all fitB = false → allFitB L = false := fun hx => List.all_eq_false.2 ⟨L[i], List.getElem_mem h, by simp [hx]⟩
   have h1 := h1 _ (List.getElem_mem h)
   have h2 := h2 _ (List.getElem_mem h)
   have hal : allFitB (L.take (i + 1)) = (L[i]).all fitB := by
    unfold allFitB at ha ⊢
    rw [htk, List.all_append, ha]; simp
   generalize L[i] = l at *
   refine ACode.loopD (fun k : Nat => mk 24 [(2, .lit false), (7, .sl 1 (L.map strsA)), (8, .int .i64 L.length), (9, .int .i64 i), (13, .sl 1 (strs l)), (14, .int .i64 l.length), (15, .int .i64 k)]) (fun _ => []) (fun k => k ≤ l.length ∧ (l.take k).all fitB = true) (fun k => l.length - k) (fun _ _ => ⟨rfl, trivial⟩) ⟨0, ?_⟩ (fun _ => rfl) fun k hk => ?_
   ·conv => whnf
    repeat (refine And.intro ?_ ?_; (focus (first | rfl | (simp; done))); conv => whnf)
    rfl
   ·obtain ⟨hk, hc⟩ := hk
    repeat (first | refine ACode.seq ?_ | (refine ACode.s_reg tys_ok ?_; conv => whnf) | refine ACode.s_block ?_ | refine ACode.s_scope ?_ | (refine ACode.s_cond ?_; conv => whnf) | (refine ACode.s_exit ?_; conv => whnf) | (refine ACode.s_ret ?_; conv => whnf) | (refine ACode.s_skip ?_; conv => whnf) | (refine ACode.s_label ?_; conv => whnf))
    refine ⟨fun h3 => ?_, fun h3 => ?_⟩
    ·have h3 : k < l.length := by simp at h3; omega
     have hw2 : Wr .i64 ((k : Int) + 1) = ((k + 1 : Nat) : Int) := by rw [Wr64 _ (by omega) (by omega)]; rfl
     have hlk := h2 _ (List.getElem_mem h3)
     conv => whnf
     repeat (first | refine ACode.seq ?_ | (refine ACode.s_reg tys_ok ?_; conv => whnf) | refine ACode.s_block ?_ | refine ACode.s_scope ?_ | (refine ACode.s_cond ?_; conv => whnf) | (refine ACode.s_exit ?_; conv => whnf) | (refine ACode.s_ret ?_; conv => whnf) | (refine ACode.s_skip ?_; conv => whnf) | (refine ACode.s_label ?_; conv => whnf))
     refine ⟨by omega, _, strs_get l k h3, ?_⟩
     conv => whnf
     repeat (first | refine ACode.seq ?_ | (refine ACode.s_reg tys_ok ?_; conv => whnf) | refine ACode.s_block ?_ | refine ACode.s_scope ?_ | (refine ACode.s_cond ?_; conv => whnf) | (refine ACode.s_exit ?_; conv => whnf) | (refine ACode.s_ret ?_; conv => whnf) | (refine ACode.s_skip ?_; conv => whnf) | (refine ACode.s_label ?_; conv => whnf))
     repeat' (first | (refine And.intro (fun _ => ?_) (fun _ => ?_) <;> conv => whnf) | (refine ACall.of_spec (isFit_spec l[k] (by omega)) rfl fun r hr => ?_; subst hr; conv => whnf) | refine ACode.seq ?_ | (refine ACode.s_reg tys_ok ?_; conv => whnf) | refine ACode.s_block ?_ | refine ACode.s_scope ?_ | (refine ACode.s_cond ?_; conv => whnf) | (refine ACode.s_exit ?_; conv => whnf) | (refine ACode.s_ret ?_; conv => whnf) | (refine ACode.s_skip ?_; conv => whnf) | (refine ACode.s_label ?_; conv => whnf))
     ·rename_i h5
      exact congrArg AV.bool (hf (List.all_eq_false.2 ⟨l[k], List.getElem_mem h3, by simpa using h5⟩)).symm
     ·rename_i h5
      refine ⟨k + 1, ?_⟩
      conv => whnf
      repeat (refine And.intro ?_ ?_; (focus (first | rfl | (simp; done) | (first | exact hw2; done))); conv => whnf)
      exact ⟨⟨by omega, by rw [List.take_succ_eq_append_getElem h3, List.all_append, hc]; simpa using h5⟩, by omega⟩
    ·have h3 : k = l.length := by simp at h3; omega
     rw [h3, List.take_length] at hc
     conv => whnf
     repeat (first | refine ACode.seq ?_ | (refine ACode.s_reg tys_ok ?_; conv => whnf) | refine ACode.s_block ?_ | refine ACode.s_scope ?_ | (refine ACode.s_cond ?_; conv => whnf) | (refine ACode.s_exit ?_; conv => whnf) | (refine ACode.s_ret ?_; conv => whnf) | (refine ACode.s_skip ?_; conv => whnf) | (refine ACode.s_label ?_; conv => whnf))
     refine ⟨i + 1, ?_⟩
     conv => whnf
     repeat (refine And.intro ?_ ?_; (focus (first | rfl | (simp; done) | (first | exact hw1; done))); conv => whnf)
     exact ⟨⟨by omega, by rw [hal]; exact hc⟩, by omega⟩
  ·have h : i = L.length := by simp at h; omega
   rw [h, List.take_length] at ha
   conv => whnf
   repeat (first | refine ACode.seq ?_ | (refine ACode.s_reg tys_ok ?_; conv => whnf) | refine ACode.s_block ?_ | refine ACode.s_scope ?_ | (refine ACode.s_cond ?_; conv => whnf) | (refine ACode.s_exit ?_; conv => whnf) | (refine ACode.s_ret ?_; conv => whnf) | (refine ACode.s_skip ?_; conv => whnf) | (refine ACode.s_label ?_; conv => whnf))
   exact congrArg AV.bool ha.symm
end Go.Proofs.YtbodeejogdckgaaGreatDoor
