import Derived.Test.YthiefpmacffcoaaDb
set_option linter.unusedVariables false
set_option linter.unusedSimpArgs false
namespace Go.Proofs.Ythiefpmacffcoaa
open Go.Av
theorem stp_bd (h n : Int) : 0 ≤ stp h n ∧ stp h n < 2147483647 := by unfold stp; omega
theorem emod_sub (x y M : Int) (h : x % M = y % M) : ∃ q, x - y = M * q := by
  refine ⟨x / M - y / M, ?_⟩
  have h1 := Int.mul_ediv_add_emod x M
  have h2 := Int.mul_ediv_add_emod y M
  rw [Int.mul_sub]
  omega
theorem unit_dvd (M d q u t f : Int) (h : d * f = M * q) (hi : f * u = 1 + M * t) : d = M * (q * u - d * t) := by
  have h1 : d * f * u = M * q * u := by rw [h]
  rw [Int.mul_assoc, hi, Int.mul_add, Int.mul_one] at h1
  rw [Int.mul_sub, ← Int.mul_assoc, ← h1]
  have : d * (M * t) = M * (d * t) := by rw [← Int.mul_assoc, Int.mul_comm d M, Int.mul_assoc]
  omega
theorem small_zero (M d s : Int) (hM : 0 < M) (h : d = M * s) (h1 : -M < d) (h2 : d < M) : d = 0 := by
  rcases Int.lt_trichotomy s 0 with hs | hs | hs
  · have : M * s ≤ M * (-1) := Int.mul_le_mul_of_nonneg_left (by omega) (by omega)
    omega
  · subst hs; simpa using h
  · have : M * 1 ≤ M * s := Int.mul_le_mul_of_nonneg_left (by omega) (by omega)
    omega
theorem stp_inj (h1 h2 n : Int) (a0 : 0 ≤ h1) (a1 : h1 < 2147483647) (b0 : 0 ≤ h2) (b1 : h2 < 2147483647) (h : stp h1 n = stp h2 n) : h1 = h2 := by
  unfold stp at h
  obtain ⟨q, hq⟩ := emod_sub _ _ _ h
  clear h
  generalize n % 2147483647 = r at hq
  have hd : (h1 - h2) * 1000003 = 2147483647 * q := by rw [← hq, Int.sub_mul]; omega
  clear hq
  have hu : (1000003 : Int) * 1523789695 = 1 + 2147483647 * 709572 := by decide +kernel
  have hs := unit_dvd 2147483647 (h1 - h2) q 1523789695 709572 1000003 hd hu
  have hz := small_zero 2147483647 _ _ (by decide +kernel) hs (by clear hs hd; omega) (by clear hs hd; omega)
  clear hs hd
  omega
theorem stp_iff (h m n : Int) : stp h m = stp h n ↔ m % 2147483647 = n % 2147483647 := by
  unfold stp
  constructor
  · intro e; omega
  · intro e; rw [e]
theorem fold_inj : ∀ (l : List Int) (h1 h2 : Int), 0 ≤ h1 → h1 < 2147483647 → 0 ≤ h2 → h2 < 2147483647 → l.foldl stp h1 = l.foldl stp h2 → h1 = h2
  | [], _, _, _, _, _, _, h => h
  | n :: l, h1, h2, a0, a1, b0, b1, h => by
    have k1 := stp_bd h1 n
    have k2 := stp_bd h2 n
    exact stp_inj h1 h2 n a0 a1 b0 b1 (fold_inj l _ _ k1.1 k1.2 k2.1 k2.2 h)
theorem sumL_set (a : List Int) (k : Nat) (o : Int) (hk : k < a.length) : (sumL (a.set k o) = sumL a) ↔ (o % 2147483647 = a[k] % 2147483647) := by
  have e1 : a = a.take k ++ a[k] :: a.drop (k + 1) := by rw [← List.drop_eq_getElem_cons hk, List.take_append_drop]
  have e2 : a.set k o = a.take k ++ o :: a.drop (k + 1) := by
    rw [List.set_eq_take_append_cons_drop, if_pos hk]
  have hb := sumL_bd (a.take k)
  have f1 : sumL a = (a.drop (k + 1)).foldl stp (stp (sumL (a.take k)) a[k]) := by
    conv => lhs; rw [e1]
    unfold sumL; rw [List.foldl_append]; rfl
  have f2 : sumL (a.set k o) = (a.drop (k + 1)).foldl stp (stp (sumL (a.take k)) o) := by
    rw [e2]; unfold sumL; rw [List.foldl_append]; rfl
  rw [f1, f2, ← stp_iff (sumL (a.take k))]
  have k1 := stp_bd (sumL (a.take k)) o
  have k2 := stp_bd (sumL (a.take k)) a[k]
  constructor
  · exact fun h => fold_inj _ _ _ k1.1 k1.2 k2.1 k2.2 h
  · exact fun h => by rw [h]
theorem remainder_spec (n : Int) : Ctr Try.prog 25 [.int .i64 n] (fun r => r = .int .i64 (n % 2147483647)) := by
  refine Ctr.of_body Try.func25 rfl tys_ok (by kernel_rfl) ?_
  conv => whnf
  refine cd_sound tys_ok _ ?_
  have ht := tmod_cases n 2147483647 (by decide)
  conv => whnf
  refine ⟨by decide, ?_⟩
  conv => whnf
  refine ⟨by decide, ?_⟩
  conv => whnf
  rw [Wr64 _ (by omega) (by omega), Int.tmod_eq_emod_of_nonneg (by omega)]
  congr 1
  omega
set_option maxRecDepth 100000 in
theorem law2 (a b : List Int) (at_ : Int) (other : Int) (h0 : 0 ≤ at_) (h1 : at_ ≤ 255) (ho : -2147483648 ≤ other) (ho1 : other ≤ 2147483647) :
    Ctr Try.prog 4 [.sl 1 (ints a), .sl 1 (ints b), .int .u8 at_, .int .i32 other] (fun r => r = .bool true) := by
  refine Ctr.of_body Try.func4 rfl tys_ok (by kernel_rfl) ?_
  conv => whnf
  refine cd_sound tys_ok _ ?_
  conv => whnf
  refine ACall.of_spec head_spec rfl fun r hr => ?_
  subst hr
  conv => whnf
  refine ⟨fun ha => ?_, fun _ => ?_⟩
  rotate_left
  · conv => whnf
  · simp at ha
    conv => whnf
    refine ⟨fun _ => ?_, fun hb => ?_⟩
    · conv => whnf
    · simp at hb
      conv => whnf
      refine ACall.of_spec (Sum_spec a (by omega)) rfl fun r hr => ?_
      subst hr
      conv => whnf
      refine ACode.loopD (fun k : Nat => mk 87 [(0, .sl 1 (ints a)), (1, .sl 1 (ints b)), (2, .int .u8 at_), (3, .int .i32 other), (9, .bool true), (10, .int .i64 (sumL (a ++ b.take k))), (11, .int .i64 k)]) (fun _ => []) (fun k => k ≤ b.length) (fun k => b.length - k) (fun k hk => ⟨rfl, trivial⟩) ⟨0, ?_⟩ (fun _ => rfl) fun k hk => ?_
      · have e : sumL a = sumL (a ++ b.take 0) := by simp
        conv => whnf
        repeat (refine ⟨by first | rfl | exact e, ?_⟩; conv => whnf)
        exact Nat.zero_le _
      · refine cd_sound tys_ok _ ?_
        have hbd := sumL_bd (a ++ b.take k)
        conv => whnf
        refine ⟨fun hlt => ?_, fun hge => ?_⟩
        · have hlt : k < b.length := by simpa using hlt
          have hs : sumL (a ++ b.take (k + 1)) = stp (sumL (a ++ b.take k)) b[k] := by
            rw [List.take_succ_eq_append_getElem hlt, ← List.append_assoc]; unfold sumL; rw [List.foldl_append]; rfl
          conv => whnf
          refine ⟨by omega, .int .i64 b[k], ints_get _ _ hlt, ?_⟩
          conv => whnf
          refine ACall.of_spec (remainder_spec b[k]) rfl fun r hr => ?_
          subst hr
          conv => whnf
          refine ⟨by decide, ?_⟩
          conv => whnf
          refine ⟨k + 1, ?_⟩
          have e : (Wr .i64 (Wr .i64 (Wr .i64 (sumL (a ++ b.take k) * 1000003) + b[k] % 2147483647) + 1)).tmod 2147483647 = sumL (a ++ b.take (k + 1)) := by
            rw [hs]; exact stp_of _ _ _ rfl hbd.1 hbd.2 (by omega) (by omega)
          rw [e]
          conv => whnf
          repeat (refine ⟨by first | rfl | exact wr_succ k (by omega), ?_⟩; conv => whnf)
          exact ⟨by omega, by omega⟩
        · simp at hge
          have hall : b.take k = b := List.take_of_length_le hge
          rw [hall]
          conv => whnf
          refine ⟨by simp; omega, ?_⟩
          conv => whnf
          refine ⟨by simp; omega, ?_⟩
          conv => whnf
          have hap : [] ++ ints a ++ ints b = ints (a ++ b) := by rw [ints_append]; rfl
          rw [hap]
          refine ACall.of_vcall ⟨⟨rfl, closed_ints _⟩, _, ⟨Sum_spec (a ++ b) (by simp; omega), rfl⟩, ?_⟩ (by kernel_rfl)
          conv => whnf
          refine ⟨fun h => absurd h (by simp), fun _ => ?_⟩
          conv => whnf
          refine ⟨fun _ => ?_, fun hne => ?_⟩
          · conv => whnf
          · have hlen : 0 < a.length := by simp at hne; exact List.length_pos_iff.2 hne
            have hla : (ints a).length = a.length := ints_length a
            have hw : Wr .i64 at_ = at_ := Wr64 _ (by omega) (by omega)
            have hwo : Wr .i64 other = other := Wr64 _ (by omega) (by omega)
            have hm : at_.tmod (a.length : Int) = ((at_.toNat % a.length : Nat) : Int) := by
              rw [Int.tmod_eq_emod_of_nonneg h0]
              conv => lhs; rw [← Int.toNat_of_nonneg h0]
              exact (Int.natCast_emod _ _).symm
            have hk : at_.toNat % a.length < a.length := Nat.mod_lt _ hlen
            conv => whnf
            refine ⟨by omega, ?_⟩
            conv => whnf
            rw [hla, hw, hm]
            generalize at_.toNat % a.length = k at hk ⊢
            refine ⟨by simp; omega, ?_⟩
            conv => whnf
            rw [hwo]
            refine ⟨⟨by omega, by simp; omega⟩, ?_⟩
            conv => whnf
            refine ⟨.int .i64 a[k], by simpa using ints_get a k hk, ?_⟩
            conv => whnf
            have hset : ([] ++ ints a).set (0 + (k : Int).toNat) (.int .i64 other) = ints (a.set k other) := by simp [ints]
            rw [hset]
            refine ACode.draw [] tys_ok (by kernel_rfl) (by kernel_rfl) ?_
            conv => whnf
            refine ⟨fun _ => ?_, fun h => absurd h (by simp)⟩
            conv => whnf
            refine ⟨⟨by simp, closed_ints _⟩, ?_⟩
            conv => whnf
            refine ⟨_, ⟨Sum_spec (a.set k other) (by simp; omega), rfl⟩, ?_⟩
            conv => whnf
            refine ⟨_, ⟨Sum_spec a (by omega), rfl⟩, ?_⟩
            conv => whnf
            have hiff := sumL_set a k other hk
            have hel : (ints (a.set k other))[0 + (k : Int).toNat]? = some (.int .i64 other) := by
              simp only [Nat.zero_add, Int.toNat_natCast, ints]
              rw [List.getElem?_map, List.getElem?_set_self (by simpa using hk)]; rfl
            have fin : ∀ p q : Bool, (p = true ↔ sumL (a.set k other) = sumL a) → (q = true ↔ other % 2147483647 = a[k] % 2147483647) → p = q := fun p q hp hq => by
              rw [Bool.eq_iff_iff, hp, hq]; exact hiff
            refine ⟨fun hA => ?_, fun hA => ?_⟩
            all_goals
              conv => whnf
              refine ⟨⟨by omega, by simp; omega⟩, ?_⟩
              conv => whnf
              refine ⟨_, hel, ?_⟩
              conv => whnf
              refine ⟨_, ⟨remainder_spec other, rfl⟩, ?_⟩
              conv => whnf
              refine ⟨by omega, .int .i64 a[k], by simpa using ints_get a k hk, ?_⟩
              conv => whnf
              refine ⟨_, ⟨remainder_spec a[k], rfl⟩, ?_⟩
              conv => whnf
              refine ⟨fun hB => ?_, fun hB => ?_⟩
            · conv => whnf
              refine ⟨fun _ => ?_, fun h => absurd h (by decide)⟩
              conv => whnf
            · exact absurd hA (by simp at hA hB; exact fun _ => hB (hiff.1 hA))
            · exact absurd hB (by simp at hA hB; exact fun _ => hA (hiff.2 hB))
            · conv => whnf
              refine ⟨fun _ => ?_, fun h => absurd h (by decide)⟩
              conv => whnf
end Go.Proofs.Ythiefpmacffcoaa

set_option linter.unusedVariables false
set_option linter.unusedSimpArgs false
namespace Go.Proofs.Ythiefpmacffcoaa
open Go.Av
theorem getD_append_left (a b : List Int) (i : Nat) (h : i < a.length) : (a ++ b).getD i 0 = a.getD i 0 := by
  simp [List.getD, List.getElem?_append_left h]
theorem getD_append_right (a b : List Int) (i : Nat) : (a ++ b).getD (a.length + i) 0 = b.getD i 0 := by
  simp [List.getD, List.getElem?_append_right (Nat.le_add_right a.length i)]
theorem up_append (a b : List Int) (h : a.length % 2 = 0) : up (a ++ b) = up a ++ up b := by
  rw [up_eq, up_eq, up_eq]
  have e : ((a ++ b).length + 1) / 2 = a.length / 2 + (b.length + 1) / 2 := by simp; omega
  have e2 : (a.length + 1) / 2 = a.length / 2 := by omega
  rw [e, e2, List.range_add, List.map_append, List.map_map]
  congr 1
  · apply List.map_congr_left
    intro i hi
    simp at hi
    have h1 : 2 * i + 1 < a.length := by omega
    have h2 : 2 * i + 1 < (a ++ b).length := by simp; omega
    simp only [upEl, h1, h2, if_true, getD_append_left a b _ (show 2 * i < a.length by omega), getD_append_left a b _ h1]
  · apply List.map_congr_left
    intro i hi
    simp at hi
    have e3 : 2 * (a.length / 2 + i) = a.length + 2 * i := by omega
    have e4 : 2 * (a.length / 2 + i) + 1 = a.length + (2 * i + 1) := by omega
    have e5 : (a.length + (2 * i + 1) < (a ++ b).length) ↔ (2 * i + 1 < b.length) := by simp
    simp only [Function.comp, upEl, e4, e5, getD_append_right]
    simp only [e3, getD_append_right]
theorem tier_len_pow : ∀ (j m : Nat) (a : List Int), j ≤ m → a.length = 2 ^ m → (tier j a).length = 2 ^ (m - j)
  | 0, m, a, _, h => by simpa [tier] using h
  | j + 1, m, a, hj, h => by
    have ih := tier_len_pow j m a (by omega) h
    show (up (tier j a)).length = _
    rw [up_length, ih]
    have : 2 ^ (m - j) = 2 * 2 ^ (m - (j + 1)) := by rw [← Nat.pow_succ']; congr 1; omega
    omega
theorem tier_append : ∀ (j m : Nat) (a b : List Int), j ≤ m → a.length = 2 ^ m → tier j (a ++ b) = tier j a ++ tier j b
  | 0, _, _, _, _, _ => rfl
  | j + 1, m, a, b, hj, h => by
    have ih := tier_append j m a b (by omega) h
    have hl := tier_len_pow j m a (by omega) h
    show up (tier j (a ++ b)) = up (tier j a) ++ up (tier j b)
    rw [ih, up_append]
    rw [hl]
    have : 2 ^ (m - j) = 2 * 2 ^ (m - (j + 1)) := by rw [← Nat.pow_succ']; congr 1; omega
    omega
theorem tier_len_le : ∀ (j : Nat) (b : List Int) (m : Nat), j ≤ m → b.length ≤ 2 ^ m → (tier j b).length ≤ 2 ^ (m - j)
  | 0, b, m, _, h => by simpa [tier] using h
  | j + 1, b, m, hj, h => by
    have ih := tier_len_le j b m (by omega) h
    show (up (tier j b)).length ≤ _
    rw [up_length]
    have : 2 ^ (m - j) = 2 * 2 ^ (m - (j + 1)) := by rw [← Nat.pow_succ']; congr 1; omega
    omega
theorem up_one (x : Int) : up [x] = [x] := by rw [up_eq]; simp [upEl]
def root (r : List Int) : Int := (tier (height r.length) r).getD 0 0
theorem tier_top (r : List Int) (h : 0 < r.length) : (tier (height r.length) r).length = 1 := by
  have h1 := tier_height (height r.length) r (Nat.le_refl _)
  have h2 := tier_pos (height r.length) r h
  omega
theorem tier_beyond (r : List Int) (h : 0 < r.length) (i : Nat) : tier (height r.length + i) r = tier (height r.length) r := by
  induction i with
  | zero => rfl
  | succ i ih =>
    show up (tier (height r.length + i) r) = _
    rw [ih]
    have ht := tier_top r h
    match hx : tier (height r.length) r with
    | [] => rw [hx] at ht; cases ht
    | [x] => exact up_one x
    | _ :: _ :: _ => rw [hx] at ht; simp at ht
theorem root_of_one (r : List Int) (h : 0 < r.length) (k : Nat) (hk : (tier k r).length = 1) : root r = (tier k r).getD 0 0 := by
  have hh : height r.length ≤ k := by
    rcases Nat.lt_or_ge k (height r.length) with hlt | hge
    · have := (tier_height k r (Nat.le_of_lt hlt)).2 hlt; omega
    · exact hge
  obtain ⟨i, rfl⟩ := Nat.exists_eq_add_of_le hh
  rw [tier_beyond r h i]; rfl
theorem rootOf_eq (l : List (List UInt8)) (hne : l ≠ []) (hl : l.length ≤ 1000) : rootOf l = root (leaves l) := by
  rw [rootOf, if_neg (by omega)]
  have hrl : (rowsOf l).length = height l.length + 1 := by simp [rowsOf, hne, levels_length]
  rw [rootL, if_neg (by omega), hrl]
  obtain ⟨_, _, h3⟩ := rowsOf_get l (height l.length) (by omega)
  have : (rowsOf l).getD (height l.length + 1 - 1) [] = (rowsOf l)[height l.length] := by simp [List.getD, List.getElem?_eq_getElem (show height l.length < (rowsOf l).length by omega)]
  rw [this, h3, root, leaves_length]
theorem root_halves (a b : List Int) (m : Nat) (ha : a.length = 2 ^ m) (hb : 0 < b.length) (hb2 : b.length ≤ 2 ^ m) : root (a ++ b) = sumL [1, root a, root b] := by
  have hla := tier_len_pow m m a (Nat.le_refl _) ha
  have hlb := tier_len_le m b m (Nat.le_refl _) hb2
  have hpb := tier_pos m b hb
  simp only [Nat.sub_self, Nat.pow_zero] at hla hlb
  have hlb1 : (tier m b).length = 1 := by omega
  have hpa : 0 < a.length := by rw [ha]; exact Nat.pow_pos (by omega)
  have hra := root_of_one a hpa m hla
  have hrb := root_of_one b hb m hlb1
  have ht : tier (m + 1) (a ++ b) = [sumL [1, root a, root b]] := by
    show up (tier m (a ++ b)) = _
    rw [tier_append m m a b (Nat.le_refl _) ha, hra, hrb]
    match h1 : tier m a, h2 : tier m b with
    | [x], [y] => rw [up_eq]; simp [upEl]
    | [], _ => rw [h1] at hla; cases hla
    | _ :: _ :: _, _ => rw [h1] at hla; simp at hla
    | [x], [] => rw [h2] at hlb1; cases hlb1
    | [x], _ :: _ :: _ => rw [h2] at hlb1; simp at hlb1
  rw [root_of_one (a ++ b) (by simp; omega) (m + 1) (by rw [ht]; rfl), ht]
  rfl
set_option maxRecDepth 100000 in
theorem law8 (l : List (List UInt8)) (hl : l.length ≤ 9223372036854775807) : Ctr Try.prog 8 [.sl 1 (strs l)] (fun r => r = .bool true) := by
  refine Ctr.of_body Try.func8 rfl tys_ok (by kernel_rfl) ?_
  conv => whnf
  refine cd_sound tys_ok _ ?_
  conv => whnf
  refine ACall.of_spec head_spec rfl fun r hr => ?_
  subst hr
  conv => whnf
  refine ACall.of_spec (few_spec l 64 hl) rfl fun r hr => ?_
  subst hr
  conv => whnf
  refine ⟨fun h2 => ?_, fun _ => ?_⟩
  rotate_left
  · conv => whnf
  · have h2 : fewB l 64 = true := by simpa using h2
    obtain ⟨hl64, hs40⟩ := few_len h2
    have hsM : ∀ s ∈ l, s.length ≤ 1000000 := fun s hs => by have := hs40 s hs; omega
    conv => whnf
    refine ⟨fun _ => ?_, fun h => ?_⟩
    · conv => whnf
    · have hlen : 2 ≤ l.length := by simp at h; omega
      conv => whnf
      refine ACode.loopT (fun j : Nat => mk 38 [(0, .sl 1 (strs l)), (3, .bool true), (4, .int .i64 ((2 ^ j : Nat) : Int))]) (fun _ => []) (fun j => 2 ^ j < l.length) (fun j => l.length - 2 ^ j) ⟨0, ?_⟩ fun j hj => ?_
      · conv => whnf
        repeat (refine ⟨by first | rfl, ?_⟩; conv => whnf)
        show 1 < l.length
        omega
      · have hpow : 2 ^ (j + 1) = 2 * 2 ^ j := Nat.pow_succ'
        have hpos : 0 < 2 ^ j := Nat.pow_pos (by omega)
        have hw : Wr .i64 (2 * ((2 ^ j : Nat) : Int)) = ((2 ^ (j + 1) : Nat) : Int) := by rw [hpow, Wr64 _ (by omega) (by omega)]; omega
        refine cd_sound tys_ok _ ?_
        conv => whnf
        rw [hw]
        refine ⟨fun ht => ?_, fun hf => ?_⟩
        · have hlt : 2 ^ (j + 1) < l.length := by simp at ht; exact_mod_cast ht
          conv => whnf
          refine ⟨j + 1, ?_⟩
          conv => whnf
          repeat (refine ⟨by first | rfl | exact hw, ?_⟩; conv => whnf)
          exact ⟨hlt, by omega⟩
        · have hge : l.length ≤ 2 ^ (j + 1) := by simp at hf; exact_mod_cast hf
          conv => whnf
          refine ACode.draw [] tys_ok (by kernel_rfl) (by kernel_rfl) ?_
          conv => whnf
          refine ⟨fun _ => ?_, fun h => absurd h (by simp)⟩
          conv => whnf
          refine ⟨_, ⟨Root_spec l (by omega) hsM, rfl⟩, ?_⟩
          conv => whnf
          have hln := strs_length l
          have hta : l.take (2 ^ j) ≠ [] := by intro e; have := congrArg List.length e; rw [List.length_take, List.length_nil] at this; omega
          have hda : l.drop (2 ^ j) ≠ [] := by intro e; have := congrArg List.length e; rw [List.length_drop, List.length_nil] at this; omega
          have hR : rootOf l = sumL [1, rootOf (l.take (2 ^ j)), rootOf (l.drop (2 ^ j))] := by
            have hne : l ≠ [] := by rintro rfl; simp at hlen
            have hsp : leaves l = leaves (l.take (2 ^ j)) ++ leaves (l.drop (2 ^ j)) := by
              unfold leaves; rw [← List.map_append, List.take_append_drop]
            have h1 := rootOf_eq l hne (by omega)
            have h2 := rootOf_eq (l.take (2 ^ j)) hta (by rw [List.length_take]; omega)
            have h3 := rootOf_eq (l.drop (2 ^ j)) hda (by rw [List.length_drop]; omega)
            rw [h1, h2, h3, hsp]
            exact root_halves _ _ j (by rw [leaves_length, List.length_take]; omega) (by rw [leaves_length, List.length_drop]; omega) (by rw [leaves_length, List.length_drop]; omega)
          have hsT : ∀ s ∈ l.take (2 ^ j), s.length ≤ 1000000 := fun s hs => hsM s (List.mem_of_mem_take hs)
          have hsD : ∀ s ∈ l.drop (2 ^ j), s.length ≤ 1000000 := fun s hs => hsM s (List.mem_of_mem_drop hs)
          refine ⟨by omega, ?_⟩
          conv => whnf
          refine ⟨.int .i64 (rootOf (l.take (2 ^ j))), ⟨?_, rfl⟩, ?_⟩
          · have e : ((strs l).take (((2 ^ j : Nat) : Int)).toNat).drop (0 : Int).toNat = strs (l.take (2 ^ j)) := by
              rw [Int.toNat_natCast]; unfold strs; rw [List.map_take]; rfl
            have h := Root_spec (l.take (2 ^ j)) (by rw [List.length_take]; omega) hsT
            rw [← e] at h
            exact h
          conv => whnf
          refine ⟨by omega, ?_⟩
          conv => whnf
          refine ⟨.int .i64 (rootOf (l.drop (2 ^ j))), ⟨?_, rfl⟩, ?_⟩
          · have e : ((strs l).take (((strs l).length : Nat) : Int).toNat).drop (((2 ^ j : Nat) : Int)).toNat = strs (l.drop (2 ^ j)) := by
              rw [Int.toNat_natCast, Int.toNat_natCast, List.take_length]; unfold strs; rw [List.map_drop]
            have h := Root_spec (l.drop (2 ^ j)) (by rw [List.length_drop]; omega) hsD
            rw [← e] at h
            exact h
          conv => whnf
          refine ⟨⟨rfl, by simp [closed]⟩, ?_⟩
          conv => whnf
          refine ⟨_, ⟨Sum_spec [1, rootOf (l.take (2 ^ j)), rootOf (l.drop (2 ^ j))] (by simp), rfl⟩, ?_⟩
          conv => whnf
          refine ⟨fun _ => ?_, fun h => absurd hR (by simpa using h)⟩
          conv => whnf
end Go.Proofs.Ythiefpmacffcoaa

set_option linter.unusedVariables false
set_option linter.unusedSimpArgs false
namespace Go.Proofs.Ythiefpmacffcoaa
open Go.Av
theorem tiers_get (r : List Int) (m k : Nat) (h : k < m) : (rowsA (tiers r m))[k]? = some (.sl 1 (ints (tier k r))) := by
  rw [rowsA_get _ _ (by simpa using h)]; simp [tiers]
theorem leaves_getD (l : List (List UInt8)) (k : Nat) (h : k < l.length) : (leaves l).getD k 0 = leaf l[k] := by
  simp [leaves, List.getD, h]
theorem up_getD (row : List Int) (i : Nat) (h : i < (row.length + 1) / 2) : (up row).getD i 0 = upEl row i := by
  rw [up_eq]; simp [List.getD, h]
theorem ndec {a b : Int} (h : a = b) : ¬ (!decide (a = b)) = true := by subst h; simp
theorem ndec' {a b : Int} (h : a = b) : ¬ decide (a = b) = false := by subst h; simp
set_option maxRecDepth 100000 in
theorem law5 (l : List (List UInt8)) (hl : l.length ≤ 9223372036854775807) : Ctr Try.prog 5 [.sl 1 (strs l)] (fun r => r = .bool true) := by
  refine Ctr.of_body Try.func5 rfl tys_ok (by kernel_rfl) ?_
  conv => whnf
  refine cd_sound tys_ok _ ?_
  conv => whnf
  refine ACall.of_spec head_spec rfl fun r hr => ?_
  subst hr
  conv => whnf
  refine ACall.of_spec (few_spec l 70 hl) rfl fun r hr => ?_
  subst hr
  conv => whnf
  refine ⟨fun h2 => ?_, fun _ => ?_⟩
  rotate_left
  · conv => whnf
  · have h2 : fewB l 70 = true := by simpa using h2
    obtain ⟨hl70, hs40⟩ := few_len h2
    have hlM : l.length ≤ 1000000 := by omega
    have hsM : ∀ s ∈ l, s.length ≤ 1000000 := fun s hs => by have := hs40 s hs; omega
    have hll := strs_length l
    conv => whnf
    refine ⟨fun _ => ?_, fun h => ?_⟩
    · conv => whnf
    · have hne : l ≠ [] := by rintro rfl; simp at h
      have hpos : 0 < l.length := List.length_pos_iff.2 hne
      have hh := height_le l.length
      have htop := tier_top (leaves l) (by simpa using hpos)
      rw [leaves_length] at htop
      have hroot : rootOf l = (tier (height l.length) (leaves l)).getD 0 0 := by rw [rootOf_eq l hne (by omega), root, leaves_length]
      conv => whnf
      refine ACall.of_spec (Tree_spec l hlM hsM) rfl fun r hr => ?_
      rw [treeOf_eq l hne (by omega)] at hr
      subst hr
      have htl : (rowsA (tiers (leaves l) (height l.length + 1))).length = height l.length + 1 := by simp
      have hget : ∀ k, k ≤ height l.length → (rowsA (tiers (leaves l) (height l.length + 1)))[k]? = some (.sl 1 (ints (tier k (leaves l)))) := fun k hk => tiers_get _ _ _ (by omega)
      have hw1 : Wr .i64 (((rowsA (tiers (leaves l) (height l.length + 1))).length : Int) - 1) = ((height l.length : Nat) : Int) := by rw [htl, Wr64 _ (by omega) (by omega)]; omega
      have hil : ∀ k, (ints (tier k (leaves l))).length = (tier k (leaves l)).length := fun k => ints_length _
      conv => whnf
      refine ACode.draw [] tys_ok (by kernel_rfl) (by kernel_rfl) ?_
      conv => whnf
      refine ⟨fun h => absurd h (by simp; omega), fun _ => ?_⟩
      conv => whnf
      refine ⟨by decide, _, hget 0 (by omega), ?_⟩
      conv => whnf
      refine ⟨fun h => absurd h (by simp [tier]), fun _ => ?_⟩
      conv => whnf
      rw [hw1]
      refine ⟨by omega, _, hget _ (Nat.le_refl _), ?_⟩
      conv => whnf
      refine ⟨fun h => absurd h (by simp [htop]), fun _ => ?_⟩
      conv => whnf
      rw [hw1]
      refine ⟨by omega, _, hget _ (Nat.le_refl _), ?_⟩
      conv => whnf
      have htop' : (tier ((height l.length : Nat) : Int).toNat (leaves l)).length = 1 := htop
      refine ⟨by decide, _, ints_getD _ 0 (by omega), ?_⟩
      conv => whnf
      refine ⟨_, ⟨Root_spec l hlM hsM, rfl⟩, ?_⟩
      conv => whnf
      refine ⟨fun h => absurd h (by simp [hroot]), fun _ => ?_⟩
      conv => whnf
      refine ACode.loopD (fun k : Nat => mk 164 [(0, .sl 1 (strs l)), (3, .bool true), (4, .sl 1 (rowsA (tiers (leaves l) (height l.length + 1)))), (5, .int .i64 k)]) (fun _ => List.replicate 35 .dead) (fun k => k ≤ l.length) (fun k => l.length - k) (fun k hk => ⟨rfl, trivial⟩) ⟨0, ?_⟩ (fun _ => rfl) fun k hk => ?_
      · conv => whnf
        repeat (refine ⟨by first | rfl, ?_⟩; conv => whnf)
        exact Nat.zero_le _
      · refine cd_sound tys_ok _ ?_
        conv => whnf
        refine ⟨fun hlt => ?_, fun hge => ?_⟩
        · have hlt : k < l.length := by simpa using hlt
          have hsk := hsM l[k] (List.getElem_mem hlt)
          conv => whnf
          refine ACode.draw [] tys_ok (by kernel_rfl) (by kernel_rfl) ?_
          conv => whnf
          refine ⟨by decide, _, hget 0 (by omega), ?_⟩
          conv => whnf
          refine ⟨by omega, _, ints_getD (tier 0 (leaves l)) k (by simpa [tier] using hlt), ?_⟩
          conv => whnf
          refine ⟨by omega, _, strs_get l k hlt, ?_⟩
          conv => whnf
          refine ⟨_, ⟨Label_spec l[k] hsk, rfl⟩, ?_⟩
          conv => whnf
          refine ⟨⟨rfl, by simp [closed]⟩, ?_⟩
          conv => whnf
          refine ⟨_, ⟨Sum_spec [0, sumL (codes l[k])] (by simp), rfl⟩, ?_⟩
          conv => whnf
          have hv : (tier 0 (leaves l)).getD k 0 = sumL [0, sumL (codes l[k])] := leaves_getD l k hlt
          refine ⟨fun h => absurd h (ndec hv), fun _ => ?_⟩
          conv => whnf
          refine ⟨k + 1, ?_⟩
          conv => whnf
          repeat (refine ⟨by first | rfl | exact wr_succ k (by omega), ?_⟩; conv => whnf)
          exact ⟨by omega, by omega⟩
        · conv => whnf
          refine ACode.loopD (fun j : Nat => mk 164 [(3, .bool true), (4, .sl 1 (rowsA (tiers (leaves l) (height l.length + 1)))), (6, .int .i64 ((j + 1 : Nat) : Int))]) (fun _ => List.replicate 35 .dead) (fun j => j ≤ height l.length) (fun j => height l.length - j) (fun k hk => ⟨rfl, trivial⟩) ⟨0, ?_⟩ (fun _ => rfl) fun j hj => ?_
          · conv => whnf
            repeat (refine ⟨by first | rfl, ?_⟩; conv => whnf)
            exact Nat.zero_le _
          · refine cd_sound tys_ok _ ?_
            have hwj : Wr .i64 (((j + 1 : Nat) : Int) - 1) = ((j : Nat) : Int) := by rw [Wr64 _ (by omega) (by omega)]; omega
            conv => whnf
            refine ⟨fun hlt => ?_, fun hge => ?_⟩
            · have hjh : j < height l.length := by simp at hlt; omega
              have hT := tier_height j (leaves l) (by simpa using hj)
              have hlen := tier_length_le j (leaves l)
              simp only [leaves_length] at hT hlen
              have hrl := hT.2 hjh
              have hgj := hget j (by omega)
              have hgj1 := hget (j + 1) (by omega)
              have hup : tier (j + 1) (leaves l) = up (tier j (leaves l)) := rfl
              rw [hup] at hgj1
              generalize hrow : tier j (leaves l) = row at hlen hrl hgj hgj1
              have hul := up_length row
              have hiu : (ints (up row)).length = (row.length + 1) / 2 := by rw [ints_length, hul]
              conv => whnf
              rw [hwj]
              refine ⟨by omega, _, hgj, ?_⟩
              conv => whnf
              refine ⟨by omega, _, hgj1, ?_⟩
              conv => whnf
              refine ⟨by decide, ?_⟩
              conv => whnf
              have hq : Wr .i64 ((Wr .i64 (((ints row).length : Int) + 1)).tdiv 2) = (((row.length + 1) / 2 : Nat) : Int) := by
                rw [ints_length, Wr64 ((row.length : Int) + 1) (by omega) (by omega), Int.tdiv_eq_ediv_of_nonneg (by omega), Wr64 _ (by omega) (by omega)]; omega
              refine ⟨fun _ => ?_, fun h => absurd h (by rw [hq]; simp [hul])⟩
              conv => whnf
              refine ⟨fun h => absurd h (by simp; omega), fun _ => ?_⟩
              conv => whnf
              refine ACode.loopD (fun i : Nat => mk 164 [(3, .bool true), (4, .sl 1 (rowsA (tiers (leaves l) (height l.length + 1)))), (6, .int .i64 ((j + 1 : Nat) : Int)), (7, .sl 1 (ints row)), (8, .int .i64 i)]) (fun _ => List.replicate 35 .dead) (fun i => i ≤ (row.length + 1) / 2) (fun i => (row.length + 1) / 2 - i) (fun k hk => ⟨rfl, trivial⟩) ⟨0, ?_⟩ (fun _ => rfl) fun i hi => ?_
              · conv => whnf
                repeat (refine ⟨by first | rfl, ?_⟩; conv => whnf)
                exact Nat.zero_le _
              · refine cd_sound tys_ok _ ?_
                have hw2 : Wr .i64 (2 * ((i : Nat) : Int)) = ((2 * i : Nat) : Int) := by rw [Wr64 _ (by omega) (by omega)]; omega
                have hw3 : Wr .i64 (((2 * i : Nat) : Int) + 1) = ((2 * i + 1 : Nat) : Int) := by rw [Wr64 _ (by omega) (by omega)]; omega
                conv => whnf
                refine ⟨by omega, _, hgj1, ?_⟩
                conv => whnf
                refine ⟨fun hlt => ?_, fun hge => ?_⟩
                · have hlt : i < (row.length + 1) / 2 := by simp [hul] at hlt; omega
                  have hue := up_getD row i hlt
                  conv => whnf
                  refine ACode.draw [] tys_ok (by kernel_rfl) (by kernel_rfl) ?_
                  conv => whnf
                  rw [hw2, hw3]
                  have hgu : (ints (up row))[i]? = some (.int .i64 ((up row).getD i 0)) := ints_getD _ _ (by omega)
                  refine ⟨fun hA => ?_, fun hA => ?_⟩
                  · have hA : 2 * i + 1 < row.length := by simp at hA; omega
                    have hv : (up row).getD i 0 = sumL [1, row.getD (2 * i) 0, row.getD (2 * i + 1) 0] := by rw [hue]; simp [upEl, hA]
                    conv => whnf
                    refine ⟨by omega, _, hgj1, ?_⟩
                    conv => whnf
                    refine ⟨by omega, _, hgu, ?_⟩
                    conv => whnf
                    rw [hw2]
                    refine ⟨by omega, _, ints_getD row (2 * i) (by omega), ?_⟩
                    conv => whnf
                    rw [hw2, hw3]
                    refine ⟨by omega, _, ints_getD row (2 * i + 1) (by omega), ?_⟩
                    conv => whnf
                    refine ⟨⟨rfl, by simp [closed]⟩, ?_⟩
                    conv => whnf
                    refine ⟨_, ⟨Sum_spec [1, row.getD (2 * i) 0, row.getD (2 * i + 1) 0] (by simp), rfl⟩, ?_⟩
                    conv => whnf
                    refine ⟨fun h => absurd h (ndec hv), fun _ => ?_⟩
                    conv => whnf
                    rw [hw2, hw3]
                    refine ⟨fun h => absurd h (by simp; omega), fun _ => ?_⟩
                    conv => whnf
                    refine ⟨i + 1, ?_⟩
                    conv => whnf
                    repeat (refine ⟨by first | rfl | exact wr_succ i (by omega), ?_⟩; conv => whnf)
                    exact ⟨by omega, by omega⟩
                  · have hA : ¬ 2 * i + 1 < row.length := by simp at hA; omega
                    have hv : (up row).getD i 0 = row.getD (2 * i) 0 := by rw [hue]; simp [upEl, hA]
                    conv => whnf
                    rw [hw2, hw3]
                    refine ⟨fun _ => ?_, fun h => absurd h (by simp; omega)⟩
                    conv => whnf
                    refine ⟨by omega, _, hgj1, ?_⟩
                    conv => whnf
                    refine ⟨by omega, _, hgu, ?_⟩
                    conv => whnf
                    rw [hw2]
                    refine ⟨by omega, _, ints_getD row (2 * i) (by omega), ?_⟩
                    conv => whnf
                    refine ⟨fun h => absurd h (ndec hv), fun _ => ?_⟩
                    conv => whnf
                    refine ⟨i + 1, ?_⟩
                    conv => whnf
                    repeat (refine ⟨by first | rfl | exact wr_succ i (by omega), ?_⟩; conv => whnf)
                    exact ⟨by omega, by omega⟩
                · conv => whnf
                  refine ⟨j + 1, ?_⟩
                  conv => whnf
                  repeat (refine ⟨by first | rfl | exact wr_succ (j + 1) (by omega), ?_⟩; conv => whnf)
                  exact ⟨by omega, by omega⟩
            · conv => whnf
end Go.Proofs.Ythiefpmacffcoaa
