import Derived.Test.YtobdkjjakdjnaaaDoorTy
import Derived.Test.YtobdkjjakdjnaaaDoorKd
set_option linter.unusedVariables false
set_option linter.unusedSimpArgs false
namespace Go.Proofs.YtobdkjjakdjnaaaDoor
open Go.Av
def M : Int := 2147483647
def stp (h n : Int) : Int := (h * 1000003 + n % 2147483647 + 1) % 2147483647
def sumL (l : List Int) : Int := l.foldl stp 7
def ints (l : List Int) : List AV := l.map (.int .i64)
theorem sumL_bd (l : List Int) : 0 ≤ sumL l ∧ sumL l < 2147483647 := by
  unfold sumL
  suffices h : ∀ a : Int, 0 ≤ a → a < 2147483647 → 0 ≤ l.foldl stp a ∧ l.foldl stp a < 2147483647 from h 7 (by omega) (by omega)
  induction l with
  | nil => intro a h1 h2; exact ⟨h1, h2⟩
  | cons x l ih => intro a h1 h2; exact ih _ (by unfold stp; omega) (by unfold stp; omega)
@[simp] theorem ints_length (l : List Int) : (ints l).length = l.length := by simp [ints]
theorem ints_get (l : List Int) (k : Nat) (h : k < l.length) : (ints l)[k]? = some (.int .i64 l[k]) := by simp [ints, h]
theorem tmod_cases (n m : Int) (hm : 0 < m) : (0 ≤ n.tmod m ∧ n.tmod m < m ∧ n % m = n.tmod m) ∨ (-m < n.tmod m ∧ n.tmod m < 0 ∧ n % m = n.tmod m + m) := by
  have h1 := Int.tmod_lt_of_pos n hm
  have h2 := Int.emod_nonneg n (show m ≠ 0 by omega)
  have h3 := Int.emod_lt_of_pos n hm
  have e1 : n = m * (n.tdiv m) + n.tmod m := (Int.mul_tdiv_add_tmod n m).symm
  have e2 : n = m * (n / m) + n % m := (Int.mul_ediv_add_emod n m).symm
  have h4 : -m < n.tmod m := by
    have := Int.tmod_lt_of_pos (-n) hm
    rw [Int.neg_tmod] at this
    omega
  have e3 : n.tmod m % m = n % m := by
    conv => rhs; rw [e1]
    rw [Int.mul_add_emod_self_left]
  by_cases h : 0 ≤ n.tmod m
  · left
    rw [Int.emod_eq_of_lt h h1] at e3
    exact ⟨h, h1, e3.symm⟩
  · right
    have : (n.tmod m + m) % m = n % m := by rw [Int.add_emod_right, e3]
    rw [Int.emod_eq_of_lt (by omega) (by omega)] at this
    exact ⟨h4, by omega, this.symm⟩
theorem foldl_take (xs : List Int) (k : Nat) (h : k < xs.length) : sumL (xs.take (k + 1)) = stp (sumL (xs.take k)) xs[k] := by
  unfold sumL; rw [List.take_succ_eq_append_getElem h, List.foldl_append]; rfl
theorem stp_of (h n r : Int) (hr : n % 2147483647 = r) (h0 : 0 ≤ h) (h1 : h < 2147483647) (r0 : 0 ≤ r) (r1 : r < 2147483647) : (Wr .i64 (Wr .i64 (Wr .i64 (h * 1000003) + r) + 1)).tmod 2147483647 = stp h n := by
  rw [Wr64 (h * 1000003) (by omega) (by omega), Wr64 (h * 1000003 + r) (by omega) (by omega), Wr64 (h * 1000003 + r + 1) (by omega) (by omega), Int.tmod_eq_emod_of_nonneg (by omega)]
  unfold stp; rw [hr]
theorem sum_spec (xs : List Int) (hx : xs.length ≤ 1000000) : Ctr Tryd.prog 55 [.sl 1 (ints xs)] (fun r => r = .int .i64 (sumL xs)) := by
  refine Ctr.of_body Tryd.func55 rfl tys_ok (by kernel_rfl) ?_
  conv => whnf
  refine cd_sound tys_ok _ ?_
  conv => whnf
  refine ACode.loopT (fun k : Nat => mk 27 [(0, .sl 1 (ints xs)), (3, .int .i64 (sumL (xs.take k))), (7, .sl 1 (ints xs)), (8, .int .i64 xs.length), (9, .int .i64 k)]) (fun _ => []) (fun k => k ≤ xs.length) (fun k => xs.length - k) ⟨0, ?_⟩ fun k hk => ?_
  · conv => whnf
    repeat (refine ⟨by first | rfl | simp, ?_⟩; conv => whnf)
    exact Nat.zero_le _
  · refine cd_sound tys_ok _ ?_
    have hb := sumL_bd (xs.take k)
    conv => whnf
    refine ⟨fun hlt => ?_, fun hge => ?_⟩
    · have hlt : k < xs.length := by simpa using hlt
      have hs := foldl_take xs k hlt
      have ht := tmod_cases xs[k] 2147483647 (by decide)
      conv => whnf
      refine ⟨by omega, .int .i64 xs[k], by simp [ints, hlt], ?_⟩
      conv => whnf
      refine ⟨by decide, ?_⟩
      conv => whnf
      refine ⟨fun hn => ?_, fun hn => ?_⟩
      all_goals
        have hn := hn
        simp at hn
        conv => whnf
        refine ⟨by decide, k + 1, ?_⟩
        conv => whnf
        refine ⟨rfl, ?_⟩
        conv => whnf
        refine ⟨?_, ?_⟩
        · rw [hs]
          first
            | exact stp_of _ _ _ (by omega) hb.1 hb.2 (by omega) (by omega)
            | (rw [Wr64 (xs[k].tmod 2147483647 + 2147483647) (by omega) (by omega)]; exact stp_of _ _ _ (by omega) hb.1 hb.2 (by omega) (by omega))
        conv => whnf
        refine ⟨rfl, ?_⟩
        conv => whnf
        refine ⟨rfl, ?_⟩
        conv => whnf
        refine ⟨by rw [Wr64 _ (by omega) (by omega)]; omega, ?_⟩
        conv => whnf
        exact ⟨rfl, by omega, by omega⟩
    · conv => whnf
      simp at hge
      rw [List.take_of_length_le hge]
end Go.Proofs.YtobdkjjakdjnaaaDoor

set_option linter.unusedVariables false
set_option linter.unusedSimpArgs false
namespace Go.Proofs.YtobdkjjakdjnaaaDoor
open Go.Av
/-- The bytes of a text as numbers. -/
def codes (s : List UInt8) : List Int := s.map fun b => (b.toNat : Int)
@[simp] theorem codes_length (s : List UInt8) : (codes s).length = s.length := by simp [codes]
theorem closed_ints (l : List Int) : ∀ e ∈ ints l, closed e = true := by
  intro e he; simp only [ints, List.mem_map] at he; obtain ⟨x, _, rfl⟩ := he; rfl
/-- What a list of numbers holds when the first k have been written. -/
def upto (l : List Int) (k : Nat) : List AV := ints (l.take k) ++ List.replicate (l.length - k) (.int .i64 0)
theorem upto_length (l : List Int) (k : Nat) (h : k ≤ l.length) : (upto l k).length = l.length := by simp [upto]; omega
theorem upto_get (l : List Int) (k : Nat) (h : k < l.length) : (upto l k)[k]? = some (.int .i64 0) := by
  unfold upto
  rw [List.getElem?_append_right (by simp; omega)]
  simp [List.getElem?_replicate]; omega
theorem upto_set (l : List Int) (k : Nat) (h : k < l.length) : (upto l k).set k (.int .i64 l[k]) = upto l (k + 1) := by
  unfold upto
  have hlen : (ints (l.take k)).length = k := by simp; omega
  rw [List.set_append_right _ _ (by omega), hlen, Nat.sub_self, List.take_succ_eq_append_getElem h]
  have : l.length - k = (l.length - (k + 1)) + 1 := by omega
  rw [this, List.replicate_succ]
  simp [ints, List.take_succ_eq_append_getElem (show k < (l.map (AV.int .i64)).length by simpa using h)]
theorem upto_zero (l : List Int) : upto l 0 = List.replicate l.length (.int .i64 0) := by simp [upto, ints]
theorem upto_all (l : List Int) (k : Nat) (h : l.length ≤ k) : upto l k = ints l := by
  unfold upto; rw [List.take_of_length_le h, show l.length - k = 0 by omega]; simp
theorem code_get (s : List UInt8) (k : Nat) (h : k < s.length) : ((s.getD k 0).toNat : Int) = (codes s)[k]'(by simpa using h) := by
  simp [codes, List.getD, List.getElem?_eq_getElem h]
theorem code_bd (s : List UInt8) (k : Nat) : ((s.getD k 0).toNat : Int) < 256 := by have := (s.getD k 0).toNat_lt; omega
theorem numbers_spec (s : List UInt8) (hs : s.length ≤ 1000000) : Ctr Tryd.prog 56 [.str s] (fun r => r = .sl 1 (ints (codes s))) := by
  refine Ctr.of_body Tryd.func56 rfl tys_ok (by kernel_rfl) ?_
  conv => whnf
  refine cd_sound tys_ok _ ?_
  conv => whnf
  refine ⟨⟨by omega, by omega, by omega⟩, ?_⟩
  conv => whnf
  refine ACode.loopT (fun k : Nat => mk 22 [(0, .str s), (3, .own 0 1 0 s.length), (9, .int .i64 s.length), (10, .int .i64 k)]) (fun k => [.arr 3 1 (upto (codes s) k)]) (fun k => k ≤ s.length) (fun k => s.length - k) ⟨0, ?_⟩ fun k hk => ?_
  · conv => whnf
    have h0 : List.replicate s.length (AV.int .i64 0) = upto (codes s) 0 := by rw [upto_zero, codes_length]
    repeat (refine ⟨by first | rfl | (rw [← h0]; rfl), ?_⟩; conv => whnf)
    exact Nat.zero_le _
  · refine cd_sound tys_ok _ ?_
    have hb := code_bd s k
    conv => whnf
    refine ⟨fun hlt => ?_, fun hge => ?_⟩
    · have hlt : k < s.length := by simpa using hlt
      conv => whnf
      refine ⟨⟨by omega, by omega⟩, ?_⟩
      conv => whnf
      refine ⟨⟨by omega, by omega⟩, ?_⟩
      conv => whnf
      refine ⟨.int .i64 0, by simpa using upto_get (codes s) k (by simpa using hlt), ?_⟩
      conv => whnf
      refine ⟨k + 1, ?_⟩
      have hw : Wr .i64 ((k : Int) + 1) = ((k + 1 : Nat) : Int) := by rw [Wr64 _ (by omega) (by omega)]; omega
      have hs' : (upto (codes s) k).set k (.int .i64 (Wr .i64 ((s.getD k 0).toNat : Int))) = upto (codes s) (k + 1) := by
        rw [Wr64 _ (by omega) (by omega), code_get s k hlt]; exact upto_set _ _ (by simpa using hlt)
      conv => whnf
      repeat (refine ⟨by first | rfl | exact hw | (simp only [Nat.zero_add, Int.toNat_natCast, hs']), ?_⟩; conv => whnf)
      exact ⟨by omega, by omega⟩
    · conv => whnf
      simp at hge
      rw [upto_all _ _ (by simpa using hge)]
      exact ⟨⟨by simp, closed_ints _⟩, rfl⟩
end Go.Proofs.YtobdkjjakdjnaaaDoor

set_option linter.unusedVariables false
set_option linter.unusedSimpArgs false
namespace Go.Proofs.YtobdkjjakdjnaaaDoor
open Go.Av
theorem Sum_spec (xs : List Int) (hx : xs.length ≤ 1000000) : Ctr Tryd.prog 34 [.sl 1 (ints xs)] (fun r => r = .int .i64 (sumL xs)) := by
  refine Ctr.of_body Tryd.func34 rfl tys_ok (by kernel_rfl) ?_
  conv => whnf
  refine cd_sound tys_ok _ ?_
  conv => whnf
  refine ACall.of_spec (sum_spec xs hx) rfl fun r hr => ?_
  subst hr
  conv => whnf
theorem Label_spec (s : List UInt8) (hs : s.length ≤ 1000000) : Ctr Tryd.prog 63 [.str s] (fun r => r = .int .i64 (sumL (codes s))) := by
  refine Ctr.of_body Tryd.func63 rfl tys_ok (by kernel_rfl) ?_
  conv => whnf
  refine cd_sound tys_ok _ ?_
  conv => whnf
  refine ACall.of_spec (numbers_spec s hs) rfl fun r hr => ?_
  subst hr
  conv => whnf
  refine ACall.of_spec (sum_spec (codes s) (by simpa using hs)) rfl fun r hr => ?_
  subst hr
  conv => whnf
/-- The element beside the one with an index. -/
def sib (row : List Int) (i : Int) : Int := if i % 2 = 1 then row.getD (i.toNat - 1) 0 else if i + 1 < row.length then row.getD (i.toNat + 1) 0 else -1
theorem ints_getD (l : List Int) (k : Nat) (h : k < l.length) : (ints l)[k]? = some (.int .i64 (l.getD k 0)) := by simp [ints, h]
theorem sibling_spec (row : List Int) (i : Int) (h0 : 0 ≤ i) (hi : i < row.length) (hr : row.length ≤ 1000000) : Ctr Tryd.prog 65 [.sl 1 (ints row), .int .i64 i] (fun r => r = .int .i64 (sib row i)) := by
  refine Ctr.of_body Tryd.func65 rfl tys_ok (by kernel_rfl) ?_
  conv => whnf
  refine cd_sound tys_ok _ ?_
  have hm : i.tmod 2 = i % 2 := Int.tmod_eq_emod_of_nonneg h0
  have hw : Wr .i64 (i + 1) = i + 1 := Wr64 _ (by omega) (by omega)
  have hw' : Wr .i64 (i - 1) = i - 1 := Wr64 _ (by omega) (by omega)
  conv => whnf
  refine ⟨by decide, ?_⟩
  conv => whnf
  refine ⟨fun ht => ?_, fun hf => ?_⟩
  · simp [hm] at ht
    conv => whnf
    rw [hw']
    refine ⟨by omega, .int .i64 (row.getD (i - 1).toNat 0), ints_getD _ _ (by omega), ?_⟩
    conv => whnf
    have e : (i - 1).toNat = i.toNat - 1 := by omega
    simp [sib, ht, e]
  · simp [hm] at hf
    conv => whnf
    refine ⟨fun ht => ?_, fun hf2 => ?_⟩
    · simp [hw] at ht
      conv => whnf
      rw [hw]
      refine ⟨by omega, .int .i64 (row.getD (i + 1).toNat 0), ints_getD _ _ (by omega), ?_⟩
      conv => whnf
      have e : (i + 1).toNat = i.toNat + 1 := by omega
      simp [sib, hf, ht, e]
    · simp [hw] at hf2
      conv => whnf
      have : ¬ (i + 1 < (row.length : Int)) := by omega
      simp [sib, hf, this]
end Go.Proofs.YtobdkjjakdjnaaaDoor

set_option linter.unusedVariables false
set_option linter.unusedSimpArgs false
namespace Go.Proofs.YtobdkjjakdjnaaaDoor
open Go.Av
/-- The inner nodes over the first k pairs of a row. -/
def upL (row : List Int) (k : Nat) : List Int := (List.range k).map fun j => sumL [1, row.getD (2 * j) 0, row.getD (2 * j + 1) 0]
/-- The row above a row. -/
def up (row : List Int) : List Int := upL row (row.length / 2) ++ if row.length % 2 = 1 then [row.getD (row.length - 1) 0] else []
theorem upL_succ (row : List Int) (k : Nat) : upL row (k + 1) = upL row k ++ [sumL [1, row.getD (2 * k) 0, row.getD (2 * k + 1) 0]] := by
  simp [upL, List.range_succ]
@[simp] theorem upL_length (row : List Int) (k : Nat) : (upL row k).length = k := by simp [upL]
theorem up_length (row : List Int) : (up row).length = (row.length + 1) / 2 := by
  unfold up; split <;> simp <;> omega
theorem ints_append (a b : List Int) : ints (a ++ b) = ints a ++ ints b := by simp [ints]
theorem peek {P : Program} {c : Code} {E : List AV} {H : List HO} {K : KK} {X : XX} (h : ∀ c K X, ACode P c E H K X) : ACode P c E H K X := h _ _ _
theorem upL_get0 (row : List Int) (k : Nat) (h : k < row.length) : (ints row)[k]? = some (.int .i64 (row.getD k 0)) := ints_getD row k h
theorem above_spec (row : List Int) (hr : row.length ≤ 1000000) : Ctr Tryd.prog 68 [.sl 1 (ints row)] (fun r => r = .sl 1 (ints (up row))) := by
  refine Ctr.of_body Tryd.func68 rfl tys_ok (by kernel_rfl) ?_
  conv => whnf
  refine cd_sound tys_ok _ ?_
  conv => whnf
  refine ACode.nilArr 3 3 1 rfl ?_
  refine ACode.loopD (fun k : Nat => mk 40 [(0, .sl 1 (ints row)), (3, .own 0 1 0 k), (4, .int .i64 (2 * k : Nat))]) (fun k => [.arr 3 1 (ints (upL row k))]) (fun k => 2 * k ≤ row.length) (fun k => row.length - 2 * k)
    (fun k hk => ⟨rfl, closed_ints _, trivial⟩) ⟨0, ?_⟩ (fun _ => rfl) fun k hk => ?_
  · conv => whnf
    repeat (refine ⟨by first | rfl, ?_⟩; conv => whnf)
    exact Nat.zero_le _
  · refine cd_sound tys_ok _ ?_
    have hw : Wr .i64 (((2 * k : Nat) : Int) + 1) = ((2 * k + 1 : Nat) : Int) := by rw [Wr64 _ (by omega) (by omega)]; omega
    have hw2 : Wr .i64 (((2 * k : Nat) : Int) + 2) = ((2 * (k + 1) : Nat) : Int) := by rw [Wr64 _ (by omega) (by omega)]; omega
    conv => whnf
    rw [hw]
    refine ⟨fun ht => ?_, fun hf => ?_⟩
    · have hlt : 2 * k + 1 < row.length := by simp at ht; omega
      conv => whnf
      refine ACode.draw [13] tys_ok (by kernel_rfl) (by kernel_rfl) ?_
      conv => whnf
      refine ⟨by omega, .int .i64 (row.getD (2 * k) 0), ints_getD _ _ (by omega), ?_⟩
      conv => whnf
      rw [hw]
      refine ⟨by omega, .int .i64 (row.getD (2 * k + 1) 0), ints_getD _ _ (by omega), ?_⟩
      conv => whnf
      refine ⟨⟨rfl, by simp [closed]⟩, ?_⟩
      conv => whnf
      refine ⟨.int .i64 (sumL [1, row.getD (2 * k) 0, row.getD (2 * k + 1) 0]), ⟨sum_spec [1, row.getD (2 * k) 0, row.getD (2 * k + 1) 0] (by simp), rfl⟩, ?_⟩
      conv => whnf
      refine ⟨rfl, ?_⟩
      conv => whnf
      refine ⟨⟨by simp, by simp; omega⟩, ?_⟩
      conv => whnf
      refine ⟨k + 1, ?_⟩
      conv => whnf
      have he : ints (upL row k) ++ [AV.int .i64 (sumL [1, row.getD (2 * k) 0, row.getD (2 * k + 1) 0])] = ints (upL row (k + 1)) := by rw [upL_succ, ints_append]; rfl
      rw [he]
      have hl : (ints (upL row (k + 1))).length = k + 1 := by simp
      repeat (refine ⟨by first | rfl | exact hw2 | (rw [hl]), ?_⟩; conv => whnf)
      exact ⟨by omega, by omega⟩
    · simp at hf
      conv => whnf
      have hm : (row.length : Int).tmod 2 = ((row.length % 2 : Nat) : Int) := by rw [Int.tmod_eq_emod_of_nonneg (by omega)]; omega
      have hk2 : row.length / 2 = k := by omega
      refine ⟨by decide, ?_⟩
      conv => whnf
      refine ⟨fun ht => ?_, fun hf => ?_⟩
      · simp [hm] at ht
        have hodd : row.length % 2 = 1 := by omega
        have hw3 : Wr .i64 ((row.length : Int) - 1) = ((row.length - 1 : Nat) : Int) := by rw [Wr64 _ (by omega) (by omega)]; omega
        conv => whnf
        rw [ints_length, hw3]
        refine ⟨by omega, .int .i64 (row.getD (row.length - 1) 0), ints_getD _ _ (by omega), ?_⟩
        conv => whnf
        repeat (refine ⟨by first | rfl | exact ⟨by simp, by simp; omega⟩, ?_⟩; conv => whnf)
        have he : ints (upL row k) ++ [AV.int .i64 (row.getD (row.length - 1) 0)] = ints (up row) := by rw [up, hk2, if_pos hodd, ints_append]; rfl
        rw [he]
        exact ⟨⟨rfl, closed_ints _⟩, rfl⟩
      · simp [hm] at hf
        have hev : ¬ row.length % 2 = 1 := by omega
        conv => whnf
        refine ⟨⟨by simp, closed_ints _⟩, ?_⟩
        simp [up, hk2, hev]
end Go.Proofs.YtobdkjjakdjnaaaDoor

set_option linter.unusedVariables false
set_option linter.unusedSimpArgs false
namespace Go.Proofs.YtobdkjjakdjnaaaDoor
open Go.Av
def strs (l : List (List UInt8)) : List AV := l.map AV.str
@[simp] theorem strs_length (l : List (List UInt8)) : (strs l).length = l.length := by simp [strs]
def leaf (s : List UInt8) : Int := sumL [0, sumL (codes s)]
def leaves (l : List (List UInt8)) : List Int := l.map leaf
@[simp] theorem leaves_length (l : List (List UInt8)) : (leaves l).length = l.length := by simp [leaves]
/-- Row k of the tree over a row. -/
def tier : Nat → List Int → List Int
  | 0, r => r
  | k + 1, r => up (tier k r)
/-- How many rows there are above one of n elements. -/
def height (n : Nat) : Nat := if n ≤ 1 then 0 else height ((n + 1) / 2) + 1
termination_by n
decreasing_by omega
def levels (r : List Int) : List (List Int) := (List.range (height r.length + 1)).map fun k => tier k r
theorem levels_length (r : List Int) : (levels r).length = height r.length + 1 := by simp [levels]
theorem levels_get (r : List Int) (k : Nat) (h : k ≤ height r.length) : (levels r)[k]? = some (tier k r) := by simp [levels, Nat.lt_succ_of_le h]
theorem tier_succ' (k : Nat) (r : List Int) : tier (k + 1) r = tier k (up r) := by
  induction k with
  | zero => rfl
  | succ k ih => show up (tier (k + 1) r) = up (tier k (up r)); rw [ih]
theorem tier_height : ∀ (k : Nat) (r : List Int), k ≤ height r.length → (1 < (tier k r).length ↔ k < height r.length)
  | 0, r, h => by
    rw [height]; show 1 < r.length ↔ _
    split <;> omega
  | k + 1, r, h => by
    rw [tier_succ']
    have hn : ¬ r.length ≤ 1 := fun hn => by rw [height, if_pos hn] at h; omega
    have e : height r.length = height (up r).length + 1 := by
      rw [height, if_neg hn, up_length]
    have := tier_height k (up r) (by omega)
    omega
theorem tier_length_le (k : Nat) (r : List Int) : (tier k r).length ≤ r.length := by
  induction k with
  | zero => exact Nat.le_refl _
  | succ k ih => show (up (tier k r)).length ≤ _; rw [up_length]; omega
theorem strs_get (l : List (List UInt8)) (k : Nat) (h : k < l.length) : (strs l)[k]? = some (.str l[k]) := by simp [strs, h]
def rowsOf (l : List (List UInt8)) : List (List Int) := if l = [] then [] else levels (leaves l)
def xsOf (l : List (List UInt8)) : List (List AV) := (rowsOf l).map fun r => [.sl 1 (ints r)]
set_option maxRecDepth 100000 in
theorem rows_its (l : List (List UInt8)) (hl : l.length ≤ 1000000) (hs : ∀ s ∈ l, s.length ≤ 1000000) : Its Tryd.prog 67 [.at_ [.sl 1 (strs l)]] (xsOf l) := by
  refine Its.of_body Tryd.func67 rfl tys_ok (by kernel_rfl) rfl fun y I Ix hy => ?_
  conv => whnf
  refine cd_sound tys_ok _ ?_
  conv => whnf
  refine ⟨fun ht => ?_, fun hf => ?_⟩
  · simp at ht
    have : l = [] := by cases l <;> simp_all
    subst this
    conv => whnf
    exact .inl rfl
  · simp at hf
    have hne : l ≠ [] := by rintro rfl; simp at hf
    have hll := strs_length l
    conv => whnf
    refine ⟨⟨by omega, by omega, by omega⟩, ?_⟩
    conv => whnf
    refine ACode.loopD (fun k : Nat => mk 37 [(0, .raw (.func (.yield y) #[] #[])), (1, .at_ [.sl 1 (strs l)]), (3, .own 1 1 0 l.length), (12, .sl 1 (strs l)), (13, .int .i64 l.length), (14, .int .i64 k)]) (fun k => [.inv (I 0), .arr 3 1 (upto (leaves l) k)])
      (fun k => k ≤ l.length) (fun k => l.length - k) (fun k hk => ⟨rfl, ?_, trivial⟩) ⟨0, ?_⟩ (fun _ => rfl) fun k hk => ?_
    · intro e he
      simp only [upto, List.mem_append, List.mem_replicate] at he
      rcases he with he | ⟨_, rfl⟩
      · exact closed_ints _ e he
      · rfl
    · have h0 : List.replicate ((strs l).length : Int).toNat (AV.int .i64 0) = upto (leaves l) 0 := by rw [upto_zero]; simp
      conv => whnf
      repeat (refine ⟨by first | rfl | (simp; done) | (simp only [h0]), ?_⟩; conv => whnf)
      exact Nat.zero_le _
    · refine cd_sound tys_ok _ ?_
      conv => whnf
      refine ⟨fun ht => ?_, fun hf => ?_⟩
      · have hlt : k < l.length := by simpa using ht
        have hsk := hs l[k] (List.getElem_mem hlt)
        conv => whnf
        refine ⟨by omega, .str l[k], strs_get l k hlt, ?_⟩
        conv => whnf
        refine ACall.of_spec (Label_spec l[k] hsk) rfl fun r hr => ?_
        subst hr
        conv => whnf
        refine ACall.of_vcall ⟨⟨rfl, by simp [closed]⟩, .int .i64 (leaf l[k]), ⟨sum_spec [0, sumL (codes l[k])] (by simp), rfl⟩, ?_⟩ (by kernel_rfl)
        conv => whnf
        refine ⟨⟨by omega, by omega⟩, ?_⟩
        conv => whnf
        refine ⟨.int .i64 0, by simpa using upto_get (leaves l) k (by simpa using hlt), ?_⟩
        conv => whnf
        refine ⟨k + 1, ?_⟩
        have hw : Wr .i64 ((k : Int) + 1) = ((k + 1 : Nat) : Int) := by rw [Wr64 _ (by omega) (by omega)]; omega
        have hs' : (upto (leaves l) k).set k (.int .i64 (leaf l[k])) = upto (leaves l) (k + 1) := by
          have := upto_set (leaves l) k (by simpa using hlt)
          rw [← this]; simp [leaves]
        conv => whnf
        repeat (refine ⟨by first | rfl | exact hw | (simp only [Nat.zero_add, Int.toNat_natCast, hs']), ?_⟩; conv => whnf)
        exact ⟨by omega, by omega⟩
      · simp at hf
        conv => whnf
        have hall : upto (leaves l) k = ints (leaves l) := upto_all _ _ (by simpa using hf)
        rw [hall]
        refine ACode.freeze 1 ?_
        have hn : l.length = (ints (leaves l)).length := by simp
        conv => whnf
        refine ⟨closed_ints _, ?_⟩
        conv => whnf
        repeat (refine ⟨hn, ?_⟩; conv => whnf)
        have hxs : (xsOf l).length = height (leaves l).length + 1 := by simp [xsOf, rowsOf, hne, levels_length]
        have hget : ∀ j, j ≤ height (leaves l).length → (xsOf l)[j]? = some [.sl 1 (ints (tier j (leaves l)))] := fun j hj => by
          simp [xsOf, rowsOf, hne, levels_get (leaves l) j hj]
        refine ACode.loopT (fun j : Nat => mk 37 [(0, .raw (.func (.yield y) #[] #[])), (3, .sl 1 (ints (tier j (leaves l))))]) (fun j => [.inv (I j), .dead]) (fun j => j ≤ height (leaves l).length) (fun j => height (leaves l).length - j) ⟨0, ?_⟩ fun j hj => ?_
        · conv => whnf
          repeat (refine ⟨rfl, ?_⟩; conv => whnf)
          exact Nat.zero_le _
        · refine cd_sound tys_ok _ ?_
          have hT := tier_height j (leaves l) hj
          have hlen := tier_length_le j (leaves l)
          rw [leaves_length] at hlen
          conv => whnf
          refine ⟨rfl, I (j + 1), Ix, hy j _ (hget j hj), ?_, ?_⟩
          · conv => whnf
            refine ⟨fun ht => ?_, fun hf => ?_⟩
            · simp at ht
              conv => whnf
              refine ACall.of_spec (above_spec (tier j (leaves l)) (by omega)) rfl fun r hr => ?_
              subst hr
              conv => whnf
              refine ⟨j + 1, ?_⟩
              conv => whnf
              repeat (refine ⟨rfl, ?_⟩; conv => whnf)
              exact ⟨by omega, by omega⟩
            · simp at hf
              conv => whnf
              left
              rw [hxs]
              congr 1
              omega
          · conv => whnf
            exact .inr rfl
end Go.Proofs.YtobdkjjakdjnaaaDoor

set_option linter.unusedVariables false
set_option linter.unusedSimpArgs false
namespace Go.Proofs.YtobdkjjakdjnaaaDoor
open Go.Av
def rowsA (rs : List (List Int)) : List AV := rs.map fun r => .sl 1 (ints r)
@[simp] theorem rowsA_length (rs : List (List Int)) : (rowsA rs).length = rs.length := by simp [rowsA]
theorem closed_rowsA (rs : List (List Int)) : ∀ e ∈ rowsA rs, closed e = true := by
  intro e he; simp only [rowsA, List.mem_map] at he; obtain ⟨x, _, rfl⟩ := he; rfl
theorem rowsA_get (rs : List (List Int)) (k : Nat) (h : k < rs.length) : (rowsA rs)[k]? = some (.sl 1 (ints rs[k])) := by simp [rowsA, h]
theorem rowsA_take_succ (rs : List (List Int)) (k : Nat) (h : k < rs.length) : rowsA (rs.take k) ++ [.sl 1 (ints rs[k])] = rowsA (rs.take (k + 1)) := by
  rw [List.take_succ_eq_append_getElem h]; unfold rowsA; rw [List.map_append]; rfl
theorem LeE_of {E E0 : List AV} (h : leK E E0 True) : LeE E E0 := (leK_iff _ _ _ h).1
def seqH (rs : List (List Int)) (vs : List Value) (k : Nat) : List HO :=
  [.cells [.own 1 1 0 (rs.take k).length], .arr 22 1 (rowsA (rs.take k)), .ghost (mk 13 [(2, .ptr 0 0)]) vs []]
theorem rows_spec (l : List (List UInt8)) : Ctr Tryd.prog 49 [.sl 1 (strs l)] (fun r => r = .fn 67 [.at_ [.sl 1 (strs l)]]) := by
  refine Ctr.of_body Tryd.func49 rfl tys_ok (by kernel_rfl) ?_
  conv => whnf
  refine cd_sound tys_ok _ ?_
  conv => whnf
theorem height_le (n : Nat) : height n ≤ n := by
  induction n using Nat.strongRecOn with
  | _ n ih =>
    rw [height]
    split
    · omega
    · have := ih ((n + 1) / 2) (by omega); omega
theorem rowsOf_length (l : List (List UInt8)) : (rowsOf l).length ≤ l.length + 1 := by
  unfold rowsOf
  split
  · simp
  · rw [levels_length]; have := height_le (leaves l).length; simp at this ⊢; omega
/-- What Tree returns. -/
def treeOf (l : List (List UInt8)) : List (List Int) := if 1000 < l.length then [] else rowsOf l
end Go.Proofs.YtobdkjjakdjnaaaDoor

set_option linter.unusedVariables false
set_option linter.unusedSimpArgs false
namespace Go.Proofs.YtobdkjjakdjnaaaDoor
open Go.Av
theorem up_pos (r : List Int) (h : 0 < r.length) : 0 < (up r).length := by rw [up_length]; omega
theorem tier_pos (k : Nat) (r : List Int) (h : 0 < r.length) : 0 < (tier k r).length := by
  induction k with
  | zero => exact h
  | succ k ih => exact up_pos _ ih
theorem rowsOf_get (l : List (List UInt8)) (k : Nat) (h : k < (rowsOf l).length) : l ≠ [] ∧ k ≤ height l.length ∧ (rowsOf l)[k] = tier k (leaves l) := by
  unfold rowsOf at h ⊢
  split at h
  · simp at h
  · rename_i hn
    rw [levels_length, leaves_length] at h
    refine ⟨hn, by omega, ?_⟩
    simp only [hn, if_false]
    have := levels_get (leaves l) k (by rw [leaves_length]; omega)
    rw [List.getElem?_eq_getElem (by rw [levels_length, leaves_length]; omega)] at this
    simpa using this
/-- The root after k rows. -/
def rootL (rs : List (List Int)) (k : Nat) : Int := if k = 0 then 7 else (rs.getD (k - 1) []).getD 0 0
def rootOf (l : List (List UInt8)) : Int := if 1000 < l.length then 0 else rootL (rowsOf l) (rowsOf l).length
set_option maxRecDepth 100000 in
theorem Root_spec (l : List (List UInt8)) (hl : l.length ≤ 1000000) (hs : ∀ s ∈ l, s.length ≤ 1000000) : Ctr Tryd.prog 21 [.sl 1 (strs l)] (fun r => r = .int .i64 (rootOf l)) := by
  refine Ctr.of_body Tryd.func21 rfl tys_ok (by kernel_rfl) ?_
  conv => whnf
  refine cd_sound tys_ok _ ?_
  conv => whnf
  refine ⟨fun ht => ?_, fun hf => ?_⟩
  · simp at ht
    have ht : 1000 < l.length := by omega
    conv => whnf
    simp [rootOf, ht]
  · simp at hf
    conv => whnf
    refine ACall.of_spec (rows_spec l) rfl fun r hr => ?_
    subst hr
    conv => whnf
    refine ACode.rangeFunc (E0 := mk 15 [(3, .ptr 0 0)]) (xs := xsOf l) (LeE_of ?_) rfl rfl (rows_its l hl hs) rfl (fun vs k => [.cells [.int .i64 (rootL (rowsOf l) k)], .ghost (mk 15 [(3, .ptr 0 0)]) vs []]) (fun _ _ _ => False) (fun vs => rfl)
      (fun vs k => ⟨rfl, rfl, rfl, rfl, trivial⟩) (fun vs k x hx => ?_) (fun vs => ?_) (fun _ _ _ h => h.elim)
    · conv => whnf
      exact ⟨rfl, trivial⟩
    · have hk : k < (rowsOf l).length := by
        have := (List.getElem?_eq_some_iff.1 hx).1; simpa [xsOf] using this
      obtain ⟨h1, h2, h3⟩ := rowsOf_get l k hk
      have hpos : 0 < (rowsOf l)[k].length := by rw [h3]; exact tier_pos k _ (by simp; exact List.length_pos_iff.2 h1)
      have hx' : x = [.sl 1 (ints (rowsOf l)[k])] := by simpa [hk, xsOf] using hx.symm
      subst hx'
      refine ⟨rfl, ?_⟩
      refine cd_sound tys_ok _ ?_
      conv => whnf
      refine cd_sound tys_ok _ ?_
      conv => whnf
      refine ⟨by omega, .int .i64 ((rowsOf l)[k].getD 0 0), ints_getD _ _ hpos, ?_⟩
      conv => whnf
      have e : rootL (rowsOf l) (k + 1) = (rowsOf l)[k].getD 0 0 := by simp [rootL, hk]
      refine ⟨by rw [e], ?_⟩
      conv => whnf
      exact ⟨rfl, trivial⟩
    · conv => whnf
      simp [rootOf, xsOf, show ¬ 1000 < l.length by omega]
theorem tier_idx (n : Nat) (r : List Int) (h : n < r.length) : ∀ k, n / 2 ^ k < (tier k r).length
  | 0 => by simpa [tier] using h
  | k + 1 => by
    show n / 2 ^ (k + 1) < (up (tier k r)).length
    have := tier_idx n r h k
    rw [up_length, Nat.pow_succ, ← Nat.div_div_eq_div_mul]
    omega
/-- The path from leaf n after k rows. -/
def pathL (r : List Int) (n k : Nat) : List Int := (List.range (min k (height r.length))).map fun j => sib (tier j r) ((n / 2 ^ j : Nat) : Int)
@[simp] theorem pathL_length (r : List Int) (n k : Nat) : (pathL r n k).length = min k (height r.length) := by simp [pathL]
theorem pathL_succ (r : List Int) (n k : Nat) (h : k < height r.length) : pathL r n (k + 1) = pathL r n k ++ [sib (tier k r) ((n / 2 ^ k : Nat) : Int)] := by
  unfold pathL
  rw [Nat.min_eq_left (by omega), Nat.min_eq_left (by omega), List.range_succ]; simp
theorem pathL_stop (r : List Int) (n k : Nat) (h : height r.length ≤ k) : pathL r n (k + 1) = pathL r n k := by
  unfold pathL
  rw [Nat.min_eq_right (by omega), Nat.min_eq_right (by omega)]
def pathOf (l : List (List UInt8)) (i : Int) : List Int := if 1000 < l.length ∨ i < 0 ∨ (l.length : Int) ≤ i then [] else pathL (leaves l) i.toNat (height l.length)
def pathH (l : List (List UInt8)) (n : Nat) (vs : List Value) (k : Nat) : List HO :=
  [.cells [.int .i64 (n / 2 ^ (min k (height l.length)) : Nat)], .cells [.own 2 1 0 (min k (height l.length))], .arr 3 1 (ints (pathL (leaves l) n k)), .ghost (mk 35 [(3, .ptr 0 0), (5, .ptr 1 0)]) vs []]
set_option maxRecDepth 100000 in
theorem Path_spec (l : List (List UInt8)) (i : Int) (hl : l.length ≤ 1000000) (hs : ∀ s ∈ l, s.length ≤ 1000000) : Ctr Tryd.prog 41 [.sl 1 (strs l), .int .i64 i] (fun r => r = .sl 1 (ints (pathOf l i))) := by
  refine Ctr.of_body Tryd.func41 rfl tys_ok (by kernel_rfl) ?_
  conv => whnf
  refine cd_sound tys_ok _ ?_
  conv => whnf
  have bad : 1000 < l.length ∨ i < 0 ∨ (l.length : Int) ≤ i → ∃ sz, AV.sl sz [] = AV.sl 1 (ints (pathOf l i)) := fun h => ⟨1, by simp [pathOf, h, ints]⟩
  refine ⟨fun hf => ?_, fun ht => ?_⟩
  rotate_left
  · simp at ht
    conv => whnf
    exact bad (by omega)
  · simp at hf
    conv => whnf
    refine ⟨fun hf2 => ?_, fun ht => ?_⟩
    rotate_left
    · simp at ht
      conv => whnf
      exact bad (by omega)
    · simp at hf2
      conv => whnf
      refine ⟨fun ht => ?_, fun hf3 => ?_⟩
      · simp at ht
        conv => whnf
        exact bad (by omega)
      · simp at hf3
        conv => whnf
        obtain ⟨n, rfl⟩ := Int.eq_ofNat_of_zero_le hf2
        refine ACall.of_spec (rows_spec l) rfl fun r hr => ?_
        subst hr
        conv => whnf
        refine ACode.nilCell 1 0 3 1 rfl rfl ?_
        refine ACode.rangeFunc (E0 := mk 35 [(3, .ptr 0 0), (5, .ptr 1 0)]) (xs := xsOf l) (LeE_of ?_) rfl rfl (rows_its l hl hs) rfl (pathH l n) (fun _ _ _ => False) (fun vs => by simp [pathH, pathL, ints])
          (fun vs k => ⟨rfl, rfl, rfl, rfl, closed_ints _, rfl, trivial⟩) (fun vs k x hx => ?_) (fun vs => ?_) (fun _ _ _ h => h.elim)
        · conv => whnf
          exact ⟨rfl, rfl, trivial⟩
        · have hk : k < (rowsOf l).length := by
            have := (List.getElem?_eq_some_iff.1 hx).1; simpa [xsOf] using this
          obtain ⟨h1, h2, h3⟩ := rowsOf_get l k hk
          have hx' : x = [.sl 1 (ints (tier k (leaves l)))] := by rw [← h3]; simpa [hk, xsOf] using hx.symm
          subst hx'
          have hT := tier_height k (leaves l) (by simpa using h2)
          have hidx := tier_idx n (leaves l) (by simp; omega) k
          have hlen := tier_length_le k (leaves l)
          simp only [leaves_length] at hT hidx hlen
          refine ⟨rfl, ?_⟩
          refine cd_sound tys_ok _ ?_
          conv => whnf
          refine cd_sound tys_ok _ ?_
          conv => whnf
          refine ⟨fun ht => ?_, fun hf => ?_⟩
          · simp at ht
            conv => whnf
            refine ACode.draw [5, 6] tys_ok (by kernel_rfl) (by kernel_rfl) ?_
            conv => whnf
            have hkh : k < height l.length := by omega
            have hmin : min k (height l.length) = k := Nat.min_eq_left (by omega)
            have hmin1 : min (k + 1) (height l.length) = k + 1 := Nat.min_eq_left (by omega)
            have hpl : (ints (pathL (leaves l) n k)).length = k := by simp [hmin]
            have hpl1 : (ints (pathL (leaves l) n (k + 1))).length = k + 1 := by simp [hmin1]
            have hhl := height_le l.length
            have he : ints (pathL (leaves l) n k) ++ [AV.int .i64 (sib (tier k (leaves l)) ((n / 2 ^ k : Nat) : Int))] = ints (pathL (leaves l) n (k + 1)) := by
              rw [pathL_succ _ _ _ (by simpa using hkh), ints_append]; rfl
            have hdiv : Wr .i64 (((n / 2 ^ k : Nat) : Int).tdiv 2) = ((n / 2 ^ (k + 1) : Nat) : Int) := by
              have h1 : n / 2 ^ k ≤ n := Nat.div_le_self _ _
              rw [Nat.pow_succ, ← Nat.div_div_eq_div_mul]
              generalize n / 2 ^ k = m at h1 ⊢
              rw [Int.tdiv_eq_ediv_of_nonneg (by omega), Wr64 _ (by omega) (by omega)]
              omega
            rw [hmin]
            refine ⟨_, ⟨sibling_spec (tier k (leaves l)) ((n / 2 ^ k : Nat) : Int) (Int.natCast_nonneg _) (Int.ofNat_lt.2 hidx) (by omega), rfl⟩, ?_⟩
            conv => whnf
            refine ⟨rfl, ?_⟩
            conv => whnf
            rw [hpl, he, hpl1]
            refine ⟨⟨rfl, by omega⟩, ?_⟩
            conv => whnf
            refine ⟨by decide, ?_⟩
            conv => whnf
            rw [hmin, hdiv]
            refine ⟨by rw [hmin1], ?_⟩
            conv => whnf
            refine ⟨by rw [hmin1], ?_⟩
            conv => whnf
            exact ⟨rfl, rfl, trivial⟩
          · simp at hf
            have hkh : height l.length ≤ k := by omega
            have hmin : min (k + 1) (height l.length) = min k (height l.length) := by omega
            conv => whnf
            refine ⟨by rw [hmin], ?_⟩
            conv => whnf
            refine ⟨by rw [hmin], ?_⟩
            conv => whnf
            refine ⟨by rw [pathL_stop _ _ _ (by simpa using hkh)], ?_⟩
            conv => whnf
            exact ⟨rfl, trivial⟩
        · have hne : l ≠ [] := by rintro rfl; simp at hf3; omega
          have hx : (xsOf l).length = height l.length + 1 := by simp [xsOf, rowsOf, hne, levels_length]
          have hp : pathL (leaves l) n (height l.length + 1) = pathL (leaves l) n (height l.length) := pathL_stop _ _ _ (by simp)
          rw [hx]
          conv => whnf
          rw [hp]
          refine ⟨⟨by simp, closed_ints _⟩, ?_⟩
          rw [pathOf, if_neg (by omega)]
          simp
end Go.Proofs.YtobdkjjakdjnaaaDoor

set_option linter.unusedVariables false
set_option linter.unusedSimpArgs false
namespace Go.Proofs.YtobdkjjakdjnaaaDoor
open Go.Av
def outB (n : Int) : Bool := decide (n < -1) || decide (2147483647 ≤ n)
theorem outside_spec (n : Int) : Ctr Tryd.prog 52 [.int .i64 n] (fun r => r = .bool (outB n)) := by
  refine Ctr.of_body Tryd.func52 rfl tys_ok (by kernel_rfl) ?_
  conv => whnf
  refine cd_sound tys_ok _ ?_
  conv => whnf
  refine ⟨fun hf => ?_, fun ht => ?_⟩
  · conv => whnf
    simp only [outB]; rw [hf]; rfl
  · conv => whnf
    simp only [outB]; rw [ht]; rfl
/-- The index of the first element that is so, from k on; -1 if there is none. -/
def ixFrom (p : Int → Bool) : Nat → List Int → Int
  | _, [] => -1
  | k, x :: r => if p x = true then k else ixFrom p (k + 1) r
theorem ixFrom_any (p : Int → Bool) : ∀ (l : List Int) (k : Nat), decide (0 ≤ ixFrom p k l) = l.any p
  | [], k => by simp [ixFrom]
  | x :: r, k => by
    unfold ixFrom
    cases h : p x with
    | true => simp [h]
    | false => simp only [List.any_cons, h, Bool.false_or]; exact ixFrom_any p r (k + 1)
theorem indexFunc_spec {f : FuncId} {cap : List AV} (hc : closeds cap = true) (p : Int → Bool) (hp : ∀ n, Ctr Tryd.prog f (.int .i64 n :: cap) (fun r => r = .bool (p n))) (xs : List Int) (hx : xs.length ≤ 1000000) :
    Ctr Tryd.prog 69 [.sl 1 (ints xs), .fn f cap] (fun r => r = .int .i64 (ixFrom p 0 xs)) := by
  refine Ctr.of_body Tryd.func69 rfl tys_ok (by kernel_rfl) ?_
  conv => whnf
  refine cd_sound tys_ok _ ?_
  conv => whnf
  refine ACode.loopT (fun k : Nat => mk 19 [(0, .sl 1 (ints xs)), (1, .fn f cap), (7, .int .i64 xs.length), (8, .int .i64 k)]) (fun _ => []) (fun k => k ≤ xs.length ∧ ixFrom p 0 xs = ixFrom p k (xs.drop k)) (fun k => xs.length - k) ⟨0, ?_⟩ fun k hk => ?_
  · conv => whnf
    repeat (refine ⟨by first | rfl | (simp; done), ?_⟩; conv => whnf)
    first | exact ⟨Nat.zero_le _, rfl⟩ | exact rfl
  · obtain ⟨hk, hix⟩ := hk
    refine cd_sound tys_ok _ ?_
    conv => whnf
    refine ⟨fun hlt => ?_, fun hge => ?_⟩
    · have hlt : k < xs.length := by simpa using hlt
      have hd : xs.drop k = xs[k] :: xs.drop (k + 1) := List.drop_eq_getElem_cons hlt
      rw [hd, ixFrom] at hix
      conv => whnf
      refine ⟨by omega, .int .i64 xs[k], ints_get _ _ hlt, ?_⟩
      conv => whnf
      refine ACall.of_spec (hp xs[k]) (by simpa [closeds, closed] using hc) fun r hr => ?_
      subst hr
      conv => whnf
      refine ⟨fun ht => ?_, fun hf => ?_⟩
      · conv => whnf
        rw [hix, if_pos ht]
      · rw [if_neg (by simp [hf])] at hix
        conv => whnf
        refine ⟨k + 1, ?_⟩
        conv => whnf
        repeat (refine ⟨by first | rfl | (rw [Wr64 _ (by omega) (by omega)]; omega), ?_⟩; conv => whnf)
        exact ⟨⟨by omega, hix⟩, by omega⟩
    · conv => whnf
      simp at hge
      rw [hix, List.drop_eq_nil_of_le hge]
      rfl
theorem containsFunc_spec {f : FuncId} {cap : List AV} (hc : closeds cap = true) (p : Int → Bool) (hp : ∀ n, Ctr Tryd.prog f (.int .i64 n :: cap) (fun r => r = .bool (p n))) (xs : List Int) (hx : xs.length ≤ 1000000) :
    Ctr Tryd.prog 53 [.sl 1 (ints xs), .fn f cap] (fun r => r = .bool (xs.any p)) := by
  refine Ctr.of_body Tryd.func53 rfl tys_ok (by kernel_rfl) ?_
  conv => whnf
  refine cd_sound tys_ok _ ?_
  conv => whnf
  refine ACall.of_spec (indexFunc_spec hc p hp xs hx) (by simpa [closeds, closed] using hc) fun r hr => ?_
  subst hr
  conv => whnf
  rw [ixFrom_any]
def cmpH (rs : List (List Int)) : List HO := [.cells [.own 1 1 0 rs.length], .arr 22 1 (rowsA rs)]
theorem rowsA_append (a b : List (List Int)) : rowsA (a ++ b) = rowsA a ++ rowsA b := by simp [rowsA]
set_option maxRecDepth 100000 in
theorem compute_spec (rs : List (List Int)) (nums : List Int) (hn : nums.length ≤ 1000000) (hr : rs.length ≤ 1000000) :
    HCtr Tryd.prog 54 [.sl 1 (ints nums), .ptr 0 0] (cmpH rs) (fun r H1 => r = .int .i64 (sumL nums) ∧ H1 = cmpH (rs ++ [nums])) (fun _ _ => False) := by
  refine HCtr.of_body Tryd.func54 rfl tys_ok (by kernel_rfl) rfl ?_
  conv => whnf
  refine cd_sound tys_ok _ ?_
  conv => whnf
  refine ⟨rfl, ?_⟩
  conv => whnf
  refine ⟨⟨by simp, by simp; omega⟩, ?_⟩
  conv => whnf
  refine ACall.of_spec (sum_spec nums hn) rfl fun r hr => ?_
  subst hr
  conv => whnf
  have e : rowsA rs ++ [.sl 1 (ints nums)] = rowsA (rs ++ [nums]) := by rw [rowsA_append]; rfl
  rw [e]
  refine ⟨closed_rowsA _, rfl, ?_⟩
  simp [cmpH]
end Go.Proofs.YtobdkjjakdjnaaaDoor

set_option linter.unusedVariables false
set_option linter.unusedSimpArgs false
namespace Go.Proofs.YtobdkjjakdjnaaaDoor
open Go.Av
/-- The state of climbing: the digest, the lists, the index. -/
structure Cl where
  d : Int
  ls : List (List Int)
  n : Nat
def clStep (c : Cl) (b : Int) : Cl :=
  if b = -1 then { c with n := c.n / 2 }
  else if c.n % 2 = 1 then { d := sumL [1, b, c.d], ls := c.ls ++ [[1, b, c.d]], n := c.n / 2 }
  else { d := sumL [1, c.d, b], ls := c.ls ++ [[1, c.d, b]], n := c.n / 2 }
def cl0 (s : List UInt8) (n : Nat) : Cl := { d := leaf s, ls := [codes s, [0, sumL (codes s)]], n }
def clFold (s : List UInt8) (n : Nat) (path : List Int) : Cl := path.foldl clStep (cl0 s n)
theorem clFold_take (s : List UInt8) (n : Nat) (path : List Int) (k : Nat) (h : k < path.length) : clFold s n (path.take (k + 1)) = clStep (clFold s n (path.take k)) path[k] := by
  unfold clFold; rw [List.take_succ_eq_append_getElem h, List.foldl_append]; rfl
theorem clFold_len (s : List UInt8) (n : Nat) (path : List Int) : (clFold s n path).ls.length ≤ path.length + 2 := by
  unfold clFold
  suffices h : ∀ c : Cl, (path.foldl clStep c).ls.length ≤ path.length + c.ls.length from h (cl0 s n)
  induction path with
  | nil => intro c; simp
  | cons b r ih =>
    intro c
    have := ih (clStep c b)
    have h2 : (clStep c b).ls.length ≤ c.ls.length + 1 := by unfold clStep; split <;> (try split) <;> simp
    simp only [List.foldl_cons, List.length_cons]; omega
theorem clFold_n (s : List UInt8) (n : Nat) (path : List Int) : (clFold s n path).n ≤ n := by
  unfold clFold
  suffices h : ∀ c : Cl, (path.foldl clStep c).n ≤ c.n from h (cl0 s n)
  induction path with
  | nil => intro c; simp
  | cons b r ih =>
    intro c
    have := ih (clStep c b)
    have h2 : (clStep c b).n ≤ c.n := by unfold clStep; split <;> (try split) <;> (simp; omega)
    simp only [List.foldl_cons]; omega
def badClimb (i : Int) (path : List Int) : Prop := i < 0 ∨ 20 < path.length ∨ path.any outB = true
instance (i : Int) (path : List Int) : Decidable (badClimb i path) := by unfold badClimb; infer_instance
/-- What Climb returns. -/
def climbOf (s : List UInt8) (i : Int) (path : List Int) : Int × List (List Int) := if badClimb i path then (0, []) else ((clFold s i.toNat path).d, (clFold s i.toNat path).ls)
def clHp (s : List UInt8) (n : Nat) (path : List Int) (k : Nat) : List HO := cmpH (clFold s n (path.take k)).ls ++ [.dead]
set_option maxRecDepth 100000 in
theorem Climb_spec (s : List UInt8) (i : Int) (path : List Int) (hs : s.length ≤ 1000000) (hi : i ≤ 9223372036854775807) (hp : path.length ≤ 1000000) :
    Ctr Tryd.prog 28 [.str s, .int .i64 i, .sl 1 (ints path)] (fun r => r = .tuple [.int .i64 (climbOf s i path).1, .sl 1 (rowsA (climbOf s i path).2)]) := by
  refine Ctr.of_body Tryd.func28 rfl tys_ok (by kernel_rfl) ?_
  conv => whnf
  refine cd_sound tys_ok _ ?_
  conv => whnf
  have bad : badClimb i path → ∃ sz, AV.tuple [.int .i64 0, .sl sz []] = AV.tuple [.int .i64 (climbOf s i path).1, .sl 1 (rowsA (climbOf s i path).2)] := fun h => ⟨1, by simp [climbOf, h, rowsA]⟩
  refine ⟨fun hf1 => ?_, fun ht => ?_⟩
  rotate_left
  · simp at ht
    conv => whnf
    exact bad (.inl ht)
  · simp at hf1
    conv => whnf
    refine ⟨fun hf2 => ?_, fun ht => ?_⟩
    rotate_left
    · simp at ht
      conv => whnf
      exact bad (.inr (.inl (by omega)))
    · simp at hf2
      conv => whnf
      refine ACall.of_spec (containsFunc_spec rfl outB outside_spec path hp) rfl fun r hr => ?_
      subst hr
      conv => whnf
      refine ⟨fun ht => ?_, fun hf3 => ?_⟩
      · conv => whnf
        exact bad (.inr (.inr ht))
      · have hgood : ¬ badClimb i path := by unfold badClimb; rw [hf3]; simp; omega
        obtain ⟨n, rfl⟩ := Int.eq_ofNat_of_zero_le hf1
        conv => whnf
        refine ACall.of_spec (numbers_spec s hs) rfl fun r hr => ?_
        subst hr
        conv => whnf
        refine ACall.nilCell 0 0 22 1 rfl rfl ?_
        refine ACall.of_h (compute_spec [] (codes s) (by simpa using hs) (by simp)) rfl ?_ (fun r H1 h => ?_) (fun _ _ h => h.elim)
        · exact ⟨rfl, rfl, rfl, closed_rowsA _, trivial⟩
        · obtain ⟨rfl, rfl⟩ := h
          conv => whnf
          refine ACall.freeze 2 ?_ (by kernel_rfl)
          conv => whnf
          refine ⟨by simp [closed], ?_⟩
          conv => whnf
          refine ⟨rfl, ?_⟩
          conv => whnf
          refine ⟨rfl, ?_⟩
          conv => whnf
          refine ACall.of_h (compute_spec ([] ++ [codes s]) [0, sumL (codes s)] (by simp) (by simp)) rfl ?_ (fun r H1 h => ?_) (fun _ _ h => h.elim)
          · exact ⟨rfl, rfl, rfl, closed_rowsA _, trivial⟩
          · obtain ⟨rfl, rfl⟩ := h
            conv => whnf
            have hc0 : clFold s n (path.take 0) = cl0 s n := rfl
            refine ACode.loopD (fun k : Nat => mk 62 [(1, .int .i64 (clFold s n (path.take k)).n), (9, .ptr 0 0), (10, .fn 54 [.ptr 0 0]), (11, .int .i64 (clFold s n (path.take k)).d), (34, .sl 1 (ints path)), (35, .int .i64 path.length), (36, .int .i64 k)])
              (fun k => [.cells [.own 1 1 0 (clFold s n (path.take k)).ls.length], .arr 22 1 (rowsA (clFold s n (path.take k)).ls), .dead]) (fun k => k ≤ path.length) (fun k => path.length - k)
              (fun k hk => ⟨rfl, rfl, closed_rowsA _, trivial⟩) ⟨0, ?_⟩ (fun _ => rfl) fun k hk => ?_
            · conv => whnf
              repeat (refine ⟨by first | rfl | (simp; done), ?_⟩; conv => whnf)
              exact Nat.zero_le _
            · refine cd_sound tys_ok _ ?_
              have hlen := clFold_len s n (path.take k)
              have hnn := clFold_n s n (path.take k)
              have hpl : (path.take k).length ≤ 20 := by simp; omega
              generalize hc : clFold s n (path.take k) = c at hlen hnn ⊢
              have hwn : Wr .i64 (((c.n : Nat) : Int).tdiv 2) = ((c.n / 2 : Nat) : Int) := by
                rw [Int.tdiv_eq_ediv_of_nonneg (by omega), Wr64 _ (by omega) (by omega)]; omega
              have hwk : Wr .i64 ((k : Int) + 1) = ((k + 1 : Nat) : Int) := by rw [Wr64 _ (by omega) (by omega)]; omega
              have hm : ((c.n : Nat) : Int).tmod 2 = ((c.n % 2 : Nat) : Int) := by rw [Int.tmod_eq_emod_of_nonneg (by omega)]; omega
              conv => whnf
              refine ⟨fun hlt => ?_, fun hge => ?_⟩
              · have hlt : k < path.length := by simpa using hlt
                have hst := clFold_take s n path k hlt
                rw [hc] at hst
                generalize hb : path[k] = b at hst
                conv => whnf
                refine ⟨by omega, .int .i64 b, by rw [← hb]; exact ints_get _ _ hlt, ?_⟩
                conv => whnf
                refine ⟨fun ht => ?_, fun hf => ?_⟩
                · have hb1 : b = -1 := by simpa using ht
                  have hst : clFold s n (path.take (k + 1)) = { c with n := c.n / 2 } := by rw [hst, clStep, if_pos hb1]
                  conv => whnf
                  refine ⟨by decide, ?_⟩
                  conv => whnf
                  refine ⟨k + 1, ?_⟩
                  rw [hst]
                  conv => whnf
                  repeat (refine ⟨by first | rfl | exact hwn | exact hwk, ?_⟩; conv => whnf)
                  exact ⟨by omega, by omega⟩
                · have hb1 : ¬ b = -1 := by simpa using hf
                  conv => whnf
                  refine ⟨by decide, ?_⟩
                  conv => whnf
                  refine ⟨fun ht => ?_, fun hf2 => ?_⟩
                  · have hodd : c.n % 2 = 1 := by simp [hm] at ht; omega
                    have hst : clFold s n (path.take (k + 1)) = { d := sumL [1, b, c.d], ls := c.ls ++ [[1, b, c.d]], n := c.n / 2 } := by rw [hst, clStep, if_neg hb1, if_pos hodd]
                    conv => whnf
                    refine ACall.freeze 3 ?_ (by kernel_rfl)
                    conv => whnf
                    refine ⟨by simp [closed], ?_⟩
                    conv => whnf
                    refine ⟨rfl, ?_⟩
                    conv => whnf
                    refine ⟨rfl, ?_⟩
                    conv => whnf
                    refine ACall.of_h (compute_spec c.ls [1, b, c.d] (by simp) (by omega)) rfl ?_ (fun r H1 h => ?_) (fun _ _ h => h.elim)
                    · exact ⟨rfl, rfl, rfl, closed_rowsA _, trivial⟩
                    · obtain ⟨rfl, rfl⟩ := h
                      conv => whnf
                      refine ⟨by decide, ?_⟩
                      conv => whnf
                      refine ⟨k + 1, ?_⟩
                      rw [hst]
                      conv => whnf
                      repeat (refine ⟨by first | rfl | exact hwn | exact hwk, ?_⟩; conv => whnf)
                      exact ⟨by omega, by omega⟩
                  · have hodd : ¬ c.n % 2 = 1 := by simp [hm] at hf2; omega
                    have hst : clFold s n (path.take (k + 1)) = { d := sumL [1, c.d, b], ls := c.ls ++ [[1, c.d, b]], n := c.n / 2 } := by rw [hst, clStep, if_neg hb1, if_neg hodd]
                    conv => whnf
                    refine ACall.freeze 3 ?_ (by kernel_rfl)
                    conv => whnf
                    refine ⟨by simp [closed], ?_⟩
                    conv => whnf
                    refine ⟨rfl, ?_⟩
                    conv => whnf
                    refine ⟨rfl, ?_⟩
                    conv => whnf
                    refine ACall.of_h (compute_spec c.ls [1, c.d, b] (by simp) (by omega)) rfl ?_ (fun r H1 h => ?_) (fun _ _ h => h.elim)
                    · exact ⟨rfl, rfl, rfl, closed_rowsA _, trivial⟩
                    · obtain ⟨rfl, rfl⟩ := h
                      conv => whnf
                      refine ⟨by decide, ?_⟩
                      conv => whnf
                      refine ⟨k + 1, ?_⟩
                      rw [hst]
                      conv => whnf
                      repeat (refine ⟨by first | rfl | exact hwn | exact hwk, ?_⟩; conv => whnf)
                      exact ⟨by omega, by omega⟩
              · have hall : path.take k = path := by apply List.take_of_length_le; simpa using hge
                rw [hall] at hc
                conv => whnf
                refine ACode.draw [] tys_ok (by kernel_rfl) (by kernel_rfl) ?_
                conv => whnf
                refine ⟨⟨by simp, closed_rowsA _⟩, ?_⟩
                conv => whnf
                simp [climbOf, hgood, hc]
end Go.Proofs.YtobdkjjakdjnaaaDoor
