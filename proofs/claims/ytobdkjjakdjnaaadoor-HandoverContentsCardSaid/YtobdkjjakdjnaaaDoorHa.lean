import Derived.Test.YtobdkjjakdjnaaaDoorDc
import Derived.Test.YtobdkjjakdjnaaaDoorKe
import Derived.Test.YtobdkjjakdjnaaaDoorSh
set_option linter.unusedVariables false
set_option linter.unusedSimpArgs false
namespace Go.Proofs.YtobdkjjakdjnaaaDoor
open Go.Av
/-- A rune that no label has. -/
def otherB (x : Nat) : Bool := ((decide (x < 65) || decide (90 < x)) && (decide (x < 48) || decide (57 < x))) && !decide (x = 46)
/-- A text is a label. -/
def labelB (s : List UInt8) : Bool := decide (1 ≤ s.length) && decide (s.length ≤ 20) && s.all fun b => !otherB b.toNat
def belowB (x m : Int) : Bool := decide (0 ≤ x) && decide (x < m)
theorem below_spec (x m : Int) : Ctr Tryd.prog 40 [.int .i64 x, .int .i64 m] (fun r => r = .bool (belowB x m)) := by
  refine Ctr.of_body Tryd.func40 rfl tys_ok (by kernel_rfl) ?_
  conv => whnf
  refine cd_sound tys_ok _ ?_
  conv => whnf
  repeat' (refine And.intro (fun _ => ?_) (fun _ => ?_) <;> conv => whnf)
  all_goals (refine congrArg AV.bool ?_; simp_all [belowB] <;> omega)
def remB (x : Int) : Bool := belowB x 2147483647
theorem isRemainder_spec (x : Int) : Ctr Tryd.prog 62 [.int .i64 x] (fun r => r = .bool (remB x)) := by
  refine Ctr.of_body Tryd.func62 rfl tys_ok (by kernel_rfl) ?_
  conv => whnf
  refine cd_sound tys_ok _ ?_
  conv => whnf
  refine ACall.of_spec (below_spec x 2147483647) rfl fun r hr => ?_
  subst hr
  conv => whnf
  rfl
theorem all_step {α : Type} (p : α → Bool) (xs : List α) (k : Nat) (hk : k < xs.length) : (xs.drop k).all p = (p xs[k] && (xs.drop (k + 1)).all p) := by
  rw [List.drop_eq_getElem_cons hk]; rfl
theorem allInt_spec {f : FuncId} {cap : List AV} (hc : closeds cap = true) (p : Int → Bool) (xs : List Int) (hp : ∀ n, Ctr Tryd.prog f (.int .i64 n :: cap) (fun r => r = .bool (p n))) (hx : xs.length ≤ 1000000) :
    Ctr Tryd.prog 61 [.sl 1 (ints xs), .fn f cap] (fun r => r = .bool (xs.all p)) := by
  refine Ctr.of_body Tryd.func61 rfl tys_ok (by kernel_rfl) ?_
  conv => whnf
  refine cd_sound tys_ok _ ?_
  conv => whnf
  refine ACode.loopT (fun k : Nat => mk 18 [(1, .fn f cap), (7, .sl 1 (ints xs)), (8, .int .i64 xs.length), (9, .int .i64 k)]) (fun _ => []) (fun k => k ≤ xs.length ∧ xs.all p = (xs.drop k).all p) (fun k => xs.length - k) ⟨0, ?_⟩ fun k hk => ?_
  · conv => whnf
    repeat (refine And.intro ?_ ?_; (focus (first | rfl | (simp; done))); conv => whnf)
    rfl
  · obtain ⟨hk, he⟩ := hk
    refine cd_sound tys_ok _ ?_
    conv => whnf
    refine ⟨fun hlt => ?_, fun hge => ?_⟩
    · have hlt : k < xs.length := by simpa using hlt
      rw [all_step p xs k hlt] at he
      conv => whnf
      refine ⟨by omega, .int .i64 xs[k], ints_get _ _ hlt, ?_⟩
      conv => whnf
      refine ACall.of_spec (hp xs[k]) (by simpa [closeds, closed] using hc) fun r hr => ?_
      subst hr
      conv => whnf
      refine ⟨fun ht => ?_, fun hf => ?_⟩
      · conv => whnf
        have ht : p xs[k] = false := by simpa using ht
        rw [he, ht]; rfl
      · have hf : p xs[k] = true := by simpa using hf
        conv => whnf
        refine ⟨k + 1, ?_⟩
        conv => whnf
        repeat (refine And.intro ?_ ?_; (focus (first | rfl | (simp; done) | ((rw [Wr64 _ (by omega) (by omega)]; omega)))); conv => whnf)
        exact ⟨⟨by omega, by rw [he, hf]; rfl⟩, by omega⟩
    · conv => whnf
      simp at hge
      rw [he, List.drop_eq_nil_of_le hge]
      rfl
theorem allStr_spec {f : FuncId} {cap : List AV} (hc : closeds cap = true) (p : List UInt8 → Bool) (xs : List (List UInt8)) (hp : ∀ s ∈ xs, Ctr Tryd.prog f (.str s :: cap) (fun r => r = .bool (p s))) (hx : xs.length ≤ 1000000) :
    Ctr Tryd.prog 58 [.sl 1 (strs xs), .fn f cap] (fun r => r = .bool (xs.all p)) := by
  refine Ctr.of_body Tryd.func58 rfl tys_ok (by kernel_rfl) ?_
  conv => whnf
  refine cd_sound tys_ok _ ?_
  conv => whnf
  refine ACode.loopT (fun k : Nat => mk 18 [(1, .fn f cap), (7, .sl 1 (strs xs)), (8, .int .i64 xs.length), (9, .int .i64 k)]) (fun _ => []) (fun k => k ≤ xs.length ∧ xs.all p = (xs.drop k).all p) (fun k => xs.length - k) ⟨0, ?_⟩ fun k hk => ?_
  · conv => whnf
    repeat (refine And.intro ?_ ?_; (focus (first | rfl | (simp; done))); conv => whnf)
    rfl
  · obtain ⟨hk, he⟩ := hk
    refine cd_sound tys_ok _ ?_
    conv => whnf
    refine ⟨fun hlt => ?_, fun hge => ?_⟩
    · have hlt : k < xs.length := by simpa using hlt
      rw [all_step p xs k hlt] at he
      conv => whnf
      refine ⟨by omega, .str xs[k], strs_get _ _ hlt, ?_⟩
      conv => whnf
      refine ACall.of_spec (hp xs[k] (List.getElem_mem hlt)) (by simpa [closeds, closed] using hc) fun r hr => ?_
      subst hr
      conv => whnf
      refine ⟨fun ht => ?_, fun hf => ?_⟩
      · conv => whnf
        have ht : p xs[k] = false := by simpa using ht
        rw [he, ht]; rfl
      · have hf : p xs[k] = true := by simpa using hf
        conv => whnf
        refine ⟨k + 1, ?_⟩
        conv => whnf
        repeat (refine And.intro ?_ ?_; (focus (first | rfl | (simp; done) | ((rw [Wr64 _ (by omega) (by omega)]; omega)))); conv => whnf)
        exact ⟨⟨by omega, by rw [he, hf]; rfl⟩, by omega⟩
    · conv => whnf
      simp at hge
      rw [he, List.drop_eq_nil_of_le hge]
      rfl
def keysB (l : List Int) : Bool := decide (1 ≤ l.length) && decide (l.length ≤ 6) && l.all remB
theorem areKeys_spec (l : List Int) : Ctr Tryd.prog 60 [.sl 1 (ints l)] (fun r => r = .bool (keysB l)) := by
  refine Ctr.of_body Tryd.func60 rfl tys_ok (by kernel_rfl) ?_
  conv => whnf
  refine cd_sound tys_ok _ ?_
  conv => whnf
  refine ⟨fun h1 => ?_, fun h1 => ?_⟩
  · simp at h1
    conv => whnf
    refine ⟨fun h2 => ?_, fun h2 => ?_⟩
    · simp at h2
      conv => whnf
      refine ACall.of_spec (allInt_spec (f := 62) (cap := []) rfl remB l (fun n => isRemainder_spec n) (by omega)) rfl fun r hr => ?_
      subst hr
      conv => whnf
      refine congrArg AV.bool ?_
      have e1 : 1 ≤ l.length := by omega
      have e2 : l.length ≤ 6 := by omega
      simp [keysB, e1, e2]
    · simp at h2
      conv => whnf
      refine congrArg AV.bool ?_
      have e2 : ¬ l.length ≤ 6 := by omega
      simp [keysB, e2]
  · simp at h1
    conv => whnf
    refine congrArg AV.bool ?_
    have e2 : ¬ 1 ≤ l.length := by omega
    simp [keysB, e2]
/-- A check, and what it answers. -/
structure Chk where
  f : FuncId
  fs : List AV
  e : Int
  b : Bool
def Chk.av (c : Chk) : AV := .agg [.mv c.f c.fs, .int .i64 c.e]
/-- The first error. -/
def ferr : List Chk → Int
  | [] => 0
  | c :: r => if c.b then c.e else ferr r
/-- Each check can be carried out where those before it did not fail. -/
def ChkOK : List Chk → Prop
  | [] => True
  | c :: r => (closeds c.fs = true ∧ Ctr Tryd.prog c.f c.fs (fun r => r = .bool c.b)) ∧ (c.b = false → ChkOK r)
set_option maxRecDepth 100000 in
theorem firstError_spec (cs : List Chk) (hl : cs.length ≤ 1000000) (h : ChkOK cs) : Ctr Tryd.prog 32 [.sl 2 (cs.map Chk.av)] (fun r => r = .int .i64 (ferr cs)) := by
  refine Ctr.of_body Tryd.func32 rfl tys_ok (by kernel_rfl) ?_
  conv => whnf
  refine cd_sound tys_ok _ ?_
  conv => whnf
  have hcl : withins ([] : List HO) (mk 17 [(5, .sl 2 (cs.map Chk.av)), (6, .int .i64 cs.length), (7, .int .i64 0)]) = true := rfl
  refine ACode.loopD (fun k : Nat => mk 17 [(5, .sl 2 (cs.map Chk.av)), (6, .int .i64 cs.length), (7, .int .i64 k)]) (fun _ => []) (fun k => k ≤ cs.length ∧ ChkOK (cs.drop k) ∧ ferr cs = ferr (cs.drop k)) (fun k => cs.length - k) (fun k hk => ⟨hcl, trivial⟩) ⟨0, ?_⟩ (fun _ => rfl) fun k hk => ?_
  · conv => whnf
    repeat (refine And.intro ?_ ?_; (focus (first | rfl | (simp; done))); conv => whnf)
    exact ⟨h, rfl⟩
  · obtain ⟨hk, ho, he⟩ := hk
    refine cd_sound tys_ok _ ?_
    conv => whnf
    refine ⟨fun hlt => ?_, fun hge => ?_⟩
    · have hlt : k < cs.length := by simpa using hlt
      rw [List.drop_eq_getElem_cons hlt] at ho he
      obtain ⟨⟨h1, h2⟩, h3⟩ := ho
      conv => whnf
      refine ⟨by omega, (cs[k]).av, by simp [hlt], ?_⟩
      conv => whnf
      rw [appK_iff, List.append_nil]
      refine ACall.of_spec (args := cs[k].fs) h2 h1 fun r hr => ?_
      subst hr
      conv => whnf
      refine ⟨fun ht => ?_, fun hf => ?_⟩
      · conv => whnf
        rw [he, ferr, if_pos ht]
      · conv => whnf
        refine ⟨k + 1, ?_⟩
        conv => whnf
        repeat (refine And.intro ?_ ?_; (focus (first | rfl | (simp; done) | ((rw [Wr64 _ (by omega) (by omega)]; omega)))); conv => whnf)
        exact ⟨⟨by omega, h3 hf, by rw [he, ferr, if_neg (by simp [hf])]⟩, by omega⟩
    · conv => whnf
      simp at hge
      rw [he, List.drop_eq_nil_of_le hge]
      rfl
end Go.Proofs.YtobdkjjakdjnaaaDoor

set_option linter.unusedVariables false
set_option linter.unusedSimpArgs false
namespace Go.Proofs.YtobdkjjakdjnaaaDoor
open Go.Av
theorem other_spec (x : Nat) (hx : x ≤ 1114111) : Ctr Tryd.prog 79 [.int .i32 x] (fun r => r = .bool (otherB x)) := by
  refine Ctr.of_body Tryd.func79 rfl tys_ok (by kernel_rfl) ?_
  conv => whnf
  refine cd_sound tys_ok _ ?_
  conv => whnf
  have e46 : ((x : Int) = 46) ↔ (x = 46) := by omega
  repeat' (refine And.intro (fun _ => ?_) (fun _ => ?_) <;> conv => whnf)
  all_goals (refine congrArg AV.bool ?_; unfold otherB; simp_all <;> first | omega | (simp only [e46]))
end Go.Proofs.YtobdkjjakdjnaaaDoor

set_option linter.unusedVariables false
set_option linter.unusedSimpArgs false
namespace Go.Proofs.YtobdkjjakdjnaaaDoor
open Go.Av Go.Shelf
theorem decode_first (s : ByteArray) (i : Nat) : ((s.get! i).toNat < 128 ∧ Utf8.decode s i = ((s.get! i).toNat, 1)) ∨ (128 ≤ (s.get! i).toNat ∧ 128 ≤ (Utf8.decode s i).1) := by
  unfold Utf8.decode
  simp only [Nat.add_zero]
  split
  · rename_i h; exact .inl ⟨h, rfl⟩
  · rename_i h
    refine .inr ⟨by omega, ?_⟩
    have he : (128 : Nat) ≤ Utf8.runeError := by decide
    repeat' split
    all_goals first | exact he | (rename_i h2; simp at h2; simp; omega)
theorem other_big (x : Nat) (h : 128 ≤ x) : otherB x = true := by
  unfold otherB; simp; omega
theorem idx_other (s : ByteArray) : ∀ (f pos : Nat), s.size ≤ pos + f → (0 ≤ Lib.idxFuncFrom otherB true s f pos ↔ ∃ i, pos ≤ i ∧ i < s.size ∧ otherB (s.get! i).toNat = true)
  | 0, pos, h => by
    unfold Lib.idxFuncFrom
    constructor
    · intro h; omega
    · rintro ⟨i, h1, h2, _⟩; omega
  | f + 1, pos, h => by
    unfold Lib.idxFuncFrom
    by_cases hp : pos < s.size
    · rw [if_pos hp]
      rcases decode_first s pos with ⟨h1, h2⟩ | ⟨h1, h2⟩
      · rw [h2]
        by_cases ho : otherB (s.get! pos).toNat = true
        · rw [if_pos ho]
          exact ⟨fun _ => ⟨pos, Nat.le_refl _, hp, ho⟩, fun _ => by omega⟩
        · rw [if_neg ho, idx_other s f (pos + 1) (by omega)]
          constructor
          · rintro ⟨i, k1, k2, k3⟩; exact ⟨i, by omega, k2, k3⟩
          · rintro ⟨i, k1, k2, k3⟩
            refine ⟨i, ?_, k2, k3⟩
            rcases Nat.eq_or_lt_of_le k1 with rfl | h
            · exact absurd k3 ho
            · exact h
      · rw [if_pos (other_big _ h2)]
        exact ⟨fun _ => ⟨pos, Nat.le_refl _, hp, other_big _ h1⟩, fun _ => by omega⟩
    · rw [if_neg hp]
      constructor
      · intro h; omega
      · rintro ⟨i, h1, h2, _⟩; omega
theorem idx_all (s : List UInt8) : (0 ≤ Lib.idxFunc otherB true ⟨s.toArray⟩) ↔ (s.all fun b => !otherB b.toNat) = false := by
  unfold Lib.idxFunc
  have hs : (⟨s.toArray⟩ : ByteArray).size = s.length := by simp [ByteArray.size]
  have hg : ∀ i (h : i < s.length), (⟨s.toArray⟩ : ByteArray).get! i = s[i] := fun i h => by simp [ByteArray.get!, h]
  rw [idx_other _ _ _ (by omega), hs, List.all_eq_false]
  constructor
  · rintro ⟨i, _, h2, h3⟩
    rw [hg i h2] at h3
    exact ⟨s[i], List.getElem_mem h2, by simp [h3]⟩
  · rintro ⟨b, hb, h3⟩
    obtain ⟨i, hi, rfl⟩ := List.getElem_of_mem hb
    exact ⟨i, Nat.zero_le _, hi, by rw [hg i hi]; simpa using h3⟩
theorem isLabel_spec (s : List UInt8) (hs : s.length ≤ 9223372036854775807) : Ctr Tryd.prog 75 [.str s] (fun r => r = .bool (labelB s)) := by
  refine Ctr.of_body Tryd.func75 rfl tys_ok (by kernel_rfl) ?_
  conv => whnf
  refine cd_sound tys_ok _ ?_
  conv => whnf
  refine And.intro (fun h1 => ?_) (fun h1 => ?_)
  · conv => whnf
    have h1 : 1 ≤ s.length := by simp at h1; omega
    refine And.intro (fun h2 => ?_) (fun h2 => ?_)
    · have h2 : ¬ s.length ≤ 20 := by simp at h2; omega
      conv => whnf
      simp [labelB, h2]
    · have h2 : s.length ≤ 20 := by simp at h2; omega
      conv => whnf
      refine ACall.of_spec (containsFunc_ctr Tryd.laysGw17 (g := 79) rfl (by kernel_rfl) (enters_of Tryd.func79 (by kernel_rfl) rfl) (p := otherB) (cap := []) (fun x hx => other_spec x hx) s) rfl fun r hr => ?_
      subst hr
      conv => whnf
      refine congrArg AV.bool ?_
      have hi := idx_all s
      cases ha : s.all fun b => !otherB b.toNat with
      | false => rw [decide_eq_true (hi.2 ha)]; simp only [labelB, ha, Bool.and_false]; rfl
      | true => rw [decide_eq_false (fun h => by rw [hi.1 h] at ha; cases ha)]; simp [labelB, ha, h1, h2]
  · have h1 : ¬ 1 ≤ s.length := by simp at h1; omega
    conv => whnf
    simp [labelB, h1]
end Go.Proofs.YtobdkjjakdjnaaaDoor

set_option linter.unusedVariables false
set_option linter.unusedSimpArgs false
namespace Go.Proofs.YtobdkjjakdjnaaaDoor
open Go.Av Go.Shelf
theorem from_spec (n m : Int) : Ctr Tryd.prog 74 [.int .i64 n, .int .i64 m] (fun r => r = .bool (decide (0 ≤ n) && decide (n ≤ m))) := by
  refine Ctr.of_body Tryd.func74 rfl tys_ok (by kernel_rfl) ?_
  conv => whnf
  refine cd_sound tys_ok _ ?_
  conv => whnf
  repeat' (refine And.intro (fun _ => ?_) (fun _ => ?_) <;> conv => whnf)
  all_goals (refine congrArg AV.bool ?_; simp_all <;> omega)
/-- A record of a scan with a label. -/
def scanR (s : List UInt8) : AV := .agg [.int .i64 0, .int .i64 0, .int .i64 1, .int .i64 0, .str s, .raw (.slice none 0 0)]
set_option maxRecDepth 100000 in
theorem complete_spec (s : List UInt8) (hs : s.length ≤ 9223372036854775807) : Ctr Tryd.prog 71 [scanR s] (fun r => r = .bool (labelB s)) := by
  refine Ctr.of_body Tryd.func71 rfl tys_ok (by kernel_rfl) ?_
  conv => whnf
  refine cd_sound tys_ok _ ?_
  conv => whnf
  refine ACall.of_spec (from_spec 0 1000000) rfl fun r hr => ?_
  subst hr
  conv => whnf
  refine And.intro (fun _ => ?_) (fun h => absurd h (by simp))
  conv => whnf
  refine ACall.of_spec (from_spec 0 1000000) rfl fun r hr => ?_
  subst hr
  conv => whnf
  refine And.intro (fun _ => ?_) (fun h => absurd h (by simp))
  conv => whnf
  refine ACall.of_spec (from_spec 0 1000000) rfl fun r hr => ?_
  subst hr
  conv => whnf
  refine And.intro (fun _ => ?_) (fun h => absurd h (by simp))
  conv => whnf
  refine ACall.of_spec (isLabel_spec s hs) rfl fun r hr => ?_
  subst hr
  conv => whnf
  cases hl : labelB s with
  | false =>
    refine And.intro (fun _ => ?_) (fun h => absurd h (by decide))
    conv => whnf
  | true =>
    refine And.intro (fun h => absurd h (by decide)) (fun _ => ?_)
    conv => whnf
    refine And.intro (fun _ => ?_) (fun h => absurd h (by decide))
    conv => whnf
    rfl
theorem line_spec (l : List (List UInt8)) (hN : l.length ≤ 140737488355328) (hlen : (Lib.join l [32]).length ≤ 140737488355328) : Ctr Tryd.prog 73 [.sl 1 (strs l)] (fun r => r = .str (Lib.join l [32])) := by
  refine Ctr.of_body Tryd.func73 rfl tys_ok (by kernel_rfl) ?_
  conv => whnf
  refine cd_sound tys_ok _ ?_
  conv => whnf
  refine ACall.of_spec (join_ctr Tryd.lays156 Tryd.Builder_Extra_156 rfl (by kernel_rfl) l [32] hN hlen) rfl fun r hr => ?_
  subst hr
  conv => whnf
theorem labelB_len {s : List UInt8} (h : labelB s = true) : 1 ≤ s.length ∧ s.length ≤ 20 := by
  simp [labelB] at h; exact ⟨by omega, by omega⟩
/-- The text of a scan with a label. -/
def scanW (s : List UInt8) : List (List UInt8) := [[115, 99, 97, 110], [48], [48], [48], s]
theorem scanW_join (s : List UInt8) : Lib.join (scanW s) [32] = [115, 99, 97, 110, 32, 48, 32, 48, 32, 48, 32] ++ s := by simp [scanW, Lib.join]
def scanT (s : List UInt8) : List UInt8 := if labelB s then Lib.join (scanW s) [32] else []
set_option maxRecDepth 100000 in
theorem Text_spec (s : List UInt8) (hs : s.length ≤ 9223372036854775807) : Ctr Tryd.prog 70 [scanR s] (fun r => r = .str (scanT s)) := by
  refine Ctr.of_body Tryd.func70 rfl tys_ok (by kernel_rfl) ?_
  conv => whnf
  refine cd_sound tys_ok _ ?_
  conv => whnf
  refine ACall.of_spec (complete_spec s hs) rfl fun r hr => ?_
  subst hr
  conv => whnf
  cases hl : labelB s with
  | false =>
    refine And.intro (fun _ => ?_) (fun h => absurd h (by decide))
    conv => whnf
    simp only [scanT, hl]; rfl
  | true =>
    refine And.intro (fun h => absurd h (by decide)) (fun _ => ?_)
    conv => whnf
    refine And.intro (fun h => absurd h (by decide)) (fun _ => ?_)
    conv => whnf
    refine ACode.draw [13] tys_ok (by kernel_rfl) (by kernel_rfl) ?_
    conv => whnf
    have e0 : Lib.decDigits 0 = [48] := by decide +kernel
    have hI : Ctr Tryd.prog 72 [.int .i64 0] (fun r => r = .str [48]) := by
      have h := itoa_ctr Tryd.lays171 (f := 72) rfl (by kernel_rfl) 0 (by decide) (by decide +kernel)
      rw [e0] at h
      exact h
    refine ⟨_, ⟨hI, rfl⟩, ?_⟩
    conv => whnf
    refine ⟨_, ⟨hI, rfl⟩, ?_⟩
    conv => whnf
    refine ⟨_, ⟨hI, rfl⟩, ?_⟩
    conv => whnf
    have hL := labelB_len hl
    refine ACall.of_vcall ⟨⟨rfl, by simp [closed]⟩, .str (Lib.join (scanW s) [32]), ⟨line_spec (scanW s) (by simp [scanW]) (by rw [scanW_join]; simp; omega), rfl⟩, ?_⟩ (by kernel_rfl)
    conv => whnf
    simp only [scanT, hl]; rfl
theorem isLabel2_spec (s : List UInt8) (hs : s.length ≤ 9223372036854775807) : Ctr Tryd.prog 59 [.str s] (fun r => r = .bool (labelB s)) := by
  refine Ctr.of_body Tryd.func59 rfl tys_ok (by kernel_rfl) ?_
  conv => whnf
  refine cd_sound tys_ok _ ?_
  conv => whnf
  refine ACall.of_spec (Text_spec s hs) rfl fun r hr => ?_
  subst hr
  conv => whnf
  refine congrArg AV.bool ?_
  unfold scanT
  cases hl : labelB s with
  | false => rfl
  | true => rw [scanW_join]; rfl
def contB (l : List (List UInt8)) : Bool := decide (1 ≤ l.length) && decide (l.length ≤ 40) && l.all labelB
theorem areContents_spec (l : List (List UInt8)) (hl : l.length ≤ 9223372036854775807) (hs : ∀ s ∈ l, s.length ≤ 9223372036854775807) : Ctr Tryd.prog 31 [.sl 1 (strs l)] (fun r => r = .bool (contB l)) := by
  refine Ctr.of_body Tryd.func31 rfl tys_ok (by kernel_rfl) ?_
  conv => whnf
  refine cd_sound tys_ok _ ?_
  conv => whnf
  refine ⟨fun h1 => ?_, fun h1 => ?_⟩
  · simp at h1
    conv => whnf
    refine ⟨fun h2 => ?_, fun h2 => ?_⟩
    · simp at h2
      conv => whnf
      refine ACall.of_spec (allStr_spec (f := 59) (cap := []) rfl labelB l (fun s h => isLabel2_spec s (hs s h)) (by omega)) rfl fun r hr => ?_
      subst hr
      conv => whnf
      refine congrArg AV.bool ?_
      have e1 : 1 ≤ l.length := by omega
      have e2 : l.length ≤ 40 := by omega
      simp [contB, e1, e2]
    · simp at h2
      conv => whnf
      refine congrArg AV.bool ?_
      have e2 : ¬ l.length ≤ 40 := by omega
      simp [contB, e2]
  · simp at h1
    conv => whnf
    refine congrArg AV.bool ?_
    have e2 : ¬ 1 ≤ l.length := by omega
    simp [contB, e2]
end Go.Proofs.YtobdkjjakdjnaaaDoor

set_option linter.unusedVariables false
set_option linter.unusedSimpArgs false
namespace Go.Proofs.YtobdkjjakdjnaaaDoor
open Go.Av
def capB (n : Nat) : Bool := decide (65 ≤ n) && decide (n ≤ 90)
theorem Capital_spec (b : UInt8) : Ctr Tryd.prog 66 [.int .u8 b.toNat] (fun r => r = .bool (capB b.toNat)) := by
  refine Ctr.of_body Tryd.func66 rfl tys_ok (by kernel_rfl) ?_
  conv => whnf
  refine cd_sound tys_ok _ ?_
  conv => whnf
  repeat' (refine And.intro (fun _ => ?_) (fun _ => ?_) <;> conv => whnf)
  all_goals (refine congrArg AV.bool ?_; rw [Bool.eq_iff_iff]; simp_all [capB] <;> omega)
def okB (b : UInt8) : Bool := !otherB b.toNat
theorem otherB_cap (n : Nat) : otherB n = (!capB n && (decide (n < 48) || decide (57 < n)) && !decide (n = 46)) := by
  rw [Bool.eq_iff_iff]; simp [otherB, capB]
set_option maxRecDepth 10000 in
theorem refLabel_spec2 (s : List UInt8) (hs : s.length ≤ 9223372036854775807) : Ctr Tryd.prog 47 [.str s] (fun r => r = .bool (labelB s)) := by
  refine Ctr.of_body Tryd.func47 rfl tys_ok (by kernel_rfl) ?_
  conv => whnf
  refine cd_sound tys_ok _ ?_
  conv => whnf
  refine ACode.loopT (fun k : Nat => mk 41 [(0, .str s), (3, .int .i64 k)]) (fun _ => []) (fun k => k ≤ s.length ∧ (s.all fun b => !otherB b.toNat) = (s.drop k).all fun b => !otherB b.toNat) (fun k => s.length - k) ⟨0, ?_⟩ fun k hk => ?_
  · conv => whnf
    repeat (refine And.intro ?_ ?_; (focus (first | rfl | (simp; done))); conv => whnf)
    rfl
  · obtain ⟨hk, he⟩ := hk
    refine cd_sound tys_ok _ ?_
    conv => whnf
    refine ⟨fun hlt => ?_, fun hge => ?_⟩
    · have hlt : k < s.length := by simpa using hlt
      rw [all_step _ s k hlt] at he
      have hg : s.getD (k : Int).toNat 0 = s[k] := by simp [List.getD, hlt]
      conv => whnf
      refine ⟨⟨by omega, by omega⟩, ?_⟩
      conv => whnf
      rw [hg]
      refine ACall.of_spec (Capital_spec s[k]) rfl fun r hr => ?_
      subst hr
      conv => whnf
      have hc := otherB_cap s[k].toNat
      repeat' (first | refine And.intro ⟨by omega, by omega⟩ ?_ | refine And.intro (fun _ => ?_) (fun _ => ?_)) <;> conv => whnf
      all_goals first
        | (refine ⟨k + 1, ?_⟩
           conv => whnf
           repeat (refine And.intro ?_ ?_; (focus (first | rfl | (simp; done) | (rw [Wr64 _ (by omega) (by omega)]; omega))); conv => whnf)
           have hn : otherB s[k].toNat = false := by rw [hc]; simp_all <;> omega
           rw [hn] at he
           exact ⟨⟨by omega, he⟩, by omega⟩)
        | (have hn : otherB s[k].toNat = true := by rw [hc]; simp_all <;> omega
           rw [hn] at he
           simp [labelB, he]; done)
    · conv => whnf
      simp at hge
      rw [List.drop_eq_nil_of_le hge] at he
      have he : (s.all fun b => !otherB b.toNat) = true := he
      repeat' (refine And.intro (fun _ => ?_) (fun _ => ?_) <;> conv => whnf)
      all_goals (refine congrArg AV.bool ?_; rw [Bool.eq_iff_iff]; simp_all [labelB] <;> omega)
theorem Remainder_spec (x : Int) : Ctr Tryd.prog 50 [.int .i64 x] (fun r => r = .bool (remB x)) := by
  refine Ctr.of_body Tryd.func50 rfl tys_ok (by kernel_rfl) ?_
  conv => whnf
  refine cd_sound tys_ok _ ?_
  conv => whnf
  repeat' (refine And.intro (fun _ => ?_) (fun _ => ?_) <;> conv => whnf)
  all_goals (refine congrArg AV.bool ?_; rw [Bool.eq_iff_iff]; simp_all [remB, belowB] <;> omega)
set_option maxRecDepth 10000 in
theorem refKeys_spec (l : List Int) (hl : l.length ≤ 9223372036854775807) : Ctr Tryd.prog 22 [.sl 1 (ints l)] (fun r => r = .bool (keysB l)) := by
  refine Ctr.of_body Tryd.func22 rfl tys_ok (by kernel_rfl) ?_
  conv => whnf
  refine cd_sound tys_ok _ ?_
  conv => whnf
  refine ACode.loopT (fun k : Nat => mk 24 [(0, .sl 1 (ints l)), (3, .int .i64 k)]) (fun _ => []) (fun k => k ≤ l.length ∧ l.all remB = (l.drop k).all remB) (fun k => l.length - k) ⟨0, ?_⟩ fun k hk => ?_
  · conv => whnf
    repeat (refine And.intro ?_ ?_; (focus (first | rfl | (simp; done))); conv => whnf)
    rfl
  · obtain ⟨hk, he⟩ := hk
    refine cd_sound tys_ok _ ?_
    conv => whnf
    refine ⟨fun hlt => ?_, fun hge => ?_⟩
    · have hlt : k < l.length := by simpa using hlt
      rw [all_step _ l k hlt] at he
      conv => whnf
      refine ⟨by omega, .int .i64 l[k], ints_get _ _ hlt, ?_⟩
      conv => whnf
      refine ACall.of_spec (Remainder_spec l[k]) rfl fun r hr => ?_
      subst hr
      conv => whnf
      refine ⟨fun ht => ?_, fun hf => ?_⟩
      · conv => whnf
        have ht : remB l[k] = false := by simpa using ht
        rw [ht] at he
        simp [keysB, he]
      · have hf : remB l[k] = true := by simpa using hf
        rw [hf] at he
        conv => whnf
        refine ⟨k + 1, ?_⟩
        conv => whnf
        repeat (refine And.intro ?_ ?_; (focus (first | rfl | (simp; done) | (rw [Wr64 _ (by omega) (by omega)]; omega))); conv => whnf)
        exact ⟨⟨by omega, he⟩, by omega⟩
    · conv => whnf
      simp at hge
      rw [List.drop_eq_nil_of_le hge] at he
      have he : l.all remB = true := he
      repeat' (refine And.intro (fun _ => ?_) (fun _ => ?_) <;> conv => whnf)
      all_goals (refine congrArg AV.bool ?_; rw [Bool.eq_iff_iff]; simp_all [keysB] <;> omega)
set_option maxRecDepth 10000 in
theorem refContents_spec (l : List (List UInt8)) (hl : l.length ≤ 9223372036854775807) (hs : ∀ s ∈ l, s.length ≤ 9223372036854775807) : Ctr Tryd.prog 27 [.sl 1 (strs l)] (fun r => r = .bool (contB l)) := by
  refine Ctr.of_body Tryd.func27 rfl tys_ok (by kernel_rfl) ?_
  conv => whnf
  refine cd_sound tys_ok _ ?_
  conv => whnf
  refine ACode.loopT (fun k : Nat => mk 24 [(0, .sl 1 (strs l)), (3, .int .i64 k)]) (fun _ => []) (fun k => k ≤ l.length ∧ l.all labelB = (l.drop k).all labelB) (fun k => l.length - k) ⟨0, ?_⟩ fun k hk => ?_
  · conv => whnf
    repeat (refine And.intro ?_ ?_; (focus (first | rfl | (simp; done))); conv => whnf)
    rfl
  · obtain ⟨hk, he⟩ := hk
    refine cd_sound tys_ok _ ?_
    conv => whnf
    refine ⟨fun hlt => ?_, fun hge => ?_⟩
    · have hlt : k < l.length := by simpa using hlt
      rw [all_step _ l k hlt] at he
      conv => whnf
      refine ⟨by omega, .str l[k], strs_get _ _ hlt, ?_⟩
      conv => whnf
      refine ACall.of_spec (refLabel_spec2 l[k] (hs _ (List.getElem_mem hlt))) rfl fun r hr => ?_
      subst hr
      conv => whnf
      refine ⟨fun ht => ?_, fun hf => ?_⟩
      · conv => whnf
        have ht : labelB l[k] = false := by simpa using ht
        rw [ht] at he
        simp [contB, he]
      · have hf : labelB l[k] = true := by simpa using hf
        rw [hf] at he
        conv => whnf
        refine ⟨k + 1, ?_⟩
        conv => whnf
        repeat (refine And.intro ?_ ?_; (focus (first | rfl | (simp; done) | (rw [Wr64 _ (by omega) (by omega)]; omega))); conv => whnf)
        exact ⟨⟨by omega, he⟩, by omega⟩
    · conv => whnf
      simp at hge
      rw [List.drop_eq_nil_of_le hge] at he
      have he : l.all labelB = true := he
      repeat' (refine And.intro (fun _ => ?_) (fun _ => ?_) <;> conv => whnf)
      all_goals (refine congrArg AV.bool ?_; rw [Bool.eq_iff_iff]; simp_all [contB] <;> omega)
end Go.Proofs.YtobdkjjakdjnaaaDoor

set_option linter.unusedVariables false
set_option linter.unusedSimpArgs false
set_option maxRecDepth 100000
namespace Go.Proofs.YtobdkjjakdjnaaaDoor
open Go.Av
/-- A document. -/
structure DD where
  lab : List UInt8
  frm : Int
  to : Int
  time : Int
  count : Int
  root : Int
  give : Int
  take : Int

def DD.av (d : DD) : AV := .agg [.str d.lab, .int .i64 d.frm, .int .i64 d.to, .int .i64 d.time, .int .i64 d.count, .int .i64 d.root, .int .i64 d.give, .int .i64 d.take]
def sigA (d : DD) (keys : List Int) : AV := .agg [.str d.lab, .int .i64 d.frm, .int .i64 d.to, .int .i64 d.time, .int .i64 d.count, .int .i64 d.root, .int .i64 d.give, .int .i64 d.take, .sl 1 (ints keys)]
/-- A document is well-formed for n keys. -/
def docB (n : Nat) (d : DD) : Bool := labelB d.lab && belowB d.frm n && belowB d.to n && belowB d.time 1000001 && decide (1 ≤ d.count) && decide (d.count ≤ 40) && remB d.root && remB d.give && remB d.take
def firstL (keys : List Int) (d : DD) : List Int := [keys.getD d.frm.toNat 0, sumL (codes d.lab), d.frm, d.to, d.time, d.count, d.root]
def secondL (keys : List Int) (d : DD) : List Int := [keys.getD d.to.toNat 0, d.give]
theorem belowB_nat {x : Int} {n : Nat} (h : belowB x n = true) : ∃ k : Nat, x = k ∧ k < n := by
  simp [belowB] at h; exact ⟨x.toNat, by omega, by omega⟩
theorem first_spec (keys : List Int) (d : DD) (h1 : d.lab.length ≤ 1000000) (h2 : belowB d.frm keys.length = true) : Ctr Tryd.prog 35 [sigA d keys] (fun r => r = .sl 1 (ints (firstL keys d))) := by
  obtain ⟨k, hk, hlt⟩ := belowB_nat h2
  have hg : keys.getD d.frm.toNat 0 = keys[k] := by rw [hk]; simp [hlt]
  refine Ctr.of_body Tryd.func35 rfl tys_ok (by kernel_rfl) ?_
  conv => whnf
  refine cd_sound tys_ok _ ?_
  conv => whnf
  refine ACode.draw [] tys_ok (by kernel_rfl) (by kernel_rfl) ?_
  conv => whnf
  refine ⟨by omega, .int .i64 keys[k], by rw [hk]; exact ints_get _ _ hlt, ?_⟩
  conv => whnf
  refine ⟨_, ⟨Label_spec d.lab h1, rfl⟩, ?_⟩
  conv => whnf
  refine ⟨⟨rfl, by simp [closed]⟩, ?_⟩
  simp [firstL, ints, hk, hlt]
theorem second_spec (keys : List Int) (d : DD) (h2 : belowB d.to keys.length = true) : Ctr Tryd.prog 36 [sigA d keys] (fun r => r = .sl 1 (ints (secondL keys d))) := by
  obtain ⟨k, hk, hlt⟩ := belowB_nat h2
  have hg : keys.getD d.to.toNat 0 = keys[k] := by rw [hk]; simp [hlt]
  refine Ctr.of_body Tryd.func36 rfl tys_ok (by kernel_rfl) ?_
  conv => whnf
  refine cd_sound tys_ok _ ?_
  conv => whnf
  refine ACode.draw [] tys_ok (by kernel_rfl) (by kernel_rfl) ?_
  conv => whnf
  refine ⟨by omega, .int .i64 keys[k], by rw [hk]; exact ints_get _ _ hlt, ?_⟩
  conv => whnf
  refine ⟨⟨rfl, by simp [closed]⟩, ?_⟩
  simp [secondL, ints, hk, hlt]
theorem docB_parts {n : Nat} {d : DD} (h : docB n d = true) : labelB d.lab = true ∧ belowB d.frm n = true ∧ belowB d.to n = true := by
  simp [docB] at h; exact ⟨h.1.1.1.1.1.1.1.1, h.1.1.1.1.1.1.1.2, h.1.1.1.1.1.1.2⟩
theorem forged_spec (keys : List Int) (d : DD) (h1 : docB keys.length d = true) : Ctr Tryd.prog 44 [sigA d keys] (fun r => r = .bool (!decide (d.give = sumL (firstL keys d)) || !decide (d.take = sumL (secondL keys d)))) := by
  obtain ⟨a, b, c⟩ := docB_parts h1
  have hl := (labelB_len a).2
  refine Ctr.of_body Tryd.func44 rfl tys_ok (by kernel_rfl) ?_
  conv => whnf
  refine cd_sound tys_ok _ ?_
  conv => whnf
  refine ACode.draw [] tys_ok (by kernel_rfl) (by kernel_rfl) ?_
  conv => whnf
  refine ⟨_, ⟨first_spec keys d (by omega) b, rfl⟩, ?_⟩
  conv => whnf
  refine ⟨_, ⟨Sum_spec (firstL keys d) (by simp [firstL]), rfl⟩, ?_⟩
  conv => whnf
  refine ⟨fun h => ?_, fun h => ?_⟩
  · conv => whnf
    simp at h
    simp [h]
  · conv => whnf
    refine ⟨_, ⟨second_spec keys d c, rfl⟩, ?_⟩
    conv => whnf
    refine ⟨_, ⟨Sum_spec (secondL keys d) (by simp [secondL]), rfl⟩, ?_⟩
    conv => whnf
    refine ⟨fun h2 => ?_, fun h2 => ?_⟩
    all_goals
      conv => whnf
      simp at h h2
      simp [h, h2]
theorem malformed_spec (keys : List Int) (d : DD) (h1 : d.lab.length ≤ 9223372036854775807) : Ctr Tryd.prog 33 [sigA d keys] (fun r => r = .bool (!keysB keys || !docB keys.length d)) := by
  refine Ctr.of_body Tryd.func33 rfl tys_ok (by kernel_rfl) ?_
  conv => whnf
  refine cd_sound tys_ok _ ?_
  conv => whnf
  refine ACall.of_spec (areKeys_spec keys) rfl fun r hr => ?_
  subst hr
  conv => whnf
  refine ⟨fun e1 => ?_, fun e1 => ?_⟩; rotate_left
  · conv => whnf
    simp at e1; simp [e1]
  simp at e1
  conv => whnf
  refine ACall.of_spec (isLabel2_spec d.lab h1) rfl fun r hr => ?_
  subst hr
  conv => whnf
  refine ⟨fun e2 => ?_, fun e2 => ?_⟩; rotate_left
  · conv => whnf
    simp at e2; simp [docB, e2]
  simp at e2
  conv => whnf
  refine ACall.of_spec (below_spec d.frm (ints keys).length) rfl fun r hr => ?_
  subst hr
  conv => whnf
  refine ⟨fun e3 => ?_, fun e3 => ?_⟩; rotate_left
  · conv => whnf
    simp at e3; simp [docB, e3]
  simp at e3
  conv => whnf
  refine ACall.of_spec (below_spec d.to (ints keys).length) rfl fun r hr => ?_
  subst hr
  conv => whnf
  refine ⟨fun e4 => ?_, fun e4 => ?_⟩; rotate_left
  · conv => whnf
    simp at e4; simp [docB, e4]
  simp at e4
  conv => whnf
  refine ACall.of_spec (below_spec d.time 1000001) rfl fun r hr => ?_
  subst hr
  conv => whnf
  refine ⟨fun e5 => ?_, fun e5 => ?_⟩; rotate_left
  · conv => whnf
    simp at e5; simp [docB, e5]
  simp at e5
  conv => whnf
  refine ⟨fun e6 => ?_, fun e6 => ?_⟩; rotate_left
  · conv => whnf
    simp at e6; simp [docB, e6]
  simp at e6
  conv => whnf
  refine ⟨fun e7 => ?_, fun e7 => ?_⟩; rotate_left
  · conv => whnf
    simp at e7; simp [docB, e7]
  simp at e7
  conv => whnf
  refine ACall.of_vcall ⟨⟨rfl, by simp [closed]⟩, .bool ([d.root, d.give, d.take].all remB), ⟨allInt_spec (f := 62) (cap := []) rfl remB [d.root, d.give, d.take] (fun n => isRemainder_spec n) (by simp), rfl⟩, ?_⟩ (by kernel_rfl)
  conv => whnf
  simp [docB, e1, e2, e3, e4, e5, e6, e7, Bool.and_assoc]
/-- A signed document with the label that is to be in it. -/
def shnA (d : DD) (keys : List Int) (s : List UInt8) (i : Int) (path : List Int) : AV := .agg [.str d.lab, .int .i64 d.frm, .int .i64 d.to, .int .i64 d.time, .int .i64 d.count, .int .i64 d.root, .int .i64 d.give, .int .i64 d.take, .sl 1 (ints keys), .str s, .int .i64 i, .sl 1 (ints path)]
theorem misplaced_spec (d : DD) (keys : List Int) (s : List UInt8) (i : Int) (path : List Int) (hs : s.length ≤ 9223372036854775807) : Ctr Tryd.prog 45 [shnA d keys s i path] (fun r => r = .bool (!labelB s || !belowB i d.count)) := by
  refine Ctr.of_body Tryd.func45 rfl tys_ok (by kernel_rfl) ?_
  conv => whnf
  refine cd_sound tys_ok _ ?_
  conv => whnf
  refine ACall.of_spec (isLabel2_spec s hs) rfl fun r hr => ?_
  subst hr
  conv => whnf
  refine ⟨fun e1 => ?_, fun e1 => ?_⟩; rotate_left
  · conv => whnf
    simp at e1; simp [e1]
  simp at e1
  conv => whnf
  refine ACall.of_spec (below_spec i d.count) rfl fun r hr => ?_
  subst hr
  conv => whnf
  simp [e1]
def malB (keys : List Int) (d : DD) : Bool := !keysB keys || !docB keys.length d
def forB (keys : List Int) (d : DD) : Bool := !decide (d.give = sumL (firstL keys d)) || !decide (d.take = sumL (secondL keys d))
def misB (d : DD) (s : List UInt8) (i : Int) : Bool := !labelB s || !belowB i d.count
def unpB (d : DD) (s : List UInt8) (i : Int) (path : List Int) : Bool := (climbOf s i path).2.isEmpty || !decide ((climbOf s i path).1 = d.root)
theorem unproved_spec (d : DD) (keys : List Int) (s : List UInt8) (i : Int) (path : List Int) (hs : s.length ≤ 1000000) (hi : i ≤ 9223372036854775807) (hp : path.length ≤ 1000000) : Ctr Tryd.prog 46 [shnA d keys s i path]
    (fun r => r = .bool (unpB d s i path)) := by
  refine Ctr.of_body Tryd.func46 rfl tys_ok (by kernel_rfl) ?_
  conv => whnf
  refine cd_sound tys_ok _ ?_
  conv => whnf
  refine ACall.of_spec (Climb_spec s i path hs hi hp) rfl fun r hr => ?_
  subst hr
  conv => whnf
  have e : decide (((rowsA (climbOf s i path).2).length : Int) = 0) = (climbOf s i path).2.isEmpty := by
    cases (climbOf s i path).2 <;> simp <;> omega
  rw [e]
  refine ⟨fun h => ?_, fun h => ?_⟩
  · conv => whnf
    simp [unpB, h]
  · conv => whnf
    simp [unpB, h]
def checkE (keys : List Int) (d : DD) : Int := if malB keys d = true then 1 else if forB keys d = true then 330 else 0
def verifyE (keys : List Int) (d : DD) (s : List UInt8) (i : Int) (path : List Int) : Int := if malB keys d = true then 1 else if forB keys d = true then 330 else if misB d s i = true then 1 else if unpB d s i path = true then 190 else 0
theorem mal_doc {keys : List Int} {d : DD} (h : malB keys d = false) : keysB keys = true ∧ docB keys.length d = true := by
  simp [malB] at h; exact h
theorem Check_spec (keys : List Int) (d : DD) (h1 : d.lab.length ≤ 9223372036854775807) : Ctr Tryd.prog 17 [.sl 1 (ints keys), d.av] (fun r => r = .int .i64 (checkE keys d)) := by
  refine Ctr.of_body Tryd.func17 rfl tys_ok (by kernel_rfl) ?_
  conv => whnf
  refine cd_sound tys_ok _ ?_
  conv => whnf
  refine ACall.of_vcall ⟨⟨rfl, by simp [closed, closeds]⟩, .int .i64 (checkE keys d), ⟨firstError_spec [⟨33, [sigA d keys], 1, malB keys d⟩, ⟨44, [sigA d keys], 330, forB keys d⟩] (by simp) ⟨⟨rfl, malformed_spec keys d h1⟩, fun h => ⟨⟨rfl, forged_spec keys d (mal_doc h).2⟩, fun _ => trivial⟩⟩, rfl⟩, ?_⟩ (by kernel_rfl)
  conv => whnf
theorem Verify_spec (keys : List Int) (d : DD) (s : List UInt8) (i : Int) (path : List Int) (h1 : d.lab.length ≤ 9223372036854775807) (hs : s.length ≤ 9223372036854775807) (hp : path.length ≤ 1000000) : Ctr Tryd.prog 19 [.sl 1 (ints keys), .agg [.str d.lab, .int .i64 d.frm, .int .i64 d.to, .int .i64 d.time, .int .i64 d.count, .int .i64 d.root, .int .i64 d.give, .int .i64 d.take, .str s, .int .i64 i, .sl 1 (ints path)]] (fun r => r = .int .i64 (verifyE keys d s i path)) := by
  refine Ctr.of_body Tryd.func19 rfl tys_ok (by kernel_rfl) ?_
  conv => whnf
  refine cd_sound tys_ok _ ?_
  conv => whnf
  refine ACall.of_vcall ⟨⟨rfl, by simp [closed, closeds]⟩, .int .i64 (verifyE keys d s i path), ⟨firstError_spec [⟨33, [sigA d keys], 1, malB keys d⟩, ⟨44, [sigA d keys], 330, forB keys d⟩,
    ⟨45, [shnA d keys s i path], 1, misB d s i⟩, ⟨46, [shnA d keys s i path], 190, unpB d s i path⟩] (by simp)
      ⟨⟨rfl, malformed_spec keys d h1⟩, fun h => ⟨⟨rfl, forged_spec keys d (mal_doc h).2⟩, fun _ => ⟨⟨rfl, misplaced_spec d keys s i path hs⟩, fun h2 => ⟨⟨rfl, ?_⟩, fun _ => trivial⟩⟩⟩⟩, rfl⟩, ?_⟩ (by kernel_rfl)
  · have h3 := (mal_doc h).2
    simp [misB] at h2
    have h4 := labelB_len h2.1
    have h5 := h2.2
    simp [belowB] at h5
    simp [docB] at h3
    exact unproved_spec d keys s i path (by omega) (by omega) hp
  conv => whnf
def proveR (l : List (List UInt8)) (i : Int) : AV := if contB l && belowB i l.length then .tuple [.agg [.int .i64 i, .sl 1 (ints (pathOf l i))], .int .i64 0] else .tuple [.agg [.int .i64 0, .sl 1 []], .int .i64 1]
theorem Prove_spec (l : List (List UInt8)) (i : Int) (hl : l.length ≤ 9223372036854775807) (hs : ∀ s ∈ l, s.length ≤ 9223372036854775807) : Ctr Tryd.prog 14 [.sl 1 (strs l), .int .i64 i] (fun r => r = proveR l i) := by
  refine Ctr.of_body Tryd.func14 rfl tys_ok (by kernel_rfl) ?_
  conv => whnf
  refine cd_sound tys_ok _ ?_
  conv => whnf
  refine ACall.of_spec (areContents_spec l hl hs) rfl fun r hr => ?_
  subst hr
  conv => whnf
  refine ⟨fun e1 => ?_, fun e1 => ?_⟩; rotate_left
  · conv => whnf
    refine ⟨1, ?_⟩
    conv => whnf
    simp at e1; simp [proveR, e1]
  simp at e1
  conv => whnf
  refine ACall.of_spec (below_spec i (strs l).length) rfl fun r hr => ?_
  subst hr
  conv => whnf
  rw [strs_length]
  refine ⟨fun e2 => ?_, fun e2 => ?_⟩
  · conv => whnf
    refine ⟨1, ?_⟩
    conv => whnf
    simp at e2; simp [proveR, e2]
  simp at e2
  conv => whnf
  have h40 : l.length ≤ 40 := by simp [contB] at e1; omega
  have hs' : ∀ s ∈ l, s.length ≤ 1000000 := fun s h => by
    simp [contB] at e1
    have := labelB_len (e1.2 s h); omega
  refine ACall.of_spec (Path_spec l i (by omega) hs') rfl fun r hr => ?_
  subst hr
  conv => whnf
  simp [proveR, e1, e2]
def wD0 (frm to : Int) (lab : List UInt8) (time : Int) (l : List (List UInt8)) : DD := ⟨lab, frm, to, time, l.length, rootOf l, 0, 0⟩
def wD1 (keys : List Int) (frm to : Int) (lab : List UInt8) (time : Int) (l : List (List UInt8)) : DD := ⟨lab, frm, to, time, l.length, rootOf l, sumL (firstL keys (wD0 frm to lab time l)), 0⟩
def writeD (keys : List Int) (frm to : Int) (lab : List UInt8) (time : Int) (l : List (List UInt8)) : DD := ⟨lab, frm, to, time, l.length, rootOf l, sumL (firstL keys (wD0 frm to lab time l)), sumL (secondL keys (wD1 keys frm to lab time l))⟩
def zeroD : DD := ⟨[], 0, 0, 0, 0, 0, 0, 0⟩
def writeB (keys : List Int) (frm to : Int) (lab : List UInt8) (time : Int) (l : List (List UInt8)) : Bool := contB l && !malB keys (wD0 frm to lab time l)
def writeR (keys : List Int) (frm to : Int) (lab : List UInt8) (time : Int) (l : List (List UInt8)) : AV :=
  if writeB keys frm to lab time l then .tuple [(writeD keys frm to lab time l).av, .int .i64 0] else .tuple [zeroD.av, .int .i64 1]
theorem Write_spec (keys : List Int) (frm to : Int) (lab : List UInt8) (time : Int) (l : List (List UInt8)) (hlab : lab.length ≤ 9223372036854775807) (hl : l.length ≤ 9223372036854775807) (hs : ∀ s ∈ l, s.length ≤ 9223372036854775807) :
    Ctr Tryd.prog 12 [.sl 1 (ints keys), .int .i64 frm, .int .i64 to, .str lab, .int .i64 time, .sl 1 (strs l)] (fun r => r = writeR keys frm to lab time l) := by
  refine Ctr.of_body Tryd.func12 rfl tys_ok (by kernel_rfl) ?_
  conv => whnf
  refine cd_sound tys_ok _ ?_
  conv => whnf
  refine ACall.of_spec (areContents_spec l hl hs) rfl fun r hr => ?_
  subst hr
  conv => whnf
  refine ⟨fun e1 => ?_, fun e1 => ?_⟩
  · conv => whnf
    simp at e1; simp [writeR, writeB, e1]; rfl
  simp at e1
  conv => whnf
  have h40 : l.length ≤ 40 := by simp [contB] at e1; omega
  have hs' : ∀ s ∈ l, s.length ≤ 1000000 := fun s h => by
    simp [contB] at e1
    have := labelB_len (e1.2 s h); omega
  refine ACall.of_spec (Root_spec l (by omega) hs') rfl fun r hr => ?_
  subst hr
  conv => whnf
  rw [strs_length]
  refine ACall.of_vcall ⟨⟨rfl, by simp [closed, closeds]⟩, .int .i64 (if malB keys (wD0 frm to lab time l) = true then 1 else 0), ⟨firstError_spec [⟨33, [sigA (wD0 frm to lab time l) keys], 1, malB keys (wD0 frm to lab time l)⟩] (by simp) ⟨⟨rfl, malformed_spec keys (wD0 frm to lab time l) hlab⟩, fun h => trivial⟩, rfl⟩, ?_⟩ (by kernel_rfl)
  conv => whnf
  cases hm : malB keys (wD0 frm to lab time l) with
  | true =>
    refine ⟨fun h => ?_, fun h => absurd h (by simp)⟩
    conv => whnf
    simp [writeR, writeB, hm, zeroD]; rfl
  | false =>
    refine ⟨fun h => absurd h (by simp), fun h => ?_⟩
    have hd := (mal_doc hm).2
    obtain ⟨a, b, c⟩ := docB_parts hd
    have hlen := (labelB_len a).2
    have hlen : lab.length ≤ 20 := hlen
    conv => whnf
    refine ACall.of_spec (first_spec keys (wD0 frm to lab time l) (by show lab.length ≤ 1000000; omega) b) rfl fun r hr => ?_
    subst hr
    conv => whnf
    refine ACall.of_spec (Sum_spec (firstL keys (wD0 frm to lab time l)) (by simp [firstL])) rfl fun r hr => ?_
    subst hr
    conv => whnf
    refine ACall.of_spec (second_spec keys (wD1 keys frm to lab time l) c) rfl fun r hr => ?_
    subst hr
    conv => whnf
    refine ACall.of_spec (Sum_spec (secondL keys (wD1 keys frm to lab time l)) (by simp [secondL])) rfl fun r hr => ?_
    subst hr
    conv => whnf
    simp [writeR, writeB, e1, hm]
    rfl
end Go.Proofs.YtobdkjjakdjnaaaDoor

set_option linter.unusedVariables false
set_option linter.unusedSimpArgs false
set_option maxRecDepth 100000
namespace Go.Proofs.YtobdkjjakdjnaaaDoor
open Go.Av
theorem refFirst_spec (keys : List Int) (d : DD) (h1 : d.lab.length ≤ 1000000) (h2 : belowB d.frm keys.length = true) : Ctr Tryd.prog 24 [.sl 1 (ints keys), d.av] (fun r => r = .sl 1 (ints (firstL keys d))) := by
  obtain ⟨k, hk, hlt⟩ := belowB_nat h2
  refine Ctr.of_body Tryd.func24 rfl tys_ok (by kernel_rfl) ?_
  conv => whnf
  refine cd_sound tys_ok _ ?_
  conv => whnf
  refine ACode.draw [] tys_ok (by kernel_rfl) (by kernel_rfl) ?_
  conv => whnf
  refine ⟨by omega, .int .i64 keys[k], by rw [hk]; exact ints_get _ _ hlt, ?_⟩
  conv => whnf
  refine ⟨_, ⟨refLabel_spec d.lab h1, rfl⟩, ?_⟩
  conv => whnf
  refine ⟨⟨rfl, by simp [closed]⟩, ?_⟩
  simp [firstL, ints, hk, hlt]
theorem refSecond_spec (keys : List Int) (d : DD) (h2 : belowB d.to keys.length = true) : Ctr Tryd.prog 39 [.sl 1 (ints keys), d.av] (fun r => r = .sl 1 (ints (secondL keys d))) := by
  obtain ⟨k, hk, hlt⟩ := belowB_nat h2
  refine Ctr.of_body Tryd.func39 rfl tys_ok (by kernel_rfl) ?_
  conv => whnf
  refine cd_sound tys_ok _ ?_
  conv => whnf
  refine ACode.draw [] tys_ok (by kernel_rfl) (by kernel_rfl) ?_
  conv => whnf
  refine ⟨by omega, .int .i64 keys[k], by rw [hk]; exact ints_get _ _ hlt, ?_⟩
  conv => whnf
  refine ⟨⟨rfl, by simp [closed]⟩, ?_⟩
  simp [secondL, ints, hk, hlt]
theorem docB_iff (n : Nat) (d : DD) : docB n d = true ↔ labelB d.lab = true ∧ (0 ≤ d.frm ∧ d.frm < n) ∧ (0 ≤ d.to ∧ d.to < n) ∧ (0 ≤ d.time ∧ d.time ≤ 1000000) ∧ (1 ≤ d.count ∧ d.count ≤ 40) ∧ remB d.root = true ∧ remB d.give = true ∧ remB d.take = true := by
  simp [docB, belowB, and_assoc]; omega
theorem docB_no {n : Nat} {d : DD} (h : d.frm < 0 ∨ (n : Int) ≤ d.frm ∨ d.to < 0 ∨ (n : Int) ≤ d.to ∨ d.time < 0 ∨ 1000000 < d.time ∨ d.count < 1 ∨ 40 < d.count) : AV.bool false = .bool (docB n d) := by
  refine congrArg AV.bool ?_; symm; rw [Bool.eq_false_iff, ne_eq, docB_iff]; omega
theorem refValid_spec (keys : List Int) (d : DD) (h1 : d.lab.length ≤ 9223372036854775807) : Ctr Tryd.prog 23 [.sl 1 (ints keys), d.av] (fun r => r = .bool (docB keys.length d)) := by
  refine Ctr.of_body Tryd.func23 rfl tys_ok (by kernel_rfl) ?_
  conv => whnf
  refine cd_sound tys_ok _ ?_
  conv => whnf
  refine ACall.of_spec (refLabel_spec2 d.lab h1) rfl fun r hr => ?_
  subst hr
  conv => whnf
  refine ⟨fun e1 => ?_, fun e1 => ?_⟩; rotate_left
  · conv => whnf
    try simp at e1
    simp [docB, e1]
  try simp at e1
  conv => whnf
  refine ⟨fun e2 => ?_, fun e2 => ?_⟩; rotate_left
  · conv => whnf
    try simp at e2
    exact docB_no (by omega)
  try simp at e2
  conv => whnf
  refine ⟨fun e3 => ?_, fun e3 => ?_⟩; rotate_left
  · conv => whnf
    try simp at e3
    exact docB_no (by omega)
  try simp at e3
  conv => whnf
  refine ⟨fun e4 => ?_, fun e4 => ?_⟩; rotate_left
  · conv => whnf
    try simp at e4
    exact docB_no (by omega)
  try simp at e4
  conv => whnf
  refine ⟨fun e5 => ?_, fun e5 => ?_⟩; rotate_left
  · conv => whnf
    try simp at e5
    exact docB_no (by omega)
  try simp at e5
  conv => whnf
  refine ⟨fun e6 => ?_, fun e6 => ?_⟩; rotate_left
  · conv => whnf
    try simp at e6
    exact docB_no (by omega)
  try simp at e6
  conv => whnf
  refine ⟨fun e7 => ?_, fun e7 => ?_⟩; rotate_left
  · conv => whnf
    try simp at e7
    exact docB_no (by omega)
  try simp at e7
  conv => whnf
  refine ⟨fun e8 => ?_, fun e8 => ?_⟩; rotate_left
  · conv => whnf
    try simp at e8
    exact docB_no (by omega)
  try simp at e8
  conv => whnf
  refine ⟨fun e9 => ?_, fun e9 => ?_⟩; rotate_left
  · conv => whnf
    try simp at e9
    exact docB_no (by omega)
  try simp at e9
  conv => whnf
  refine ACall.of_spec (Remainder_spec d.root) rfl fun r hr => ?_
  subst hr
  conv => whnf
  refine ⟨fun e10 => ?_, fun e10 => ?_⟩; rotate_left
  · conv => whnf
    try simp at e10
    simp [docB, belowB, e10]
  try simp at e10
  conv => whnf
  refine ACall.of_spec (Remainder_spec d.give) rfl fun r hr => ?_
  subst hr
  conv => whnf
  refine ⟨fun e11 => ?_, fun e11 => ?_⟩; rotate_left
  · conv => whnf
    try simp at e11
    simp [docB, belowB, e11]
  try simp at e11
  conv => whnf
  refine ACall.of_spec (Remainder_spec d.take) rfl fun r hr => ?_
  subst hr
  conv => whnf
  refine congrArg AV.bool ?_
  rw [Bool.eq_iff_iff, docB_iff]
  cases ht : remB d.take
  · simp
  · simp [e1, e10, e11]; omega
theorem refCheck_spec (keys : List Int) (d : DD) (hk : keys.length ≤ 9223372036854775807) (h1 : d.lab.length ≤ 9223372036854775807) : Ctr Tryd.prog 18 [.sl 1 (ints keys), d.av] (fun r => r = .int .i64 (checkE keys d)) := by
  refine Ctr.of_body Tryd.func18 rfl tys_ok (by kernel_rfl) ?_
  conv => whnf
  refine cd_sound tys_ok _ ?_
  conv => whnf
  refine ACall.of_spec (refKeys_spec keys hk) rfl fun r hr => ?_
  subst hr
  conv => whnf
  refine ⟨fun e1 => ?_, fun e1 => ?_⟩; rotate_left
  · conv => whnf
    simp at e1; simp [checkE, malB, e1]
  simp at e1
  conv => whnf
  refine ACall.of_spec (refValid_spec keys d h1) rfl fun r hr => ?_
  subst hr
  conv => whnf
  refine ⟨fun e2 => ?_, fun e2 => ?_⟩
  · conv => whnf
    simp at e2; simp [checkE, malB, e2]
  simp at e2
  have hm : malB keys d = false := by simp [malB, e1, e2]
  obtain ⟨a, b, c⟩ := docB_parts e2
  have hl := (labelB_len a).2
  conv => whnf
  refine ACode.draw [] tys_ok (by kernel_rfl) (by kernel_rfl) ?_
  conv => whnf
  refine ⟨_, ⟨refFirst_spec keys d (by omega) b, rfl⟩, ?_⟩
  conv => whnf
  refine ⟨_, ⟨refSum_spec (firstL keys d) (by simp [firstL]), rfl⟩, ?_⟩
  conv => whnf
  refine ⟨fun h => ?_, fun h => ?_⟩
  · conv => whnf
    simp at h
    simp [checkE, hm, forB, h]
  · conv => whnf
    refine ⟨_, ⟨refSecond_spec keys d c, rfl⟩, ?_⟩
    conv => whnf
    refine ⟨_, ⟨refSum_spec (secondL keys d) (by simp [secondL]), rfl⟩, ?_⟩
    conv => whnf
    refine ⟨fun h2 => ?_, fun h2 => ?_⟩
    all_goals
      conv => whnf
      simp at h h2
      simp [checkE, hm, forB, h, h2]
theorem refVerify_spec (keys : List Int) (d : DD) (s : List UInt8) (i : Int) (path : List Int) (hk : keys.length ≤ 9223372036854775807) (h1 : d.lab.length ≤ 9223372036854775807) (hs : s.length ≤ 9223372036854775807) (hp : path.length ≤ 1000000) : Ctr Tryd.prog 20 [.sl 1 (ints keys), .agg [.str d.lab, .int .i64 d.frm, .int .i64 d.to, .int .i64 d.time, .int .i64 d.count, .int .i64 d.root, .int .i64 d.give, .int .i64 d.take, .str s, .int .i64 i, .sl 1 (ints path)]] (fun r => r = .int .i64 (verifyE keys d s i path)) := by
  refine Ctr.of_body Tryd.func20 rfl tys_ok (by kernel_rfl) ?_
  conv => whnf
  refine cd_sound tys_ok _ ?_
  conv => whnf
  refine ACall.of_spec (refCheck_spec keys d hk h1) rfl fun r hr => ?_
  subst hr
  conv => whnf
  refine ⟨fun e1 => ?_, fun e1 => ?_⟩
  · conv => whnf
    simp at e1; unfold verifyE; unfold checkE at e1 ⊢
    by_cases a : malB keys d = true
    · simp [a]
    · by_cases b : forB keys d = true
      · simp [a, b]
      · simp [a, b] at e1
  simp at e1
  have e1 : malB keys d = false ∧ forB keys d = false := by
    unfold checkE at e1
    by_cases a : malB keys d = true
    · simp [a] at e1
    · by_cases b : forB keys d = true
      · simp [a, b] at e1
      · simp [a, b]
  obtain ⟨hm, hf⟩ := e1
  have h3 := (docB_iff _ _).1 (mal_doc hm).2
  conv => whnf
  refine ACall.of_spec (refLabel_spec2 s hs) rfl fun r hr => ?_
  subst hr
  conv => whnf
  refine ⟨fun e2 => ?_, fun e2 => ?_⟩; rotate_left
  · conv => whnf
    try simp at e2
    simp [verifyE, hm, hf, misB, e2]
  try simp at e2
  conv => whnf
  refine ⟨fun e3 => ?_, fun e3 => ?_⟩; rotate_left
  · conv => whnf
    try simp at e3
    simp [verifyE, hm, hf, misB, belowB, e3]
  try simp at e3
  conv => whnf
  refine ⟨fun e4 => ?_, fun e4 => ?_⟩
  · conv => whnf
    try simp at e4
    simp [verifyE, hm, hf, misB, belowB, e4]
  try simp at e4
  conv => whnf
  have hmis : misB d s i = false := by simp [misB, belowB, e2]; omega
  have hl := labelB_len e2
  refine ACall.of_spec (refClimb_spec s i path (by omega) (by omega) hp) rfl fun r hr => ?_
  subst hr
  conv => whnf
  have e : decide (((rowsA (climbOf s i path).2).length : Int) = 0) = (climbOf s i path).2.isEmpty := by
    cases (climbOf s i path).2 <;> simp <;> omega
  rw [e]
  refine ⟨fun e5 => ?_, fun e5 => ?_⟩; rotate_left
  · conv => whnf
    try simp at e5
    simp [verifyE, hm, hf, hmis, unpB, e5]
  try simp at e5
  conv => whnf
  have e5 : (climbOf s i path).2.isEmpty = false := by simp [e5]
  refine ⟨fun e6 => ?_, fun e6 => ?_⟩
  all_goals
    conv => whnf
    simp at e6; simp [verifyE, hm, hf, hmis, unpB, e5, e6]
theorem refProve_spec (l : List (List UInt8)) (i : Int) (hl : l.length ≤ 9223372036854775807) (hs : ∀ s ∈ l, s.length ≤ 9223372036854775807) : Ctr Tryd.prog 15 [.sl 1 (strs l), .int .i64 i] (fun r => r = proveR l i) := by
  refine Ctr.of_body Tryd.func15 rfl tys_ok (by kernel_rfl) ?_
  conv => whnf
  refine cd_sound tys_ok _ ?_
  conv => whnf
  refine ACall.of_spec (refContents_spec l hl hs) rfl fun r hr => ?_
  subst hr
  conv => whnf
  refine ⟨fun e1 => ?_, fun e1 => ?_⟩; rotate_left
  · conv => whnf
    try simp at e1
    refine ⟨1, ?_⟩; (conv => whnf); simp [proveR, e1]
  try simp at e1
  conv => whnf
  refine ⟨fun e2 => ?_, fun e2 => ?_⟩; rotate_left
  · conv => whnf
    try simp at e2
    refine ⟨1, ?_⟩; (conv => whnf); simp [proveR, belowB, e1]; omega
  try simp at e2
  conv => whnf
  refine ⟨fun e3 => ?_, fun e3 => ?_⟩
  · conv => whnf
    try simp at e3
    refine ⟨1, ?_⟩; (conv => whnf); simp [proveR, belowB, e1]; omega
  try simp at e3
  conv => whnf
  have h40 : l.length ≤ 40 := by simp [contB] at e1; omega
  have hs' : ∀ s ∈ l, s.length ≤ 1000000 := fun s h => by
    simp [contB] at e1
    have := labelB_len (e1.2 s h); omega
  refine ACall.of_spec (refPath_spec l i (by omega) hs') rfl fun r hr => ?_
  subst hr
  conv => whnf
  simp [proveR, e1, belowB, e2, e3]
theorem rootOf_rem (l : List (List UInt8)) : remB (rootOf l) = true := by
  unfold remB belowB rootOf
  split
  · simp
  · unfold rootL
    split
    · simp
    · rename_i h1 h2
      have h3 : (rowsOf l).length - 1 < (rowsOf l).length := by omega
      obtain ⟨_, _, h4⟩ := rowsOf_get l _ h3
      have e : (rowsOf l).getD ((rowsOf l).length - 1) [] = tier ((rowsOf l).length - 1) (leaves l) := by
        rw [List.getD_eq_getElem?_getD, List.getElem?_eq_getElem h3, h4]; rfl
      rw [e]
      have := bd_tier (bd_leaves l) ((rowsOf l).length - 1) 0
      simpa using this
theorem refWrite_spec (keys : List Int) (frm to : Int) (lab : List UInt8) (time : Int) (l : List (List UInt8)) (hk : keys.length ≤ 9223372036854775807) (hlab : lab.length ≤ 9223372036854775807) (hl : l.length ≤ 9223372036854775807) (hs : ∀ s ∈ l, s.length ≤ 9223372036854775807) :
    Ctr Tryd.prog 13 [.sl 1 (ints keys), .int .i64 frm, .int .i64 to, .str lab, .int .i64 time, .sl 1 (strs l)] (fun r => r = writeR keys frm to lab time l) := by
  refine Ctr.of_body Tryd.func13 rfl tys_ok (by kernel_rfl) ?_
  conv => whnf
  refine cd_sound tys_ok _ ?_
  conv => whnf
  refine ACall.of_spec (refKeys_spec keys hk) rfl fun r hr => ?_
  subst hr
  conv => whnf
  refine ⟨fun e1 => ?_, fun e1 => ?_⟩; rotate_left
  · conv => whnf
    try simp at e1
    simp [writeR, writeB, malB, e1]; rfl
  try simp at e1
  conv => whnf
  refine ACall.of_spec (refContents_spec l hl hs) rfl fun r hr => ?_
  subst hr
  conv => whnf
  refine ⟨fun e2 => ?_, fun e2 => ?_⟩; rotate_left
  · conv => whnf
    try simp at e2
    simp [writeR, writeB, malB, e2]; rfl
  try simp at e2
  conv => whnf
  have h40 : l.length ≤ 40 := by simp [contB] at e2; omega
  have hs' : ∀ s ∈ l, s.length ≤ 1000000 := fun s h => by
    simp [contB] at e2
    have := labelB_len (e2.2 s h); omega
  refine ACall.of_spec (refValid_spec keys ⟨lab, frm, to, time, (strs l).length, 0, 0, 0⟩ hlab) rfl fun r hr => ?_
  subst hr
  conv => whnf
  have hv : docB keys.length ⟨lab, frm, to, time, (strs l).length, 0, 0, 0⟩ = docB keys.length (wD0 frm to lab time l) := by
    rw [Bool.eq_iff_iff, docB_iff, docB_iff]
    have := rootOf_rem l
    simp [wD0, this, show remB 0 = true from rfl]
  rw [hv]
  refine ⟨fun e3 => ?_, fun e3 => ?_⟩
  · conv => whnf
    try simp at e3
    simp [writeR, writeB, malB, e3]; rfl
  try simp at e3
  conv => whnf
  have hd := e3
  obtain ⟨a, b, c⟩ := docB_parts hd
  have hlen := (labelB_len a).2
  have hlen : lab.length ≤ 20 := hlen
  refine ACall.of_spec (refRoot_spec l (by omega) hs') rfl fun r hr => ?_
  subst hr
  conv => whnf
  rw [strs_length]
  refine ACall.of_spec (refFirst_spec keys (wD0 frm to lab time l) (by show lab.length ≤ 1000000; omega) b) rfl fun r hr => ?_
  subst hr
  conv => whnf
  refine ACall.of_spec (refSum_spec (firstL keys (wD0 frm to lab time l)) (by simp [firstL])) rfl fun r hr => ?_
  subst hr
  conv => whnf
  refine ACall.of_spec (refSecond_spec keys (wD1 keys frm to lab time l) c) rfl fun r hr => ?_
  subst hr
  conv => whnf
  refine ACall.of_spec (refSum_spec (secondL keys (wD1 keys frm to lab time l)) (by simp [secondL])) rfl fun r hr => ?_
  subst hr
  conv => whnf
  simp [writeR, writeB, malB, e1, e2, e3]
  rfl
theorem SameProof_spec (i j : Int) (p q : List Int) (hp : p.length ≤ 1000000) (hq : q.length ≤ 1000000) : Ctr Tryd.prog 16 [.agg [.int .i64 i, .sl 1 (ints p)], .agg [.int .i64 j, .sl 1 (ints q)]] (fun r => r = .bool (decide (i = j) && p == q)) := by
  refine Ctr.of_body Tryd.func16 rfl tys_ok (by kernel_rfl) ?_
  conv => whnf
  refine cd_sound tys_ok _ ?_
  conv => whnf
  refine ⟨fun e1 => ?_, fun e1 => ?_⟩
  · conv => whnf
    refine ACall.of_spec (Ints_spec p q hp hq) rfl fun r hr => ?_
    subst hr
    conv => whnf
    simp [e1]
  · conv => whnf
    simp [e1]
def smallB (keys : List Int) (l : List (List UInt8)) (lab : List UInt8) (path : List Int) : Bool := decide (keys.length ≤ 10) && decide (l.length ≤ 45) && decide (lab.length ≤ 30) && decide (path.length ≤ 30) && l.all fun s => decide (s.length ≤ 30)
theorem small_no1 {keys : List Int} {l : List (List UInt8)} {lab : List UInt8} {path : List Int} (h : 10 < keys.length ∨ 45 < l.length ∨ 30 < lab.length ∨ 30 < path.length) : AV.bool false = .bool (smallB keys l lab path) := by
  refine congrArg AV.bool ?_; symm; rw [Bool.eq_false_iff]; simp only [smallB, ne_eq, Bool.and_eq_true, decide_eq_true_eq]; omega
theorem Small_spec (keys : List Int) (l : List (List UInt8)) (lab : List UInt8) (path : List Int) : Ctr Tryd.prog 11 [.sl 1 (ints keys), .sl 1 (strs l), .str lab, .sl 1 (ints path)] (fun r => r = .bool (smallB keys l lab path)) := by
  refine Ctr.of_body Tryd.func11 rfl tys_ok (by kernel_rfl) ?_
  conv => whnf
  refine cd_sound tys_ok _ ?_
  conv => whnf
  refine ⟨fun e1 => ?_, fun e1 => ?_⟩; rotate_left
  · conv => whnf
    try simp at e1
    exact small_no1 (by omega)
  try simp at e1
  conv => whnf
  refine ⟨fun e2 => ?_, fun e2 => ?_⟩; rotate_left
  · conv => whnf
    try simp at e2
    exact small_no1 (by omega)
  try simp at e2
  conv => whnf
  refine ⟨fun e3 => ?_, fun e3 => ?_⟩; rotate_left
  · conv => whnf
    try simp at e3
    exact small_no1 (by omega)
  try simp at e3
  conv => whnf
  refine ⟨fun e4 => ?_, fun e4 => ?_⟩
  · conv => whnf
    try simp at e4
    exact small_no1 (by omega)
  try simp at e4
  conv => whnf
  refine ACode.loopT (fun k : Nat => mk 40 [(1, .sl 1 (strs l)), (9, .int .i64 k)]) (fun _ => []) (fun k => k ≤ l.length ∧ (l.all fun s => decide (s.length ≤ 30)) = (l.drop k).all fun s => decide (s.length ≤ 30)) (fun k => l.length - k) ⟨0, ?_⟩ fun k hk => ?_
  · conv => whnf
    repeat (refine And.intro ?_ ?_; (focus (first | rfl | (simp; done))); conv => whnf)
    rfl
  · obtain ⟨hk, he⟩ := hk
    refine cd_sound tys_ok _ ?_
    conv => whnf
    refine ⟨fun hlt => ?_, fun hge => ?_⟩
    · have hlt : k < l.length := by simpa using hlt
      rw [all_step _ l k hlt] at he
      conv => whnf
      refine ⟨by omega, .str l[k], strs_get _ _ hlt, ?_⟩
      conv => whnf
      refine ⟨fun ht => ?_, fun hf => ?_⟩
      · conv => whnf
        simp at ht
        have ht : decide (l[k].length ≤ 30) = false := by simp; omega
        rw [ht] at he
        simp [smallB, he]
      · simp at hf
        have hf : decide (l[k].length ≤ 30) = true := by simp; omega
        rw [hf] at he
        conv => whnf
        refine ⟨k + 1, ?_⟩
        conv => whnf
        repeat (refine And.intro ?_ ?_; (focus (first | rfl | (simp; done) | (rw [Wr64 _ (by omega) (by omega)]; omega))); conv => whnf)
        exact ⟨⟨by omega, he⟩, by omega⟩
    · conv => whnf
      simp at hge
      rw [List.drop_eq_nil_of_le hge] at he
      have he : (l.all fun s => decide (s.length ≤ 30)) = true := he
      refine congrArg AV.bool ?_
      simp only [smallB, he, Bool.and_true]
      symm
      simp only [Bool.and_eq_true, decide_eq_true_eq]
      omega
end Go.Proofs.YtobdkjjakdjnaaaDoor
