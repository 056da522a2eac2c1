/-
  records.isLabel, different, complete, Valid.
-/
import Derived.Test.YtiojkoaefabjbaaGreatDoorA1
set_option linter.unusedVariables false
set_option linter.unusedSimpArgs false
namespace Go.Proofs.YtiojkoaefabjbaaGreatDoor
open Go.Av Go.Shelf Pl
theorem other_spec (x : Nat) (hx : x ≤ 1114111) : Ctr Tryz.prog 74 [.int .i32 x] (fun r => r = .bool (otherB x)) := by
  refine Ctr.of_body Tryz.func74 rfl tys_ok (by kernel_rfl) ?_
  conv => whnf
  refine cd_sound tys_ok _ ?_
  conv => whnf
  have e46 : ((x : Int) = 46) ↔ (x = 46) := by omega
  repeat' (refine And.intro (fun _ => ?_) (fun _ => ?_) <;> conv => whnf)
  all_goals (refine congrArg AV.bool ?_; unfold otherB; simp_all <;> first | omega | (simp only [e46]))
theorem decode_first (s : ByteArray) (i : Nat) : ((s.get! i).toNat < 128 ∧ Utf8.decode s i = ((s.get! i).toNat, 1)) ∨ (128 ≤ (s.get! i).toNat ∧ 128 ≤ (Utf8.decode s i).1) := by
  unfold Utf8.decode
  simp only [Nat.add_zero]
  split
  · rename_i h; exact .inl ⟨h, rfl⟩
  · rename_i h
    refine .inr ⟨by omega, ?_⟩
    have he : (128 : Nat) ≤ Utf8.runeError := by decide
    repeat' split
    all_goals first | exact he | (rename_i h2; simp at h2; simp; omega)
theorem other_big (x : Nat) (h : 128 ≤ x) : otherB x = true := by
  unfold otherB; simp; omega
theorem idx_other (s : ByteArray) : ∀ (f pos : Nat), s.size ≤ pos + f → (0 ≤ Lib.idxFuncFrom otherB true s f pos ↔ ∃ i, pos ≤ i ∧ i < s.size ∧ otherB (s.get! i).toNat = true)
  | 0, pos, h => by
    unfold Lib.idxFuncFrom
    constructor
    · intro h; omega
    · rintro ⟨i, h1, h2, _⟩; omega
  | f + 1, pos, h => by
    unfold Lib.idxFuncFrom
    by_cases hp : pos < s.size
    · rw [if_pos hp]
      rcases decode_first s pos with ⟨h1, h2⟩ | ⟨h1, h2⟩
      · rw [h2]
        by_cases ho : otherB (s.get! pos).toNat = true
        · rw [if_pos ho]
          exact ⟨fun _ => ⟨pos, Nat.le_refl _, hp, ho⟩, fun _ => by omega⟩
        · rw [if_neg ho, idx_other s f (pos + 1) (by omega)]
          constructor
          · rintro ⟨i, k1, k2, k3⟩; exact ⟨i, by omega, k2, k3⟩
          · rintro ⟨i, k1, k2, k3⟩
            refine ⟨i, ?_, k2, k3⟩
            rcases Nat.eq_or_lt_of_le k1 with rfl | h
            · exact absurd k3 ho
            · exact h
      · rw [if_pos (other_big _ h2)]
        exact ⟨fun _ => ⟨pos, Nat.le_refl _, hp, other_big _ h1⟩, fun _ => by omega⟩
    · rw [if_neg hp]
      constructor
      · intro h; omega
      · rintro ⟨i, h1, h2, _⟩; omega
theorem idx_all (s : List UInt8) : (0 ≤ Lib.idxFunc otherB true ⟨s.toArray⟩) ↔ (s.all fun b => !otherB b.toNat) = false := by
  unfold Lib.idxFunc
  have hs : (⟨s.toArray⟩ : ByteArray).size = s.length := by simp [ByteArray.size]
  have hg : ∀ i (h : i < s.length), (⟨s.toArray⟩ : ByteArray).get! i = s[i] := fun i h => by simp [ByteArray.get!, h]
  rw [idx_other _ _ _ (by omega), hs, List.all_eq_false]
  constructor
  · rintro ⟨i, _, h2, h3⟩
    rw [hg i h2] at h3
    exact ⟨s[i], List.getElem_mem h2, by simp [h3]⟩
  · rintro ⟨b, hb, h3⟩
    obtain ⟨i, hi, rfl⟩ := List.getElem_of_mem hb
    exact ⟨i, Nat.zero_le _, hi, by rw [hg i hi]; simpa using h3⟩
theorem isLabel_spec (s : List UInt8) (hs : s.length ≤ 9223372036854775807) : Ctr Tryz.prog 47 [.str s] (fun r => r = .bool (labelB s)) := by
  refine Ctr.of_body Tryz.func47 rfl tys_ok (by kernel_rfl) ?_
  conv => whnf
  refine cd_sound tys_ok _ ?_
  conv => whnf
  refine And.intro (fun h1 => ?_) (fun h1 => ?_)
  · conv => whnf
    have h1 : 1 ≤ s.length := by simp at h1; omega
    refine And.intro (fun h2 => ?_) (fun h2 => ?_)
    · have h2 : ¬ s.length ≤ 20 := by simp at h2; omega
      conv => whnf
      simp [labelB, h2]
    · have h2 : s.length ≤ 20 := by simp at h2; omega
      conv => whnf
      refine ACall.of_spec (containsFunc_ctr Tryz.laysGw17 (g := 74) rfl (by kernel_rfl) (enters_of Tryz.func74 (by kernel_rfl) rfl) (p := otherB) (cap := []) (fun x hx => other_spec x hx) s) rfl fun r hr => ?_
      subst hr
      conv => whnf
      refine congrArg AV.bool ?_
      have hi := idx_all s
      cases ha : s.all fun b => !otherB b.toNat with
      | false => rw [decide_eq_true (hi.2 ha)]; simp only [labelB, ha, Bool.and_false]; rfl
      | true => rw [decide_eq_false (fun h => by rw [hi.1 h] at ha; cases ha)]; simp [labelB, ha, h1, h2]
  · have h1 : ¬ 1 ≤ s.length := by simp at h1; omega
    conv => whnf
    simp [labelB, h1]
end Go.Proofs.YtiojkoaefabjbaaGreatDoor
