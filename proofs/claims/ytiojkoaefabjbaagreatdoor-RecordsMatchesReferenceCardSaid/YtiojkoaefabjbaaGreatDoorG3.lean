/-
  The examples.
-/
import Derived.Test.YtiojkoaefabjbaaGreatDoorG2
import Derived.Test.YtiojkoaefabjbaaGreatDoorP7
import Derived.Test.YtiojkoaefabjbaaGreatDoorA2
set_option linter.unusedVariables false
set_option linter.unusedSimpArgs false
namespace Go.Proofs.YtiojkoaefabjbaaGreatDoor
open Go.Av Go.Shelf Pl Go.RowKit
theorem _root_.Go.Av.Ctr.weak {P : Go.Program} {f : Go.FuncId} {args : List AV} {R R' : AV → Prop} (h : Ctr P f args R) (k : ∀ r, R r → R' r) : Ctr P f args R' :=
  ⟨h.good, fun C w vs h1 h2 => (h.out C w vs h1 h2).mono fun _ _ ⟨r, v, a, b, c⟩ => ⟨r, v, a, k r b, c⟩⟩
def exL : List Sn := [⟨0, 0, 5⟩, ⟨0, 1, 0⟩]
def exA : Rc := ⟨1, 0, 1, 600, [67, 49, 46, 52, 56, 48], []⟩
def exB : Rc := ⟨0, 3, 2, 480, [67, 49, 46, 52, 56, 48], [[65], [66]]⟩
def tB : Bs := [109, 97, 110, 105, 102, 101, 115, 116, 32, 48, 32, 51, 32, 52, 56, 48, 32, 67, 49, 46, 52, 56, 48, 32, 65, 32, 66]
def t2 : Bs := [115, 99, 97, 110, 32, 49, 32, 48, 32, 48, 54, 48, 48, 32, 67, 49, 46, 52, 56, 48]
def t3 : Bs := [115, 99, 97, 110, 32, 49, 32, 48, 32, 54, 48, 48, 32, 67, 49, 46, 52, 56, 48, 32, 65]
def tA : Bs := [115, 99, 97, 110, 32, 49, 32, 48, 32, 54, 48, 48, 32, 67, 49, 46, 52, 56, 48]
theorem parse_yes {s : Bs} (hs : s.length ≤ 9223372036854775807) {r : Rc} (h : completeB r = true) (ht : textR r = s) : Ctr Tryz.prog 11 [.str s] (fun x => x = .tuple [r.v, .int .i64 0]) := by
  refine (parse_spec s hs).weak fun x hx => ?_
  rcases hx with ⟨r', h1, h2, rfl⟩ | ⟨hx, _⟩
  · rw [text_inj h h1 (h2.trans ht.symm)]
  · exact absurd ht (hx r h)
theorem parse_no {s : Bs} (hs : s.length ≤ 9223372036854775807) (h : ∀ r, completeB r = true → textR r ≠ s) : Ctr Tryz.prog 11 [.str s] (fun x => x = .tuple [zeroR.v, .int .i64 1]) := by
  refine (parse_spec s hs).weak fun x hx => ?_
  rcases hx with ⟨r', h1, h2, rfl⟩ | ⟨_, rfl⟩
  · exact absurd h2 (h r' h1)
  · rfl
theorem dec_one (u : Nat) (h : u < 10) : Lib.decDigits u = [UInt8.ofNat (48 + u)] := by rw [Lib.decDigits, dif_pos h]
theorem dec_more (u : Nat) (h : ¬ u < 10) : Lib.decDigits u = Lib.decDigits (u / 10) ++ [UInt8.ofNat (48 + u % 10)] := by rw [Lib.decDigits, dif_neg h]
theorem compA : completeB exA = true := by decide
theorem compB : completeB exB = true := by decide
theorem dec600 : Lib.decDigits 600 = [54, 48, 48] := by rw [dec_more 600 (by decide), dec_more (600 / 10) (by decide), dec_one (600 / 10 / 10) (by decide)]; rfl
theorem dec480 : Lib.decDigits 480 = [52, 56, 48] := by rw [dec_more 480 (by decide), dec_more (480 / 10) (by decide), dec_one (480 / 10 / 10) (by decide)]; rfl
theorem itoa0 : Lib.itoa 0 = [48] := by show Lib.decDigits 0 = _; rw [dec_one 0 (by decide)]; rfl
theorem itoa1 : Lib.itoa 1 = [49] := by show Lib.decDigits 1 = _; rw [dec_one 1 (by decide)]; rfl
theorem itoa3 : Lib.itoa 3 = [51] := by show Lib.decDigits 3 = _; rw [dec_one 3 (by decide)]; rfl
theorem itoa600 : Lib.itoa 600 = [54, 48, 48] := dec600
theorem itoa480 : Lib.itoa 480 = [52, 56, 48] := dec480
theorem textA : textR exA = tA := by
  unfold textR
  rw [if_pos compA]
  unfold wordsR exA
  simp only [itoa0, itoa1, itoa600]
  rfl
theorem textB : textR exB = tB := by
  unfold textR
  rw [if_pos compB]
  unfold wordsR exB
  simp only [itoa0, itoa3, itoa480]
  rfl
theorem none2 : ∀ r, completeB r = true → textR r ≠ t2 :=
  text_none (ws := [[115, 99, 97, 110], [49], [48], [48, 54, 48, 48], [67, 49, 46, 52, 56, 48]]) (a := 1) (b := 0) (c := 600) (ki := 1) rfl (by decide) (by decide) (by decide) (by decide) (.inr ⟨by decide, rfl⟩) (.inr (by
    have : textR exA ≠ t2 := by rw [textA]; decide
    exact this))
theorem none3 : ∀ r, completeB r = true → textR r ≠ t3 :=
  text_none (ws := [[115, 99, 97, 110], [49], [48], [54, 48, 48], [67, 49, 46, 52, 56, 48], [65]]) (a := 1) (b := 0) (c := 600) (ki := 1) rfl (by decide) (by decide) (by decide) (by decide) (.inr ⟨by decide, rfl⟩) (.inl (by decide))
theorem normal_ex : Ctr Tryz.prog 20 [sns exL, rcs [exA, exB, exA, zeroR]] (fun x => x = rcs [exB, exA]) := by
  refine (normal_spec exL [exA, exB, exA, zeroR] (by decide) (fun y hy => ?_)).weak fun x hx => ?_
  · simp only [List.mem_cons, List.not_mem_nil, or_false] at hy
    rcases hy with rfl | rfl | rfl | rfl <;> exact ⟨by decide, by decide, by decide⟩
  · obtain ⟨N, rfl, h1, h2⟩ := hx
    have hs : Strict cmpR [exB, exA] := by
      refine List.pairwise_cons.2 ⟨fun y hy => ?_, List.pairwise_singleton _ _⟩
      rw [List.mem_singleton] at hy
      subst hy
      decide
    have e := strict_unique cmpR_ok N [exB, exA] h1 hs fun y => by
      rw [h2]
      have v1 : validB exL exA = true := by decide
      have v2 : validB exL exB = true := by decide
      have v3 : validB exL zeroR = false := by decide
      simp only [List.mem_cons, List.not_mem_nil, or_false]
      constructor
      · rintro ⟨rfl | rfl | rfl | rfl, hv⟩
        · exact .inr rfl
        · exact .inl rfl
        · exact .inr rfl
        · rw [v3] at hv; cases hv
      · rintro (rfl | rfl)
        · exact ⟨.inr (.inl rfl), v2⟩
        · exact ⟨.inl rfl, v1⟩
    rw [e]
end Go.Proofs.YtiojkoaefabjbaaGreatDoor
