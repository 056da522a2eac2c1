import Derived.Test.YtmhlneeboefkgaaGreatDoorR7
set_option linter.unusedVariables false
set_option linter.unusedSimpArgs false
namespace Go.Proofs.YtmhlneeboefkgaaGreatDoor
open Go.Av Go.Av.Net Pl
theorem toks_get (l : List Tok) (k : Nat) (h : k < l.length) : (toksA l)[k]? = some (tokA l[k]) := by simp [toksA, h]
theorem parse_x {s : Bs} {x : Res} (hs : s.length ≤ 9223372036854775807) (h : parseP s = x) : Ctr Tryz.prog 5 [.str s] (fun r => r = resP0 x) := parse_at hs h
theorem rlex_at {s : Bs} (hs : s.length ≤ 9223372036854775807) {x : Lx} (h : lexP s = x) : Ctr Tryz.prog 18 [.str s] (fun r => r = resLx x) := by
 have := rLex_spec s hs; rwa [h] at this
theorem min_nat (a b : Nat) : min (a : Int) (b : Int) = ((min a b : Nat) : Int) := by omega
theorem drop0 {α : Type} (l : List α) (m : Nat) : List.drop (Int.toNat 0) (List.take ((m : Int)).toNat l) = l.take m := by simp
theorem allZ_refl {α : Type} {f : α → α → Bool} (h : ∀ x, f x x = true) (l : List α) : allZ f l l = true := allZ_iff.2 ⟨rfl, fun k _ _ => h _⟩
theorem sameNw_refl (n : Nw) : sameNwB n n = true := by
 refine sameNw_iff.2 ⟨rfl, allZ_refl (fun x => ?_) _, allZ_refl (fun x => ?_) _, allZ_refl (fun x => ?_) _, allZ_refl (fun x => ?_) _, allZ_refl (fun x => ?_) _⟩
 ·simp [sameCalB]
 ·simp
 ·simp [sameOffB]
 ·simp [sameLinB]
 ·simp [sameClsB]
theorem same_true {n : Nw} (h : Sml n) : Ctr Tryz.prog 7 [netA n, netA n] (fun r => r = .bool true) := by
 have := same_spec n n h h
 rwa [sameNw_refl n] at this
theorem srcT_len (k : Int) (t : Bs) : (srcT k t).length ≤ t.length + 2 := by
 unfold srcT; cases decide (k = 4) <;> simp
theorem kts_succ (l : List Tok) (i : Nat) (h : i < l.length) : (kts l).take (i + 1) = (kts l).take i ++ [(l[i].kind, l[i].text)] := by
 rw [List.take_succ_eq_append_getElem (by simpa [kts] using h)]
 simp [kts]
end Go.Proofs.YtmhlneeboefkgaaGreatDoor
