/-
  Records: what they are, and what the program computes of them, in plain words.
-/
import Derived.Test.YtiojkoaefabjbaaGreatDoorP1
import Derived.Lib.ItoaNum
import Derived.Lib.Join
set_option linter.unusedVariables false
set_option linter.unusedSimpArgs false
namespace Go.Proofs.YtiojkoaefabjbaaGreatDoor
open Go.Av Pl

abbrev Bs := List UInt8
structure Rc where
  sc : Int
  nu : Int
  ki : Int
  ti : Int
  la : Bs
  co : List Bs
deriving DecidableEq
def strs (l : List Bs) : List AV := l.map .str
theorem strs_get (l : List Bs) (i : Nat) (h : i < l.length) : (strs l)[i]? = some (.str l[i]) := by simp [strs, h]
theorem strs_len (l : List Bs) : (strs l).length = l.length := by simp [strs]
def Rc.v (r : Rc) : AV := .agg [.int .i64 r.sc, .int .i64 r.nu, .int .i64 r.ki, .int .i64 r.ti, .str r.la, .sl 1 (strs r.co)]
def rcs (l : List Rc) : AV := .sl 6 (l.map Rc.v)
/-- A scanner: operator, office, error. -/
structure Sn where
  op : Int
  of : Int
  er : Int
def Sn.v (s : Sn) : AV := .agg [.int .i64 s.op, .int .i64 s.of, .int .i64 s.er]
def sns (l : List Sn) : AV := .sl 3 (l.map Sn.v)

/-! ### Comparing -/
def cmpR (a b : Rc) : Int :=
  if cmpI a.sc b.sc ≠ 0 then cmpI a.sc b.sc else if cmpI a.nu b.nu ≠ 0 then cmpI a.nu b.nu else if cmpI a.ki b.ki ≠ 0 then cmpI a.ki b.ki else
  if cmpI a.ti b.ti ≠ 0 then cmpI a.ti b.ti else if cmpS a.la b.la ≠ 0 then cmpS a.la b.la else if cmpI a.co.length b.co.length ≠ 0 then cmpI a.co.length b.co.length else listC cmpS a.co b.co
def Rc.key (r : Rc) : Int × Int × Int × Int × Bs × Int × List Bs := (r.sc, r.nu, r.ki, r.ti, r.la, (r.co.length : Int), r.co)
theorem cmpR_key (a b : Rc) : cmpR a b = lexC cmpI (lexC cmpI (lexC cmpI (lexC cmpI (lexC cmpS (lexC cmpI (listC cmpS)))))) a.key b.key := rfl
theorem cmpR_ok : CmpOK cmpR := by
  have h := (cmpI_ok.lex (cmpI_ok.lex (cmpI_ok.lex (cmpI_ok.lex (cmpS_ok.lex (cmpI_ok.lex (listC_ok cmpS_ok))))))).pull Rc.key (fun x y h => by
    cases x; cases y; simp only [Rc.key, Prod.mk.injEq] at h; obtain ⟨rfl, rfl, rfl, rfl, rfl, _, rfl⟩ := h; rfl)
  exact h

/-! ### Well-formed records -/
def otherB (x : Nat) : Bool := ((decide (x < 65) || decide (90 < x)) && (decide (x < 48) || decide (57 < x))) && !decide (x = 46)
def labelB (s : Bs) : Bool := decide (1 ≤ s.length) && decide (s.length ≤ 20) && s.all fun b => !otherB b.toNat
/-- All are labels, and none is met twice. -/
def freshB : List Bs → List Bs → Bool
  | _, [] => true
  | seen, x :: r => (labelB x && !seen.contains x) && freshB (seen ++ [x]) r
def completeB (r : Rc) : Bool :=
  decide (0 ≤ r.sc) && decide (r.sc ≤ 1000000) && (decide (0 ≤ r.nu) && decide (r.nu ≤ 1000000)) && (decide (0 ≤ r.ti) && decide (r.ti ≤ 1000000)) && labelB r.la &&
  (if r.ki = 1 then decide (r.co.length = 0) else if r.ki = 2 then decide (r.co.length ≤ 40) && freshB [r.la] r.co else false)
def scannerB (s : Sn) : Bool := decide (0 ≤ s.op) && decide (0 ≤ s.of) && decide (0 ≤ s.er) && decide (s.er ≤ 10000)
def validB (l : List Sn) (r : Rc) : Bool :=
  decide (l.length ≤ 24) && decide (0 ≤ r.sc) && (match l[r.sc.toNat]? with | some s => scannerB s | none => false) && completeB r

/-! ### Texts -/
def kindB (k : Int) : Bs := if k = 2 then [109, 97, 110, 105, 102, 101, 115, 116] else [115, 99, 97, 110]
def wordsR (r : Rc) : List Bs := [kindB r.ki, Lib.itoa r.sc, Lib.itoa r.nu, Lib.itoa r.ti, r.la] ++ r.co
def textR (r : Rc) : Bs := if completeB r then Lib.join (wordsR r) [32] else []
end Go.Proofs.YtiojkoaefabjbaaGreatDoor
