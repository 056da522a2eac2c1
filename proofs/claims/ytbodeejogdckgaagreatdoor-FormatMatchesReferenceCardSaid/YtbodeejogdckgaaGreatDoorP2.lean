/-
  Formats, addresses, and how the words of lines are read: in plain words.
-/
import Derived.Test.YtbodeejogdckgaaGreatDoorKf
import Derived.Test.YtbodeejogdckgaaGreatDoorP1
import Derived.Lib.Join
import Derived.Lib.ItoaNum
set_option linter.unusedVariables false
set_option linter.unusedSimpArgs false
namespace Go.Proofs.YtbodeejogdckgaaGreatDoor
open Go.Av Pl
theorem Wr64 (n : Int) (h0 : -9223372036854775808 ≤ n) (h1 : n ≤ 9223372036854775807) : Wr .i64 n = n := by
  unfold Wr; simp [IntKind.wrap, IntKind.bits, IntKind.signed]; omega
/-- A part: its kind and text. -/
structure Pt where
  k : Int
  t : Bs
deriving DecidableEq
def Pt.v (p : Pt) : AV := .agg [.int .i64 p.k, .str p.t]
def ptsA (l : List Pt) : AV := .sl 2 (l.map Pt.v)
structure Fm where
  name : Bs
  lines : List (List Pt)
def Fm.v (f : Fm) : AV := .agg [.str f.name, .sl 1 (f.lines.map ptsA)]
/-- An address: person, street, number, code, town. -/
structure Ad where
  pe : Bs
  st : Bs
  nu : Int
  co : Bs
  to : Bs
deriving DecidableEq
def Ad.v (a : Ad) : AV := .agg [.str a.pe, .str a.st, .int .i64 a.nu, .str a.co, .str a.to]
def ad0 : Ad := ⟨[], [], 0, [], []⟩
abbrev strs (l : List Bs) : List AV := l.map AV.str
def strsA (l : List Bs) : AV := .sl 1 (strs l)
/-! ### Bytes and words -/
def smallB (c : UInt8) : Bool := decide (97 ≤ c.toNat) && decide (c.toNat ≤ 122)
def capB (c : UInt8) : Bool := decide (65 ≤ c.toNat) && decide (c.toNat ≤ 90)
def letterB (c : UInt8) : Bool := smallB c || capB c
def digB (c : UInt8) : Bool := decide (48 ≤ c.toNat) && decide (c.toNat ≤ 57)
def fitC (c : UInt8) : Bool := letterB c || digB c || decide (c.toNat = 45) || decide (c.toNat = 39) || decide (c.toNat = 46)
def fitB (w : Bs) : Bool := decide (1 ≤ w.length) && decide (w.length ≤ 20) && w.all fitC
def patC (c : UInt8) : Bool := decide (c.toNat = 57) || decide (c.toNat = 65)
def patB (t : Bs) : Bool := decide (1 ≤ t.length) && decide (t.length ≤ 8) && t.all patC
def nameC (c : UInt8) : Bool := smallB c || digB c || decide (c.toNat = 95)
def nameB (s : Bs) : Bool := decide (1 ≤ s.length) && decide (s.length ≤ 16) && (match s with | c :: _ => smallB c | [] => false) && s.all nameC
def partB (p : Pt) : Bool := if p.k = 1 then fitB p.t else if p.k = 3 then patB p.t else if p.k = 2 ∨ p.k = 4 ∨ p.k = 5 ∨ p.k = 6 then decide (p.t = []) else false
def matchB : Bs → Bs → Bool
  | [], [] => true
  | c :: w, d :: p => (!decide (d.toNat = 57) || digB c) && (!decide (d.toNat = 65) || letterB c) && matchB w p
  | _, _ => false
def upC (c : UInt8) : UInt8 := if smallB c then c - 32 else c
def lowC (c : UInt8) : UInt8 := if capB c then c + 32 else c
def upB (s : Bs) : Bs := s.map upC
def lowB (s : Bs) : Bs := s.map lowC
def valB (s : Bs) : Nat := s.foldl (fun n c => 10 * n + (c.toNat - 48)) 0
/-- A house number: one to four digits, the first not 0. -/
def numOK (w : Bs) : Bool := decide (w.length ≤ 4) && !decide (w.head? = some 48) && w.all digB && decide (1 ≤ w.length)
/-! ### Well-formed formats -/
def kindsR (l : List Pt) : List Int := (l.filter fun p => decide (p.k ≠ 1)).map Pt.k
def validF (f : Fm) : Bool := nameB f.name && decide (1 ≤ f.lines.length) && decide (f.lines.length ≤ 8) && f.lines.all (fun l => decide (1 ≤ l.length) && decide (l.length ≤ 8)) && f.lines.flatten.all partB && decide (kindsR f.lines.flatten).Nodup
/-! ### Readings -/
def mostP (p : Pt) : Nat := if p.k = 1 ∨ p.k = 2 ∨ p.k = 3 then 1 else 4
/-- What a part gets from words, if it takes them. -/
def setP (p : Pt) (l : List Bs) (a : Ad) : Option Ad :=
  let w := l.headD []
  if p.k = 1 then (if lowB w = lowB p.t then some a else none)
  else if p.k = 2 then (if numOK w then some { a with nu := valB w } else none)
  else if p.k = 3 then (if matchB w p.t then some { a with co := upB w } else none)
  else if p.k = 4 then some { a with st := Lib.join l [32] }
  else if p.k = 5 then some { a with to := Lib.join l [32] }
  else some { a with pe := Lib.join l [32] }
/-- The readings of a line, from a part and words on; n words and more for the first part. -/
def readL : List Pt → List Bs → Ad → List Ad
  | [], [], a => [a]
  | [], _ :: _, _ => []
  | p :: ps, ws, a => (List.range (min (mostP p) ws.length)).flatMap fun i => match setP p (ws.take (i + 1)) a with
    | some b => readL ps (ws.drop (i + 1)) b
    | none => []
def readF : List (List Pt) → List (List Bs) → Ad → List Ad
  | [], [], a => [a]
  | l :: ls, w :: ws, a => (readL l w a).flatMap (readF ls ws)
  | _, _, _ => []
end Go.Proofs.YtbodeejogdckgaaGreatDoor
