/-
  Changes, streets, and what a register comes to, in plain words.
-/
import Derived.Test.YtkmhjamdgncpoaaDoorAv57
import Derived.Lib.IndexLaws
import Derived.Lib.Bytealg
set_option linter.unusedVariables false
set_option linter.unusedSimpArgs false
namespace Go.Proofs.YtkmhjamdgncpoaaDoor
open Go.Av
namespace Pl
abbrev Bs := List UInt8
/-- A change of a register. -/
structure Ch where
  da : Int
  ki : Int
  sr : Int
  co : Bs
  to : Bs
  na : Bs
  lo : Int
  hi : Int
  sh : Int
deriving DecidableEq
def Ch.v (c : Ch) : AV := .agg [.int .i64 c.da, .int .i64 c.ki, .int .i64 c.sr, .str c.co, .str c.to, .str c.na, .int .i64 c.lo, .int .i64 c.hi, .int .i64 c.sh]
/-- A street. -/
structure St where
  co : Bs
  to : Bs
  na : Bs
  al : List Bs
  lo : Int
  hi : Int
  sh : Int
  op : Bool
deriving DecidableEq
abbrev strs (l : List Bs) : List AV := l.map AV.str
def strsA (l : List Bs) : AV := .sl 1 (strs l)
def St.v (s : St) : AV := .agg [.str s.co, .str s.to, .str s.na, .sl 1 (strs s.al), .int .i64 s.lo, .int .i64 s.hi, .int .i64 s.sh, .bool s.op]
/-- A street whose aliases are a growing slice. -/
def St.r (s : St) (x : Sv) : AV := .agg [.str s.co, .str s.to, .str s.na, .raw x.v, .int .i64 s.lo, .int .i64 s.hi, .int .i64 s.sh, .bool s.op]
def chs (l : List Ch) : AV := .sl 9 (l.map Ch.v)
def sts (l : List St) : AV := .sl 8 (l.map St.v)
def smallB (c : UInt8) : Bool := decide (97 ≤ c.toNat) && decide (c.toNat ≤ 122)
def capB (c : UInt8) : Bool := decide (65 ≤ c.toNat) && decide (c.toNat ≤ 90)
def digB (c : UInt8) : Bool := decide (48 ≤ c.toNat) && decide (c.toNat ≤ 57)
def lowC (c : UInt8) : UInt8 := if capB c then c + 32 else c
def lowB (s : Bs) : Bs := s.map lowC
def nameC (c : UInt8) : Bool := capB c || smallB c || digB c || decide (c.toNat = 45) || decide (c.toNat = 39)
def wordW (w : Bs) : Bool := decide (1 ≤ w.length) && decide (w.length ≤ 20) && w.all nameC
def codeC (c : UInt8) : Bool := capB c || digB c
def codeB (s : Bs) : Bool := decide (1 ≤ s.length) && decide (s.length ≤ 8) && s.all codeC
def numB (n : Int) : Bool := decide (1 ≤ n) && decide (n ≤ 9999)
def dayB (n : Int) : Bool := decide (-1000000 ≤ n) && decide (n ≤ 1000000)
/-! ### Texts divided at blanks -/
def splitB : Bs → List Bs
  | [] => [[]]
  | x :: r => if x = 32 then [] :: splitB r else match splitB r with
    | [] => [[x]]
    | y :: ys => (x :: y) :: ys
theorem splitB_cons (x : UInt8) (r : Bs) : splitB (x :: r) = if x = 32 then [] :: splitB r else match splitB r with
    | [] => [[x]]
    | y :: ys => (x :: y) :: ys := rfl
theorem splitB_pos : ∀ s : Bs, 1 ≤ (splitB s).length
  | [] => by simp [splitB]
  | x :: r => by
    unfold splitB
    split
    · simp
    · split <;> simp
theorem splitB_none : ∀ {s : Bs}, (32 : UInt8) ∉ s → splitB s = [s]
  | [], _ => rfl
  | x :: r, h => by
    simp only [List.mem_cons, not_or] at h
    unfold splitB
    rw [if_neg (Ne.symm h.1), splitB_none h.2]
theorem splitB_app : ∀ {a : Bs} (r : Bs), (32 : UInt8) ∉ a → splitB (a ++ 32 :: r) = a :: splitB r
  | [], r, _ => by simp [splitB]
  | x :: a, r, h => by
    simp only [List.mem_cons, not_or] at h
    rw [List.cons_append, splitB_cons, if_neg (Ne.symm h.1), splitB_app r h.2]
theorem splitB_len : ∀ s : Bs, (splitB s).length = s.count 32 + 1
  | [] => rfl
  | x :: r => by
    have ih := splitB_len r
    unfold splitB
    by_cases hx : x = 32
    · rw [if_pos hx, hx]; simp [ih]
    · rw [if_neg hx]
      have hb : (x == 32) = false := by simpa using hx
      rw [List.count_cons, hb]
      cases hs : splitB r with
      | nil => rw [hs] at ih; simp at ih
      | cons y ys => rw [hs] at ih; simpa using ih
theorem splitB_mem : ∀ (s : Bs), ∀ w ∈ splitB s, w.length ≤ s.length
  | [], w, h => by simp [splitB] at h; simp [h]
  | x :: r, w, h => by
    have ih := splitB_mem r
    rw [splitB_cons] at h
    split at h
    · rcases List.mem_cons.1 h with rfl | h
      · simp
      · have := ih w h; simp; omega
    · split at h
      · rw [List.mem_singleton] at h; subst h; simp
      · rename_i y ys hs
        rw [hs] at ih
        rcases List.mem_cons.1 h with rfl | h
        · have := ih y (by simp); simp; omega
        · have := ih w (by simp [h]); simp; omega
/-- A blank is next at m. -/
theorem splitB_at {s : Bs} {m : Nat} (h : s[m]? = some 32) (hb : ∀ k, k < m → s[k]? ≠ some 32) : splitB s = s.take m :: splitB (s.drop (m + 1)) := by
  have hm : m < s.length := (List.getElem?_eq_some_iff.1 h).1
  have e : s = s.take m ++ 32 :: s.drop (m + 1) := by
    have h2 : s.drop m = s[m] :: s.drop (m + 1) := List.drop_eq_getElem_cons hm
    have h3 : s[m] = 32 := by have := List.getElem?_eq_getElem hm; rw [h] at this; exact (Option.some.inj this).symm
    rw [← h3, ← h2, List.take_append_drop]
  have hn : (32 : UInt8) ∉ s.take m := by
    intro hc
    obtain ⟨i, hi, he⟩ := List.getElem_of_mem hc
    simp only [List.length_take] at hi
    refine hb i (by omega) ?_
    rw [List.getElem_take] at he
    rw [List.getElem?_eq_getElem (by omega), he]
  have := splitB_app (s.drop (m + 1)) hn
  rw [← e] at this
  exact this
theorem splitB_free {s : Bs} (h : ∀ k : Nat, s[k]? ≠ some 32) : splitB s = [s] := by
  refine splitB_none fun hc => ?_
  obtain ⟨i, hi, he⟩ := List.getElem_of_mem hc
  exact h i (by rw [List.getElem?_eq_getElem hi, he])
/-! ### Names -/
def nameN (s : Bs) : Bool := decide (s.length ≤ 84) && decide ((splitB s).length ≤ 4) && (splitB s).all wordW
def eqF (a b : Bs) : Bool := decide (lowB a = lowB b)
def namedS (s : St) (t : Bs) : Bool := eqF s.na t || s.al.any fun a => eqF a t
/-! ### Changes -/
def usesB (c : Ch) : Bool :=
  if c.ki = 1 then codeB c.co && nameN c.to && nameN c.na && numB c.lo && numB c.hi && decide (c.lo ≤ c.hi) && decide (c.sr = 0 ∧ c.sh = 0)
  else if c.ki = 2 ∨ c.ki = 5 then nameN c.na && decide (c.co = [] ∧ c.to = [] ∧ c.lo = 0 ∧ c.hi = 0 ∧ c.sh = 0)
  else if c.ki = 3 then codeB c.co && decide (c.to = [] ∧ c.na = [] ∧ c.lo = 0 ∧ c.hi = 0 ∧ c.sh = 0)
  else if c.ki = 4 then decide (c.co = [] ∧ c.to = [] ∧ c.na = [] ∧ c.lo = 0 ∧ c.hi = 0)
  else if c.ki = 6 then decide (c.co = [] ∧ c.to = [] ∧ c.na = [] ∧ c.lo = 0 ∧ c.hi = 0 ∧ c.sh = 0)
  else false
/-- An open street with a number. -/
def openS (l : List St) (n : Int) : Bool := decide (0 ≤ n) && (match l[n.toNat]? with | some s => s.op | none => false)
/-- A change of a street that is there: the street, or an error. -/
def editS (s : St) (c : Ch) : Except Int St :=
  if c.ki = 2 then .ok { s with na := c.na }
  else if c.ki = 3 then .ok { s with co := c.co }
  else if c.ki = 4 then (if numB (s.lo + c.sh) && numB (s.hi + c.sh) then .ok { s with lo := s.lo + c.sh, hi := s.hi + c.sh, sh := s.sh + c.sh } else .error 1)
  else if c.ki = 5 then (if namedS s c.na then .error 4 else .ok { s with al := s.al ++ [c.na] })
  else .ok { s with op := false }
def newS (c : Ch) : St := ⟨c.co, c.to, c.na, [], c.lo, c.hi, 0, true⟩
/-- A change: the streets, and the number of the one that it opens or changes. -/
def mkS (l : List St) (c : Ch) : Except Int (List St × Nat) :=
  if c.ki = 1 then .ok (l ++ [newS c], l.length)
  else if openS l c.sr then (match l[c.sr.toNat]? with
    | some s => (match editS s c with
      | .ok s' => .ok (l.set c.sr.toNat s', c.sr.toNat)
      | .error e => .error e)
    | none => .error 3)
  else .error 3
/-- Two streets that claim the same numbers. -/
def hitS (s o : St) : Bool := s.op && o.op && decide (s.co = o.co) && decide (s.lo ≤ o.hi) && decide (o.lo ≤ s.hi) && (namedS s o.na || o.al.any (namedS s))
def hitAt (l : List St) (n : Nat) (s : St) (i : Nat) : Bool := decide (i ≠ n) && (match l[i]? with | some o => hitS s o | none => false)
def clashS (l : List St) (n : Nat) : Bool := match l[n]? with | some s => (List.range l.length).any (hitAt l n s) | none => false
def stepS (p : Option Int) (i : Nat) (l : List St) (c : Ch) : Except Int (List St) :=
  if 60 ≤ i then .error 2
  else if (match p with | some d => decide (c.da < d) | none => false) then .error 50
  else if !(dayB c.da && usesB c) then .error 1
  else match mkS l c with
    | .error e => .error e
    | .ok (l', n) => if clashS l' n then .error 51 else .ok l'
def runS : List Ch → Nat → Option Int → List St → List St × Int × Int
  | [], _, _, l => (l, 0, -1)
  | c :: r, i, p, l => match stepS p i l c with
    | .error e => ([], e, i)
    | .ok l' => runS r (i + 1) (some c.da) l'
def buildS (r : List Ch) : List St × Int × Int := runS r 0 none []
end Pl
end Go.Proofs.YtkmhjamdgncpoaaDoor
