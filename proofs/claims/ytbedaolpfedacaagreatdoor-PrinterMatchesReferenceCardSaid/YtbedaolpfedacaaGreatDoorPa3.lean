/- A part of the proof. -/
import Derived.Test.YtbedaolpfedacaaGreatDoorNa3
set_option linter.unusedVariables false
set_option linter.unusedSimpArgs false
namespace Go.Proofs.YtbedaolpfedacaaGreatDoor.Pl
open Go.Av Go.Av.Net
def digN : Nat → Bs := fun n => if h : n < 10 then [48 + n.toUInt8] else digN (n / 10) ++ [48 + (n % 10).toUInt8]
termination_by n => n
theorem digN_eq (n : Nat) : digN n = if n < 10 then [48 + n.toUInt8] else digN (n / 10) ++ [48 + (n % 10).toUInt8] := by
 rw [digN]; split <;> rfl
theorem dig_nat {n : Nat} (h : n < 10) : ((48 : UInt8) + n.toUInt8).toNat = 48 + n := by
 have hc : n = 0 ∨ n = 1 ∨ n = 2 ∨ n = 3 ∨ n = 4 ∨ n = 5 ∨ n = 6 ∨ n = 7 ∨ n = 8 ∨ n = 9 := by omega
 rcases hc with h | h | h | h | h | h | h | h | h | h <;> subst h <;> rfl
end Go.Proofs.YtbedaolpfedacaaGreatDoor.Pl
namespace Go.Proofs.YtbedaolpfedacaaGreatDoor.Pl
open Go.Av Go.Av.Net
structure OffI where
 name : Bs
 oper : Int
 cal : Int
 pockets : Int
 passes : Int
 minutes : Int
 codes : List Bs
structure LinI where
 name : Bs
 from_ : Int
 to_ : Int
 at_ : Int
 travel : Int
 load : Int
structure NwI where
 cals : List Cal
 names : List Bs
 opers : List Bs
 offs : List OffI
 lins : List LinI
 clss : List Cls
def refB (l : List Bs) (i : Int) : Bool := decide (0 ≤ i) && (match l[i.toNat]? with | some x => decide (idxOf x l = some i.toNat) | none => false)
def numB (n : Int) : Bool := decide (0 ≤ n) && decide (n ≤ 99999999)
def intB (n : Int) : Bool := decide (-99999999 ≤ n) && decide (n ≤ 99999999)
def calB (c : Cal) : Bool := decide (c.week.length = 7) && intB c.zone && c.hols.all intB
def offB (n : NwI) (o : OffI) : Bool := refB n.opers o.oper && refB n.names o.cal && numB o.pockets && numB o.passes && numB o.minutes && o.codes.all isCodeB
def linB (n : NwI) (l : LinI) : Bool := refB (n.offs.map (·.name)) l.from_ && refB (n.offs.map (·.name)) l.to_ && numB l.at_ && numB l.travel && numB l.load
def clsB (c : Cls) : Bool := numB c.cut && numB c.deliver
def namesB (n : NwI) : Bool := n.names.all isNameB && n.opers.all isNameB && (n.offs.all fun o => isNameB o.name) && (n.lins.all fun l => isNameB l.name) && n.clss.all fun c => isNameB c.name
def printB (n : NwI) : Bool := decide (n.names.length = n.cals.length) && namesB n && n.cals.all calB && n.offs.all (offB n) && n.lins.all (linB n) && n.clss.all clsB
def decT (n : Int) : Bs := if n < 0 then 45 :: digN (-n).toNat else digN n.toNat
def nameAt (l : List Bs) (i : Int) : Bs := l.getD i.toNat []
def fieldT (k v : Bs) : Bs := [32, 32] ++ (k ++ [32]) ++ (v ++ [59, 10])
def headT (k name : Bs) : Bs := (k ++ [32]) ++ (name ++ [32]) ++ [123, 10]
def endT : Bs := [125, 10]
def weekT (w : List Bool) : Bs := w.map fun b => if b then 49 else 48
def calT (name : Bs) (c : Cal) : Bs := headT w_calendar name ++ fieldT w_zone (decT c.zone) ++ fieldT w_week (weekT c.week) ++ c.hols.flatMap (fun d => fieldT w_holiday (decT d)) ++ endT
def operT (name : Bs) : Bs := (w_operator ++ [32]) ++ (name ++ [59, 10])
def codesT : List Bs → Bs
 | [] => []
 | c :: r => [32, 32] ++ w_codes ++ ((c :: r).flatMap fun x => 32 :: x) ++ [59, 10]
def offT (n : NwI) (o : OffI) : Bs := headT w_office o.name ++ fieldT w_operator (nameAt n.opers o.oper) ++ fieldT w_calendar (nameAt n.names o.cal) ++ fieldT w_pockets (decT o.pockets) ++ fieldT w_passes (decT o.passes) ++ fieldT w_minutes (decT o.minutes) ++ codesT o.codes ++ endT
def linT (n : NwI) (l : LinI) : Bs := (w_line ++ [32]) ++ (l.name ++ [58, 32]) ++ (nameAt (n.offs.map (·.name)) l.from_ ++ [32]) ++ [45, 62, 32] ++ (nameAt (n.offs.map (·.name)) l.to_ ++ [32]) ++ (w_at ++ [32]) ++ (decT l.at_ ++ [32]) ++ (w_travel ++ [32]) ++ (decT l.travel ++ [32]) ++ (w_load ++ [32]) ++ (decT l.load ++ [59, 10])
def clssT (c : Cls) : Bs := headT w_class c.name ++ fieldT w_cut (decT c.cut) ++ fieldT w_deliver (decT c.deliver) ++ endT
def calsT (names : List Bs) (cals : List Cal) : Bs := (List.zipWith calT names cals).flatten
def printT (n : NwI) : Bs := calsT n.names n.cals ++ n.opers.flatMap operT ++ n.offs.flatMap (offT n) ++ n.lins.flatMap (linT n) ++ n.clss.flatMap clssT
def printN (n : NwI) : Bs := if printB n then printT n else []
end Go.Proofs.YtbedaolpfedacaaGreatDoor.Pl
namespace Go.Proofs.YtbedaolpfedacaaGreatDoor.Pl
open Go.Av Go.Av.Net
def toOff (o : OffI) : Off := ⟨o.name, o.oper.toNat, o.cal.toNat, o.pockets, o.passes, o.minutes, o.codes⟩
def toLin (l : LinI) : Lin := ⟨l.name, l.from_.toNat, l.to_.toNat, l.at_, l.travel, l.load⟩
def toN (n : NwI) : Nw := ⟨n.cals, n.names, n.opers, n.offs.map toOff, n.lins.map toLin, n.clss⟩
end Go.Proofs.YtbedaolpfedacaaGreatDoor.Pl
namespace Go.Proofs.YtbedaolpfedacaaGreatDoor.Pl
open Go.Av Go.Av.Net
def TOK (ts : List KT) : Prop := ∀ t ∈ ts, t.1 = 2 → (∀ b ∈ t.2, digB b = true) ∧ t.2.length ≤ 8
section
variable {ts : List KT} (ht : TOK ts)
theorem idx_get {x : Bs} : ∀ {l : List Bs} {k : Nat}, idxOf x l = some k → l[k]? = some x
 | [], k, h => by cases h
 | y :: r, k, h => by
  unfold idxOf at h
  by_cases e : y = x
  ·simp [e] at h
   subst h
   simp [e]
  ·simp [e] at h
   obtain ⟨b, hb, rfl⟩ := h
   simpa using idx_get hb
end
end Go.Proofs.YtbedaolpfedacaaGreatDoor.Pl
