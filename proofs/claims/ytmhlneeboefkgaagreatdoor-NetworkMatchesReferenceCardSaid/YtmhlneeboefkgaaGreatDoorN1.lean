import Derived.Test.YtmhlneeboefkgaaGreatDoorKf
import Derived.Test.YtmhlneeboefkgaaGreatDoorTy
set_option linter.unusedVariables false
namespace Go.Av.Net
abbrev Bs := List UInt8
def w_calendar : Bs := [99, 97, 108, 101, 110, 100, 97, 114]
def w_operator : Bs := [111, 112, 101, 114, 97, 116, 111, 114]
def w_office : Bs := [111, 102, 102, 105, 99, 101]
def w_line : Bs := [108, 105, 110, 101]
def w_class : Bs := [99, 108, 97, 115, 115]
def w_zone : Bs := [122, 111, 110, 101]
def w_week : Bs := [119, 101, 101, 107]
def w_holiday : Bs := [104, 111, 108, 105, 100, 97, 121]
def w_pockets : Bs := [112, 111, 99, 107, 101, 116, 115]
def w_passes : Bs := [112, 97, 115, 115, 101, 115]
def w_minutes : Bs := [109, 105, 110, 117, 116, 101, 115]
def w_codes : Bs := [99, 111, 100, 101, 115]
def w_at : Bs := [97, 116]
def w_travel : Bs := [116, 114, 97, 118, 101, 108]
def w_load : Bs := [108, 111, 97, 100]
def w_cut : Bs := [99, 117, 116]
def w_deliver : Bs := [100, 101, 108, 105, 118, 101, 114]
def keyWords : List Bs := [w_calendar, w_operator, w_office, w_line, w_class, w_zone, w_week, w_holiday, w_pockets, w_passes, w_minutes, w_codes, w_at, w_travel, w_load, w_cut, w_deliver]
def s_arrow : Bs := [45, 62]
def s_lb : Bs := [123]
def s_rb : Bs := [125]
def s_comma : Bs := [44]
def s_semi : Bs := [59]
def s_colon : Bs := [58]
def s_minus : Bs := [45]
def syms : List Bs := [[45, 62], [123], [125], [40], [41], [91], [93], [44], [59], [58], [61], [46], [45]]

/-! ### The lexer -/
def digB (b : UInt8) : Bool := decide (48 ≤ b.toNat) && decide (b.toNat ≤ 57)
def wordB (b : UInt8) : Bool := (decide (65 ≤ b.toNat) && decide (b.toNat ≤ 90)) || (decide (97 ≤ b.toNat) && decide (b.toNat ≤ 122)) || decide (b.toNat = 95) || digB b
/-- The run with which a text begins: its length, and how many digits it has. -/
def runP : Bs → Nat × Nat
 | [] => (0, 0)
 | b :: r => bif wordB b then ((runP r).1 + 1, (runP r).2 + bif digB b then 1 else 0) else (0, 0)
def numLen (s : Bs) : Nat := bif !decide ((runP s).2 = (runP s).1) || decide (8 < (runP s).1) then 0 else (runP s).1
def nameLen (s : Bs) : Nat := bif decide ((runP s).2 = (runP s).1) || decide (20 < (runP s).1) || decide (s.headD 0 = 95) then 0 else (runP s).1
def txt : Nat → Nat → Bs → Nat
 | 0, _, _ => 0
 | _, _, [] => 0
 | f + 1, i, b :: r => bif decide (b.toNat = 34) then i + 1 else bif decide (b.toNat < 32) || decide (126 < b.toNat) then 0 else txt f (i + 1) r
def txtLen : Bs → Nat
 | [] => 0
 | b :: r => bif decide (b.toNat = 34) then txt 201 1 r else 0
def symLen (s : Bs) : Nat := match syms.find? (fun x => x.isPrefixOf s) with | some x => x.length | none => 0
structure Tok where
 kind : Int
 text : Bs
 pos : Nat
/-- The token with which a text begins: its length, kind and text. -/
def tokP (s : Bs) : Option (Nat × Int × Bs) :=
 bif decide (0 < numLen s) then some (numLen s, 2, s.take (numLen s))
 else bif decide (0 < nameLen s) then some (nameLen s, 1, s.take (nameLen s))
 else bif decide (0 < txtLen s) then some (txtLen s, 4, (s.take (txtLen s - 1)).drop 1)
 else bif decide (0 < symLen s) then some (symLen s, 3, s.take (symLen s))
 else none
def blankB (b : UInt8) : Bool := decide (b.toNat = 32) || decide (b.toNat = 9) || decide (b.toNat = 10) || decide (b.toNat = 13)
/-- The length of a gap; in a comment? -/
def gap : Bool → Bs → Nat
 | _, [] => 0
 | false, b :: r => bif blankB b then gap false r + 1 else bif decide (b.toNat = 37) then gap true r + 1 else 0
 | true, b :: r => bif decide (b.toNat = 10) then gap false r + 1 else gap true r + 1
inductive Lx where
 | ok (l : List Tok)
 | err (e : Int) (pos : Nat)
def Lx.cons (t : Tok) : Lx → Lx
 | .ok l => .ok (t :: l)
 | .err e p => .err e p
def lexGo (s : Bs) : Nat → Nat → Nat → Lx
 | 0, _, _ => .ok []
 | f + 1, p, c =>
  bif decide (p + gap false (s.drop p) = s.length) then .ok []
  else bif decide (c = 3000) then .err 2 (p + gap false (s.drop p))
  else match tokP (s.drop (p + gap false (s.drop p))) with
   | none => .err 30 (p + gap false (s.drop p))
   | some (n, k, t) => (lexGo s f (p + gap false (s.drop p) + n) (c + 1)).cons ⟨k, t, p + gap false (s.drop p)⟩
def lexP (s : Bs) : Lx := bif decide (8000 < s.length) then .err 2 8000 else lexGo s (s.length + 1) 0 0

/-! ### The parser: over the kinds and texts of the tokens; an error is at a token, or behind the last one -/
abbrev KT := Int × Bs
inductive PR (α : Type) where
 | ok (a : α) (i : Nat)
 | fail (e : Int) (i : Nat)
def PR.bind {α β : Type} (x : PR α) (f : α → Nat → PR β) : PR β := match x with | .ok a i => f a i | .fail e i => .fail e i
structure Cal where
 zone : Int
 week : List Bool
 hols : List Int
structure Off where
 name : Bs
 oper : Nat
 cal : Nat
 pockets : Int
 passes : Int
 minutes : Int
 codes : List Bs
structure Lin where
 name : Bs
 from_ : Nat
 to_ : Nat
 at_ : Int
 travel : Int
 load : Int
structure Cls where
 name : Bs
 cut : Int
 deliver : Int
structure Nw where
 cals : List Cal
 names : List Bs
 opers : List Bs
 offs : List Off
 lins : List Lin
 clss : List Cls
def smallB (b : UInt8) : Bool := decide (97 ≤ b.toNat) && decide (b.toNat ≤ 122)
def isNameB (s : Bs) : Bool := decide (1 ≤ s.length) && decide (s.length ≤ 16) && smallB (s.headD 0) && s.all (fun b => smallB b || digB b || decide (b.toNat = 95)) && !keyWords.any (fun x => decide (s = x))
def isCodeB (s : Bs) : Bool := decide (1 ≤ s.length) && decide (s.length ≤ 8) && s.all (fun b => digB b || (decide (65 ≤ b.toNat) && decide (b.toNat ≤ 90)))
def decV (s : Bs) : Int := s.foldl (fun n b => 10 * n + ((b.toNat : Int) - 48)) 0
def isWeekB (s : Bs) : Bool := decide (s.length = 7) && s.all (fun b => decide (b.toNat = 48) || decide (b.toNat = 49))
section
variable (ts : List KT)
def wrongP {α : Type} (i : Nat) : PR α := match ts[i]? with | none => .fail 91 i | some _ => .fail 90 i
def seesP (k : Int) (x : Bs) (i : Nat) : Bool := match ts[i]? with | none => false | some t => decide (t.1 = k) && decide (t.2 = x)
def expectP (k : Int) (x : Bs) (i : Nat) : PR Unit := bif seesP ts k x i then .ok () (i + 1) else wrongP ts i
def nameP (i : Nat) : PR Bs := match ts[i]? with | none => .fail 91 i | some t => bif decide (t.1 = 1) && isNameB t.2 then .ok t.2 (i + 1) else .fail 90 i
def numberP (i : Nat) : PR Int := match ts[i]? with | none => .fail 91 i | some t => bif decide (t.1 = 2) then .ok (decV t.2) (i + 1) else .fail 90 i
def weekP (i : Nat) : PR (List Bool) := match ts[i]? with | none => .fail 91 i | some t => bif decide (t.1 = 2) && isWeekB t.2 then .ok (t.2.map fun b => decide (b.toNat = 49)) (i + 1) else .fail 90 i
def codeP (i : Nat) : PR Bs := match ts[i]? with | none => .fail 91 i | some t => bif (decide (t.1 = 1) || decide (t.1 = 2)) && isCodeB t.2 then .ok t.2 (i + 1) else .fail 90 i
def intP (i : Nat) : PR Int := bif seesP ts 3 s_minus i then (numberP ts (i + 1)).bind fun n i => .ok (-n) i else numberP ts i
def fieldP (w : Bs) (i : Nat) : PR Int := (expectP ts 1 w i).bind fun _ i => (numberP ts i).bind fun n i => (expectP ts 3 s_semi i).bind fun _ i => .ok n i
/-- Where a name is first. -/
def idxOf (x : Bs) : List Bs → Option Nat
 | [] => none
 | y :: r => bif decide (y = x) then some 0 else (idxOf x r).map (· + 1)
def refP (names : List Bs) (i : Nat) : PR Nat := (nameP ts i).bind fun x i' => match idxOf x names with | some k => .ok k i' | none => .fail 110 (i' - 1)
def holsP : Nat → Nat → PR (List Int)
 | 0, i => .ok [] i
 | f + 1, i => bif seesP ts 1 w_holiday i then (expectP ts 1 w_holiday i).bind fun _ i => (intP ts i).bind fun n i => (expectP ts 3 s_semi i).bind fun _ i => (holsP f i).bind fun l i => .ok (n :: l) i
  else .ok [] i
def calP (i : Nat) : PR (Bs × Cal) :=
 (expectP ts 1 w_calendar i).bind fun _ i => (nameP ts i).bind fun name i => (expectP ts 3 s_lb i).bind fun _ i =>
 (expectP ts 1 w_zone i).bind fun _ i => (intP ts i).bind fun zone i => (expectP ts 3 s_semi i).bind fun _ i =>
 (expectP ts 1 w_week i).bind fun _ i => (weekP ts i).bind fun week i => (expectP ts 3 s_semi i).bind fun _ i =>
 (holsP ts ts.length i).bind fun hols i => (expectP ts 3 s_rb i).bind fun _ i => .ok (name, ⟨zone, week, hols⟩) i
def operP (i : Nat) : PR Bs := (expectP ts 1 w_operator i).bind fun _ i => (nameP ts i).bind fun name i => (expectP ts 3 s_semi i).bind fun _ i => .ok name i
/-- The codes behind the first one. -/
def codesP : Nat → Nat → PR (List Bs)
 | 0, i => .ok [] i
 | f + 1, i => bif seesP ts 3 s_semi i then .ok [] i else (codeP ts i).bind fun c i => (codesP f i).bind fun l i => .ok (c :: l) i
def codesAllP (i : Nat) : PR (List Bs) :=
 bif seesP ts 1 w_codes i then (expectP ts 1 w_codes i).bind fun _ i => (codeP ts i).bind fun c i => (codesP ts (ts.length + 1) i).bind fun l i => (expectP ts 3 s_semi i).bind fun _ i => .ok (c :: l) i
 else .ok [] i
def offP (n : Nw) (i : Nat) : PR Off :=
 (expectP ts 1 w_office i).bind fun _ i => (nameP ts i).bind fun name i => (expectP ts 3 s_lb i).bind fun _ i =>
 (expectP ts 1 w_operator i).bind fun _ i => (refP ts n.opers i).bind fun oper i => (expectP ts 3 s_semi i).bind fun _ i =>
 (expectP ts 1 w_calendar i).bind fun _ i => (refP ts n.names i).bind fun cal i => (expectP ts 3 s_semi i).bind fun _ i =>
 (fieldP ts w_pockets i).bind fun pockets i => (fieldP ts w_passes i).bind fun passes i => (fieldP ts w_minutes i).bind fun minutes i =>
 (codesAllP ts i).bind fun codes i => (expectP ts 3 s_rb i).bind fun _ i => .ok ⟨name, oper, cal, pockets, passes, minutes, codes⟩ i
def linP (n : Nw) (i : Nat) : PR Lin :=
 (expectP ts 1 w_line i).bind fun _ i => (nameP ts i).bind fun name i => (expectP ts 3 s_colon i).bind fun _ i =>
 (refP ts (n.offs.map (·.name)) i).bind fun a i => (expectP ts 3 s_arrow i).bind fun _ i => (refP ts (n.offs.map (·.name)) i).bind fun b i =>
 (expectP ts 1 w_at i).bind fun _ i => (numberP ts i).bind fun at_ i => (expectP ts 1 w_travel i).bind fun _ i => (numberP ts i).bind fun travel i =>
 (expectP ts 1 w_load i).bind fun _ i => (numberP ts i).bind fun load i => (expectP ts 3 s_semi i).bind fun _ i => .ok ⟨name, a, b, at_, travel, load⟩ i
def clsP (i : Nat) : PR Cls :=
 (expectP ts 1 w_class i).bind fun _ i => (nameP ts i).bind fun name i => (expectP ts 3 s_lb i).bind fun _ i =>
 (fieldP ts w_cut i).bind fun cut i => (fieldP ts w_deliver i).bind fun deliver i => (expectP ts 3 s_rb i).bind fun _ i => .ok ⟨name, cut, deliver⟩ i
def calsP : Nat → Nw → Nat → PR Nw
 | 0, n, i => .ok n i
 | f + 1, n, i => bif seesP ts 1 w_calendar i then (calP ts i).bind fun c i => calsP f { n with cals := n.cals ++ [c.2], names := n.names ++ [c.1] } i else .ok n i
def opersP : Nat → Nw → Nat → PR Nw
 | 0, n, i => .ok n i
 | f + 1, n, i => bif seesP ts 1 w_operator i then (operP ts i).bind fun c i => opersP f { n with opers := n.opers ++ [c] } i else .ok n i
def offsP : Nat → Nw → Nat → PR Nw
 | 0, n, i => .ok n i
 | f + 1, n, i => bif seesP ts 1 w_office i then (offP ts n i).bind fun c i => offsP f { n with offs := n.offs ++ [c] } i else .ok n i
def linsP : Nat → Nw → Nat → PR Nw
 | 0, n, i => .ok n i
 | f + 1, n, i => bif seesP ts 1 w_line i then (linP ts n i).bind fun c i => linsP f { n with lins := n.lins ++ [c] } i else .ok n i
def clssP : Nat → Nw → Nat → PR Nw
 | 0, n, i => .ok n i
 | f + 1, n, i => bif seesP ts 1 w_class i then (clsP ts i).bind fun c i => clssP f { n with clss := n.clss ++ [c] } i else .ok n i
def nw0 : Nw := ⟨[], [], [], [], [], []⟩
def netP : PR Nw :=
 (calsP ts ts.length nw0 0).bind fun n i => (opersP ts ts.length n i).bind fun n i => (offsP ts ts.length n i).bind fun n i => (linsP ts ts.length n i).bind fun n i => (clssP ts ts.length n i).bind fun n i =>
 bif decide (i < ts.length) then .fail 90 i else .ok n i
end
def kts (l : List Tok) : List KT := l.map fun t => (t.kind, t.text)
/-- The offset of a token, or of the end. -/
def offs (l : List Tok) (len : Nat) (i : Nat) : Nat := match l[i]? with | some t => t.pos | none => len
inductive Res where
 | ok (n : Nw)
 | err (e : Int) (pos : Nat)
def parseP (s : Bs) : Res :=
 match lexP s with
 | .err e p => .err e p
 | .ok l => match netP (kts l) with
  | .ok n _ => .ok n
  | .fail e i => .err e (offs l s.length i)
end Go.Av.Net
