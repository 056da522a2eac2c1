/- A part of the proof. -/
import Derived.Test.YtbedaolpfedacaaGreatDoorKf3
import Derived.Test.YtbedaolpfedacaaGreatDoorKt3
import Derived.Test.YtbedaolpfedacaaGreatDoorSa3
set_option linter.unusedVariables false
namespace Go.Av.Net
abbrev Bs := List UInt8
def w_calendar : Bs := [99, 97, 108, 101, 110, 100, 97, 114]
def w_operator : Bs := [111, 112, 101, 114, 97, 116, 111, 114]
def w_office : Bs := [111, 102, 102, 105, 99, 101]
def w_line : Bs := [108, 105, 110, 101]
def w_class : Bs := [99, 108, 97, 115, 115]
def w_zone : Bs := [122, 111, 110, 101]
def w_week : Bs := [119, 101, 101, 107]
def w_holiday : Bs := [104, 111, 108, 105, 100, 97, 121]
def w_pockets : Bs := [112, 111, 99, 107, 101, 116, 115]
def w_passes : Bs := [112, 97, 115, 115, 101, 115]
def w_minutes : Bs := [109, 105, 110, 117, 116, 101, 115]
def w_codes : Bs := [99, 111, 100, 101, 115]
def w_at : Bs := [97, 116]
def w_travel : Bs := [116, 114, 97, 118, 101, 108]
def w_load : Bs := [108, 111, 97, 100]
def w_cut : Bs := [99, 117, 116]
def w_deliver : Bs := [100, 101, 108, 105, 118, 101, 114]
def keyWords : List Bs := [w_calendar, w_operator, w_office, w_line, w_class, w_zone, w_week, w_holiday, w_pockets, w_passes, w_minutes, w_codes, w_at, w_travel, w_load, w_cut, w_deliver]
def s_arrow : Bs := [45, 62]
def s_lb : Bs := [123]
def s_rb : Bs := [125]
def s_semi : Bs := [59]
def s_colon : Bs := [58]
def s_minus : Bs := [45]
def syms : List Bs := [[45, 62], [123], [125], [40], [41], [91], [93], [44], [59], [58], [61], [46], [45]]
def digB (b : UInt8) : Bool := decide (48 ≤ b.toNat) && decide (b.toNat ≤ 57)
def wordB (b : UInt8) : Bool := (decide (65 ≤ b.toNat) && decide (b.toNat ≤ 90)) || (decide (97 ≤ b.toNat) && decide (b.toNat ≤ 122)) || decide (b.toNat = 95) || digB b
def runP : Bs → Nat × Nat
 | [] => (0, 0)
 | b :: r => bif wordB b then ((runP r).1 + 1, (runP r).2 + bif digB b then 1 else 0) else (0, 0)
def numLen (s : Bs) : Nat := bif !decide ((runP s).2 = (runP s).1) || decide (8 < (runP s).1) then 0 else (runP s).1
def nameLen (s : Bs) : Nat := bif decide ((runP s).2 = (runP s).1) || decide (20 < (runP s).1) || decide (s.headD 0 = 95) then 0 else (runP s).1
def txt : Nat → Nat → Bs → Nat
 | 0, _, _ => 0
 | _, _, [] => 0
 | f + 1, i, b :: r => bif decide (b.toNat = 34) then i + 1 else bif decide (b.toNat < 32) || decide (126 < b.toNat) then 0 else txt f (i + 1) r
def txtLen : Bs → Nat
 | [] => 0
 | b :: r => bif decide (b.toNat = 34) then txt 201 1 r else 0
def symLen (s : Bs) : Nat := match syms.find? (fun x => x.isPrefixOf s) with | some x => x.length | none => 0
structure Tok where
 kind : Int
 text : Bs
 pos : Nat
def tokP (s : Bs) : Option (Nat × Int × Bs) :=
 bif decide (0 < numLen s) then some (numLen s, 2, s.take (numLen s))
 else bif decide (0 < nameLen s) then some (nameLen s, 1, s.take (nameLen s))
 else bif decide (0 < txtLen s) then some (txtLen s, 4, (s.take (txtLen s - 1)).drop 1)
 else bif decide (0 < symLen s) then some (symLen s, 3, s.take (symLen s))
 else none
def blankB (b : UInt8) : Bool := decide (b.toNat = 32) || decide (b.toNat = 9) || decide (b.toNat = 10) || decide (b.toNat = 13)
def gap : Bool → Bs → Nat
 | _, [] => 0
 | false, b :: r => bif blankB b then gap false r + 1 else bif decide (b.toNat = 37) then gap true r + 1 else 0
 | true, b :: r => bif decide (b.toNat = 10) then gap false r + 1 else gap true r + 1
inductive Lx where
 | ok (l : List Tok)
 | err (e : Int) (pos : Nat)
def Lx.cons (t : Tok) : Lx → Lx
 | .ok l => .ok (t :: l)
 | .err e p => .err e p
def lexGo (s : Bs) : Nat → Nat → Nat → Lx
 | 0, _, _ => .ok []
 | f + 1, p, c =>
  bif decide (p + gap false (s.drop p) = s.length) then .ok []
  else bif decide (c = 3000) then .err 2 (p + gap false (s.drop p))
  else match tokP (s.drop (p + gap false (s.drop p))) with
   | none => .err 30 (p + gap false (s.drop p))
   | some (n, k, t) => (lexGo s f (p + gap false (s.drop p) + n) (c + 1)).cons ⟨k, t, p + gap false (s.drop p)⟩
def lexP (s : Bs) : Lx := bif decide (8000 < s.length) then .err 2 8000 else lexGo s (s.length + 1) 0 0
abbrev KT := Int × Bs
inductive PR (α : Type) where
 | ok (a : α) (i : Nat)
 | fail (e : Int) (i : Nat)
def PR.bind {α β : Type} (x : PR α) (f : α → Nat → PR β) : PR β := match x with | .ok a i => f a i | .fail e i => .fail e i
structure Cal where
 zone : Int
 week : List Bool
 hols : List Int
structure Off where
 name : Bs
 oper : Nat
 cal : Nat
 pockets : Int
 passes : Int
 minutes : Int
 codes : List Bs
structure Lin where
 name : Bs
 from_ : Nat
 to_ : Nat
 at_ : Int
 travel : Int
 load : Int
structure Cls where
 name : Bs
 cut : Int
 deliver : Int
structure Nw where
 cals : List Cal
 names : List Bs
 opers : List Bs
 offs : List Off
 lins : List Lin
 clss : List Cls
def smallB (b : UInt8) : Bool := decide (97 ≤ b.toNat) && decide (b.toNat ≤ 122)
def isNameB (s : Bs) : Bool := decide (1 ≤ s.length) && decide (s.length ≤ 16) && smallB (s.headD 0) && s.all (fun b => smallB b || digB b || decide (b.toNat = 95)) && !keyWords.any (fun x => decide (s = x))
def isCodeB (s : Bs) : Bool := decide (1 ≤ s.length) && decide (s.length ≤ 8) && s.all (fun b => digB b || (decide (65 ≤ b.toNat) && decide (b.toNat ≤ 90)))
def decV (s : Bs) : Int := s.foldl (fun n b => 10 * n + ((b.toNat : Int) - 48)) 0
def isWeekB (s : Bs) : Bool := decide (s.length = 7) && s.all (fun b => decide (b.toNat = 48) || decide (b.toNat = 49))
section
variable (ts : List KT)
def wrongP {α : Type} (i : Nat) : PR α := match ts[i]? with | none => .fail 91 i | some _ => .fail 90 i
def seesP (k : Int) (x : Bs) (i : Nat) : Bool := match ts[i]? with | none => false | some t => decide (t.1 = k) && decide (t.2 = x)
def expectP (k : Int) (x : Bs) (i : Nat) : PR Unit := bif seesP ts k x i then .ok () (i + 1) else wrongP ts i
def nameP (i : Nat) : PR Bs := match ts[i]? with | none => .fail 91 i | some t => bif decide (t.1 = 1) && isNameB t.2 then .ok t.2 (i + 1) else .fail 90 i
def numberP (i : Nat) : PR Int := match ts[i]? with | none => .fail 91 i | some t => bif decide (t.1 = 2) then .ok (decV t.2) (i + 1) else .fail 90 i
def weekP (i : Nat) : PR (List Bool) := match ts[i]? with | none => .fail 91 i | some t => bif decide (t.1 = 2) && isWeekB t.2 then .ok (t.2.map fun b => decide (b.toNat = 49)) (i + 1) else .fail 90 i
def codeP (i : Nat) : PR Bs := match ts[i]? with | none => .fail 91 i | some t => bif (decide (t.1 = 1) || decide (t.1 = 2)) && isCodeB t.2 then .ok t.2 (i + 1) else .fail 90 i
def intP (i : Nat) : PR Int := bif seesP ts 3 s_minus i then (numberP ts (i + 1)).bind fun n i => .ok (-n) i else numberP ts i
def fieldP (w : Bs) (i : Nat) : PR Int := (expectP ts 1 w i).bind fun _ i => (numberP ts i).bind fun n i => (expectP ts 3 s_semi i).bind fun _ i => .ok n i
def idxOf (x : Bs) : List Bs → Option Nat
 | [] => none
 | y :: r => bif decide (y = x) then some 0 else (idxOf x r).map (· + 1)
def refP (names : List Bs) (i : Nat) : PR Nat := (nameP ts i).bind fun x i' => match idxOf x names with | some k => .ok k i' | none => .fail 110 (i' - 1)
def holsP : Nat → Nat → PR (List Int)
 | 0, i => .ok [] i
 | f + 1, i => bif seesP ts 1 w_holiday i then (expectP ts 1 w_holiday i).bind fun _ i => (intP ts i).bind fun n i => (expectP ts 3 s_semi i).bind fun _ i => (holsP f i).bind fun l i => .ok (n :: l) i
  else .ok [] i
def calP (i : Nat) : PR (Bs × Cal) :=
 (expectP ts 1 w_calendar i).bind fun _ i => (nameP ts i).bind fun name i => (expectP ts 3 s_lb i).bind fun _ i =>
 (expectP ts 1 w_zone i).bind fun _ i => (intP ts i).bind fun zone i => (expectP ts 3 s_semi i).bind fun _ i =>
 (expectP ts 1 w_week i).bind fun _ i => (weekP ts i).bind fun week i => (expectP ts 3 s_semi i).bind fun _ i =>
 (holsP ts ts.length i).bind fun hols i => (expectP ts 3 s_rb i).bind fun _ i => .ok (name, ⟨zone, week, hols⟩) i
def operP (i : Nat) : PR Bs := (expectP ts 1 w_operator i).bind fun _ i => (nameP ts i).bind fun name i => (expectP ts 3 s_semi i).bind fun _ i => .ok name i
def codesP : Nat → Nat → PR (List Bs)
 | 0, i => .ok [] i
 | f + 1, i => bif seesP ts 3 s_semi i then .ok [] i else (codeP ts i).bind fun c i => (codesP f i).bind fun l i => .ok (c :: l) i
def codesAllP (i : Nat) : PR (List Bs) :=
 bif seesP ts 1 w_codes i then (expectP ts 1 w_codes i).bind fun _ i => (codeP ts i).bind fun c i => (codesP ts (ts.length + 1) i).bind fun l i => (expectP ts 3 s_semi i).bind fun _ i => .ok (c :: l) i
 else .ok [] i
def offP (n : Nw) (i : Nat) : PR Off :=
 (expectP ts 1 w_office i).bind fun _ i => (nameP ts i).bind fun name i => (expectP ts 3 s_lb i).bind fun _ i =>
 (expectP ts 1 w_operator i).bind fun _ i => (refP ts n.opers i).bind fun oper i => (expectP ts 3 s_semi i).bind fun _ i =>
 (expectP ts 1 w_calendar i).bind fun _ i => (refP ts n.names i).bind fun cal i => (expectP ts 3 s_semi i).bind fun _ i =>
 (fieldP ts w_pockets i).bind fun pockets i => (fieldP ts w_passes i).bind fun passes i => (fieldP ts w_minutes i).bind fun minutes i =>
 (codesAllP ts i).bind fun codes i => (expectP ts 3 s_rb i).bind fun _ i => .ok ⟨name, oper, cal, pockets, passes, minutes, codes⟩ i
def linP (n : Nw) (i : Nat) : PR Lin :=
 (expectP ts 1 w_line i).bind fun _ i => (nameP ts i).bind fun name i => (expectP ts 3 s_colon i).bind fun _ i =>
 (refP ts (n.offs.map (·.name)) i).bind fun a i => (expectP ts 3 s_arrow i).bind fun _ i => (refP ts (n.offs.map (·.name)) i).bind fun b i =>
 (expectP ts 1 w_at i).bind fun _ i => (numberP ts i).bind fun at_ i => (expectP ts 1 w_travel i).bind fun _ i => (numberP ts i).bind fun travel i =>
 (expectP ts 1 w_load i).bind fun _ i => (numberP ts i).bind fun load i => (expectP ts 3 s_semi i).bind fun _ i => .ok ⟨name, a, b, at_, travel, load⟩ i
def clsP (i : Nat) : PR Cls :=
 (expectP ts 1 w_class i).bind fun _ i => (nameP ts i).bind fun name i => (expectP ts 3 s_lb i).bind fun _ i =>
 (fieldP ts w_cut i).bind fun cut i => (fieldP ts w_deliver i).bind fun deliver i => (expectP ts 3 s_rb i).bind fun _ i => .ok ⟨name, cut, deliver⟩ i
def calsP : Nat → Nw → Nat → PR Nw
 | 0, n, i => .ok n i
 | f + 1, n, i => bif seesP ts 1 w_calendar i then (calP ts i).bind fun c i => calsP f { n with cals := n.cals ++ [c.2], names := n.names ++ [c.1] } i else .ok n i
def opersP : Nat → Nw → Nat → PR Nw
 | 0, n, i => .ok n i
 | f + 1, n, i => bif seesP ts 1 w_operator i then (operP ts i).bind fun c i => opersP f { n with opers := n.opers ++ [c] } i else .ok n i
def offsP : Nat → Nw → Nat → PR Nw
 | 0, n, i => .ok n i
 | f + 1, n, i => bif seesP ts 1 w_office i then (offP ts n i).bind fun c i => offsP f { n with offs := n.offs ++ [c] } i else .ok n i
def linsP : Nat → Nw → Nat → PR Nw
 | 0, n, i => .ok n i
 | f + 1, n, i => bif seesP ts 1 w_line i then (linP ts n i).bind fun c i => linsP f { n with lins := n.lins ++ [c] } i else .ok n i
def clssP : Nat → Nw → Nat → PR Nw
 | 0, n, i => .ok n i
 | f + 1, n, i => bif seesP ts 1 w_class i then (clsP ts i).bind fun c i => clssP f { n with clss := n.clss ++ [c] } i else .ok n i
def nw0 : Nw := ⟨[], [], [], [], [], []⟩
def netP : PR Nw :=
 (calsP ts ts.length nw0 0).bind fun n i => (opersP ts ts.length n i).bind fun n i => (offsP ts ts.length n i).bind fun n i => (linsP ts ts.length n i).bind fun n i => (clssP ts ts.length n i).bind fun n i =>
 bif decide (i < ts.length) then .fail 90 i else .ok n i
end
def kts (l : List Tok) : List KT := l.map fun t => (t.kind, t.text)
def offs (l : List Tok) (len : Nat) (i : Nat) : Nat := match l[i]? with | some t => t.pos | none => len
inductive Res where
 | ok (n : Nw)
 | err (e : Int) (pos : Nat)
def parseP (s : Bs) : Res :=
 match lexP s with
 | .err e p => .err e p
 | .ok l => match netP (kts l) with
  | .ok n _ => .ok n
  | .fail e i => .err e (offs l s.length i)
end Go.Av.Net
set_option linter.unusedSimpArgs false
namespace Go.Proofs.YtbedaolpfedacaaGreatDoor
open Go.Av Go.Av.Net
theorem all_step {α : Type} (p : α → Bool) (xs : List α) (k : Nat) (hk : k < xs.length) : (xs.drop k).all p = (p xs[k] && (xs.drop (k + 1)).all p) := by
 rw [List.drop_eq_getElem_cons hk]; rfl
def byts (s : Bs) : List AV := s.map fun b => .int .u8 b.toNat
@[simp] theorem byts_length (s : Bs) : (byts s).length = s.length := by simp [byts]
theorem byts_get (s : Bs) (k : Nat) (h : k < s.length) : (byts s)[k]? = some (.int .u8 s[k].toNat) := by simp [byts, h]
theorem isSmall_spec (b : UInt8) : Ctr Tryz.prog 128 [.int .u8 b.toNat] (fun r => r = .bool (smallB b)) := by
 refine Ctr.of_body Tryz.func128 rfl tys_ok (by kernel_rfl) ?_
 conv => whnf
 refine cd_sound tys_ok _ ?_
 conv => whnf
 repeat' (refine And.intro (fun _ => ?_) (fun _ => ?_) <;> conv => whnf)
 all_goals (refine congrArg AV.bool ?_; rw [Bool.eq_iff_iff]; simp_all [smallB] <;> omega)
theorem isDigit_spec (b : UInt8) : Ctr Tryz.prog 129 [.int .u8 b.toNat] (fun r => r = .bool (digB b)) := by
 refine Ctr.of_body Tryz.func129 rfl tys_ok (by kernel_rfl) ?_
 conv => whnf
 refine cd_sound tys_ok _ ?_
 conv => whnf
 repeat' (refine And.intro (fun _ => ?_) (fun _ => ?_) <;> conv => whnf)
 all_goals (refine congrArg AV.bool ?_; rw [Bool.eq_iff_iff]; simp_all [digB] <;> omega)
theorem lDigit_spec (b : UInt8) : Ctr Tryz.prog 125 [.int .u8 b.toNat] (fun r => r = .bool (digB b)) := by
 refine Ctr.of_body Tryz.func125 rfl tys_ok (by kernel_rfl) ?_
 conv => whnf
 refine cd_sound tys_ok _ ?_
 conv => whnf
 repeat' (refine And.intro (fun _ => ?_) (fun _ => ?_) <;> conv => whnf)
 all_goals (refine congrArg AV.bool ?_; rw [Bool.eq_iff_iff]; simp_all [digB] <;> omega)
set_option maxRecDepth 10000 in
theorem isWordByte_spec (b : UInt8) : Ctr Tryz.prog 124 [.int .u8 b.toNat] (fun r => r = .bool (wordB b)) := by
 refine Ctr.of_body Tryz.func124 rfl tys_ok (by kernel_rfl) ?_
 conv => whnf
 refine cd_sound tys_ok _ ?_
 conv => whnf
 repeat' (refine And.intro (fun _ => ?_) (fun _ => ?_) <;> conv => whnf)
 all_goals (first | (refine congrArg AV.bool ?_; rw [Bool.eq_iff_iff]; simp_all [wordB] <;> omega) | (refine ACall.of_spec (lDigit_spec b) rfl fun r hr => ?_; subst hr; (conv => whnf); refine congrArg AV.bool ?_; cases hd : digB b <;> (rw [Bool.eq_iff_iff]; simp_all [wordB] <;> omega)))
def codeB (b : UInt8) : Bool := digB b || (decide (65 ≤ b.toNat) && decide (b.toNat ≤ 90))
theorem codeB_eq (s : Bs) : isCodeB s = (decide (1 ≤ s.length) && decide (s.length ≤ 8) && s.all codeB) := rfl
theorem getD_byte (s : Bs) (k : Nat) (h : k < s.length) : s.getD (k : Int).toNat 0 = s[k] := by simp [List.getD, h]
set_option maxRecDepth 10000 in
theorem isCode_spec (s : Bs) (hs : s.length ≤ 8000) : Ctr Tryz.prog 111 [.str s] (fun r => r = .bool (isCodeB s)) := by
 refine Ctr.of_body Tryz.func111 rfl tys_ok (by kernel_rfl) ?_
 conv => whnf
 refine cd_sound tys_ok _ ?_
 conv => whnf
 refine ⟨fun h1 => ?_, fun h1 => ?_⟩
 ·have h1 : 1 ≤ s.length := by simp at h1; omega
  conv => whnf
  refine ⟨fun h2 => ?_, fun h2 => ?_⟩
  ·conv => whnf
   have h2 : ¬ s.length ≤ 8 := by simp at h2; omega
   simp [isCodeB, h2]
  ·have h2 : s.length ≤ 8 := by simp at h2; omega
   conv => whnf
   refine ACode.loopT (fun k : Nat => mk 32 [(0, .str s), (14, .sl 1 (byts s)), (15, .int .i64 (byts s).length), (16, .int .i64 k)]) (fun _ => []) (fun k => k ≤ s.length ∧ (s.all codeB) = (s.drop k).all codeB) (fun k => s.length - k) ⟨0, ?_⟩ fun k hk => ?_
   ·conv => whnf
    repeat (refine And.intro ?_ ?_; (focus (first | rfl | (simp; done))); conv => whnf)
    rfl
   ·obtain ⟨hk, he⟩ := hk
    refine cd_sound tys_ok _ ?_
    conv => whnf
    refine ⟨fun hlt => ?_, fun hge => ?_⟩
    ·have hlt : k < s.length := by simpa using hlt
     rw [all_step _ s k hlt] at he
     conv => whnf
     refine ⟨by omega, .int .u8 s[k].toNat, byts_get _ _ hlt, ?_⟩
     conv => whnf
     refine ACall.of_spec (isDigit_spec s[k]) rfl fun r hr => ?_
     subst hr
     conv => whnf
     repeat' (refine And.intro (fun _ => ?_) (fun _ => ?_) <;> conv => whnf)
     all_goals first
      | (refine ⟨k + 1, ?_⟩
         conv => whnf
         repeat (refine And.intro ?_ ?_; (focus (first | rfl | (simp; done) | (rw [Wr64 _ (by omega) (by omega)]; omega; done))); conv => whnf)
         have hn : codeB s[k] = true := by simp_all [codeB] <;> omega
         rw [hn] at he
         exact ⟨⟨by omega, he⟩, by omega⟩)
      | (have hn : codeB s[k] = false := by simp_all [codeB] <;> omega
         rw [hn] at he
         simp [codeB_eq, he]; done)
    ·have hge : s.length ≤ k := by simp at hge; omega
     conv => whnf
     have : k = s.length := by omega
     subst this
     simp at he
     rw [codeB_eq]
     simp [h1, h2]
     exact he
 ·conv => whnf
  have h1 : ¬ 1 ≤ s.length := by simp at h1; omega
  simp [isCodeB, h1]
end Go.Proofs.YtbedaolpfedacaaGreatDoor
namespace Go.Proofs.YtbedaolpfedacaaGreatDoor
open Go.Av Go.Av.Net
theorem any_step {α : Type} (p : α → Bool) (xs : List α) (k : Nat) (hk : k < xs.length) : (xs.drop k).any p = (p xs[k] || (xs.drop (k + 1)).any p) := by
 rw [List.drop_eq_getElem_cons hk]; rfl
def nmB (b : UInt8) : Bool := smallB b || digB b || decide (b.toNat = 95)
def strs (l : List Bs) : List AV := l.map AV.str
@[simp] theorem strs_length (l : List Bs) : (strs l).length = l.length := by simp [strs]
theorem strs_get (l : List Bs) (k : Nat) (h : k < l.length) : (strs l)[k]? = some (.str l[k]) := by simp [strs, h]
theorem isNameB_eq (s : Bs) : isNameB s = (decide (1 ≤ s.length) && decide (s.length ≤ 16) && smallB (s.headD 0) && s.all nmB && !keyWords.any (fun x => decide (s = x))) := rfl
set_option maxRecDepth 20000 in
theorem isName_spec (s : Bs) (hs : s.length ≤ 8000) : Ctr Tryz.prog 110 [.str s] (fun r => r = .bool (isNameB s)) := by
 refine Ctr.of_body Tryz.func110 rfl tys_ok (by kernel_rfl) ?_
 conv => whnf
 refine cd_sound tys_ok _ ?_
 conv => whnf
 refine ⟨fun h1 => ?_, fun h1 => ?_⟩
 ·have h1 : 1 ≤ s.length := by simp at h1; omega
  conv => whnf
  refine ⟨fun h2 => ?_, fun h2 => ?_⟩
  ·have h2 : s.length ≤ 16 := by simp at h2; omega
   conv => whnf
   refine ⟨⟨by omega, by omega⟩, ?_⟩
   conv => whnf
   have hg : s.getD (0 : Int).toNat 0 = s.headD 0 := by cases s <;> rfl
   rw [hg]
   refine ACall.of_spec (isSmall_spec (s.headD 0)) rfl fun r hr => ?_
   subst hr
   conv => whnf
   refine ⟨fun h3 => ?_, fun h3 => ?_⟩
   ·conv => whnf
    have h3 : smallB (s.headD 0) = false := by simpa using h3
    simp only [isNameB_eq, h3, Bool.and_false, Bool.false_and]
   ·have h3 : smallB (s.headD 0) = true := by simpa using h3
    conv => whnf
    refine ACode.loopT (fun k : Nat => mk 49 [(0, .str s), (22, .sl 1 (byts s)), (23, .int .i64 (byts s).length), (24, .int .i64 k)]) (fun _ => []) (fun k => k ≤ s.length ∧ (s.all nmB) = (s.drop k).all nmB) (fun k => s.length - k) ⟨0, ?_⟩ fun k hk => ?_
    ·conv => whnf
     repeat (refine And.intro ?_ ?_; (focus (first | rfl | (simp; done))); conv => whnf)
     rfl
    ·obtain ⟨hk, he⟩ := hk
     refine cd_sound tys_ok _ ?_
     conv => whnf
     refine ⟨fun hlt => ?_, fun hge => ?_⟩
     ·have hlt : k < s.length := by simpa using hlt
      rw [all_step _ s k hlt] at he
      conv => whnf
      refine ⟨by omega, .int .u8 s[k].toNat, byts_get _ _ hlt, ?_⟩
      conv => whnf
      refine ACall.of_spec (isSmall_spec s[k]) rfl fun r hr => ?_
      subst hr
      conv => whnf
      repeat' (first | (refine And.intro (fun _ => ?_) (fun _ => ?_) <;> conv => whnf) | (refine ACall.of_spec (isDigit_spec s[k]) rfl fun r hr => ?_; subst hr; (conv => whnf)))
      all_goals first
       | (refine ⟨k + 1, ?_⟩
          conv => whnf
          repeat (refine And.intro ?_ ?_; (focus (first | rfl | (simp; done) | (rw [Wr64 _ (by omega) (by omega)]; omega; done))); conv => whnf)
          have hn : nmB s[k] = true := by simp_all [nmB] <;> omega
          rw [hn] at he
          exact ⟨⟨by omega, he⟩, by omega⟩)
       | (have hn : nmB s[k] = false := by simp_all [nmB] <;> omega
          rw [hn] at he
          simp [isNameB_eq, he]; done)
     ·have hge : s.length ≤ k := by simp at hge; omega
      have : k = s.length := by omega
      subst this
      have h4 : s.all nmB = true := by rw [he]; simp
      conv => whnf
      refine ACode.loopT (fun k : Nat => mk 49 [(0, .str s), (41, .agg (strs keyWords)), (42, .int .i64 k)]) (fun _ => []) (fun k => k ≤ 17 ∧ keyWords.any (fun x => decide (s = x)) = (keyWords.drop k).any (fun x => decide (s = x))) (fun k => 17 - k) ⟨0, ?_⟩ fun k hk => ?_
      ·conv => whnf
       repeat (refine And.intro ?_ ?_; (focus (first | rfl | (simp; done))); conv => whnf)
       rfl
      ·obtain ⟨hk, he⟩ := hk
       refine cd_sound tys_ok _ ?_
       conv => whnf
       refine ⟨fun hlt => ?_, fun hge => ?_⟩
       ·have hlt : k < 17 := by simp at hlt; omega
        have hlt' : k < keyWords.length := hlt
        rw [any_step _ keyWords k hlt'] at he
        conv => whnf
        refine ⟨⟨by omega, by omega⟩, .str keyWords[k], strs_get _ _ hlt', ?_⟩
        conv => whnf
        refine ⟨fun ht => ?_, fun hf => ?_⟩
        ·conv => whnf
         have ht : s = keyWords[k] := by simpa using ht
         rw [decide_eq_true ht, Bool.true_or] at he
         simp only [isNameB_eq, he]
         simp
        ·conv => whnf
         have hf : ¬ s = keyWords[k] := by simpa using hf
         rw [decide_eq_false hf, Bool.false_or] at he
         refine ⟨k + 1, ?_⟩
         conv => whnf
         repeat (refine And.intro ?_ ?_; (focus (first | rfl | (simp; done) | (rw [Wr64 _ (by omega) (by omega)]; omega; done))); conv => whnf)
         exact ⟨⟨by omega, he⟩, by omega⟩
       ·have hge : 17 ≤ k := by simp at hge; omega
        have : k = 17 := by omega
        subst this
        conv => whnf
        have h5 : keyWords.any (fun x => decide (s = x)) = false := by rw [he]; rfl
        simp only [isNameB_eq, h3, h4, h5]
        simp [h1, h2]
  ·conv => whnf
   have h2 : ¬ s.length ≤ 16 := by simp at h2; omega
   simp [isNameB_eq, h2]
 ·conv => whnf
  have h1 : ¬ 1 ≤ s.length := by simp at h1; omega
  simp [isNameB_eq, h1]
end Go.Proofs.YtbedaolpfedacaaGreatDoor
namespace Go.Proofs.YtbedaolpfedacaaGreatDoor
open Go.Av Go.Av.Net
open Go.RowKit (Below)
theorem indexByte_spec (s : Bs) (c : UInt8) : Ctr Tryz.prog 108 [.str s, .int .u8 c.toNat] (fun r => r = .int .i64 (Lib.indexByte s c)) := by
 refine ⟨by kernel_rfl, fun C w vs hlt hr => ?_⟩
 unfold Reps at hr
 obtain ⟨v, vs', rfl, h1, hr⟩ := hr
 unfold Reps at hr
 obtain ⟨v2, vs2, rfl, h2, hr⟩ := hr
 unfold Reps at hr
 subst hr
 unfold Rep at h1 h2
 obtain ⟨rfl, hl⟩ := h1
 obtain ⟨rfl, _⟩ := h2
 refine (Tryz.strings_IndexByte ⟨s.toArray⟩ (c.toNat : Int) w).mono fun e w' ⟨h3, h4⟩ => ?_
 subst h4
 refine ⟨_, _, h3, rfl, Below.refl _ _, ?_⟩
 have e1 : ((c.toNat : Int).toNat.toUInt8) = c := by simp
 rw [e1]
 have hb : ∀ l : Bs, -1 ≤ Lib.indexByte l c ∧ Lib.indexByte l c ≤ l.length := fun l => by
  induction l with
  | nil => simp [Lib.indexByte]
  | cons x l ih =>
   unfold Lib.indexByte
   simp only [List.length_cons]
   split
   ·omega
   ·split <;> omega
 have := hb s
 unfold Rep
 refine ⟨by simp, ?_⟩
 unfold inK IntKind.min IntKind.max
 simp [IntKind.signed, IntKind.bits]
 omega
theorem hasPrefix0_spec (s p : Bs) (hs : s.length ≤ 8000) (hp : p.length ≤ 8000) : Ctr Tryz.prog 126 [.str s, .str p] (fun r => r = .bool (p.isPrefixOf s)) := by
 refine Ctr.of_body Tryz.func126 rfl tys_ok (by kernel_rfl) ?_
 conv => whnf
 refine cd_sound tys_ok _ ?_
 conv => whnf
 refine ⟨fun h1 => ?_, fun h1 => ?_⟩
 ·have h1 : p.length ≤ s.length := by simp at h1; omega
  conv => whnf
  refine ⟨⟨by omega, by omega⟩, ?_⟩
  conv => whnf
  refine congrArg AV.bool ?_
  have e : List.drop (Int.toNat 0) (List.take ((p.length : Int)).toNat s) = s.take p.length := by simp
  rw [e, Bool.eq_iff_iff, beq_iff_eq, List.isPrefixOf_iff_prefix, List.prefix_iff_eq_take, eq_comm]
 ·have h1 : ¬ p.length ≤ s.length := by simp at h1; omega
  conv => whnf
  refine congrArg AV.bool ?_
  rw [eq_comm, ← Bool.not_eq_true, List.isPrefixOf_iff_prefix]
  exact fun h => h1 h.length_le
theorem hasPrefix_spec (s p : Bs) (hs : s.length ≤ 8000) (hp : p.length ≤ 8000) : Ctr Tryz.prog 107 [.str s, .str p] (fun r => r = .bool (p.isPrefixOf s)) := by
 refine Ctr.of_body Tryz.func107 rfl tys_ok (by kernel_rfl) ?_
 conv => whnf
 refine cd_sound tys_ok _ ?_
 conv => whnf
 refine ACall.of_spec (hasPrefix0_spec s p hs hp) rfl fun r hr => ?_
 subst hr
 conv => whnf
theorem syms_len : ∀ x ∈ syms, 1 ≤ x.length ∧ x.length ≤ 2 := by decide
set_option maxRecDepth 20000 in
theorem symbolLength_spec (s : Bs) (hs : s.length ≤ 8000) : Ctr Tryz.prog 81 [.str s] (fun r => r = .int .i64 (symLen s)) := by
 refine Ctr.of_body Tryz.func81 rfl tys_ok (by kernel_rfl) ?_
 conv => whnf
 refine cd_sound tys_ok _ ?_
 conv => whnf
 refine ACode.loopT (fun k : Nat => mk 15 [(0, .str s), (5, .agg (strs syms)), (6, .int .i64 k)]) (fun _ => []) (fun k => k ≤ 13 ∧ syms.find? (fun x => x.isPrefixOf s) = (syms.drop k).find? (fun x => x.isPrefixOf s)) (fun k => 13 - k) ⟨0, ?_⟩ fun k hk => ?_
 ·conv => whnf
  repeat (refine And.intro ?_ ?_; (focus (first | rfl | (simp; done))); conv => whnf)
  rfl
 ·obtain ⟨hk, he⟩ := hk
  refine cd_sound tys_ok _ ?_
  conv => whnf
  refine ⟨fun hlt => ?_, fun hge => ?_⟩
  ·have hlt : k < 13 := by simp at hlt; omega
   have hlt' : k < syms.length := hlt
   rw [List.drop_eq_getElem_cons hlt', List.find?_cons] at he
   have hl := syms_len _ (List.getElem_mem hlt')
   conv => whnf
   refine ⟨⟨by omega, by omega⟩, .str syms[k], strs_get _ _ hlt', ?_⟩
   conv => whnf
   refine ACall.of_spec (hasPrefix_spec s syms[k] hs (by omega)) rfl fun r hr => ?_
   subst hr
   conv => whnf
   refine ⟨fun ht => ?_, fun hf => ?_⟩
   ·conv => whnf
    rw [ht] at he
    simp only at he
    simp only [symLen, he]
   ·conv => whnf
    rw [hf] at he
    simp only at he
    refine ⟨k + 1, ?_⟩
    conv => whnf
    repeat (refine And.intro ?_ ?_; (focus (first | rfl | (simp; done) | (rw [Wr64 _ (by omega) (by omega)]; omega; done))); conv => whnf)
    exact ⟨⟨by omega, he⟩, by omega⟩
  ·have hge : 13 ≤ k := by simp at hge; omega
   have : k = 13 := by omega
   subst this
   conv => whnf
   have he : syms.find? (fun x => x.isPrefixOf s) = none := by rw [he]; rfl
   simp [symLen, he]
theorem runP_step (s : Bs) (k : Nat) (hk : k < s.length) : runP (s.drop k) = bif wordB s[k] then ((runP (s.drop (k + 1))).1 + 1, (runP (s.drop (k + 1))).2 + bif digB s[k] then 1 else 0) else (0, 0) := by
 rw [List.drop_eq_getElem_cons hk]; rfl
theorem runP_end (s : Bs) : runP (s.drop s.length) = (0, 0) := by simp [runP]
set_option maxRecDepth 20000 in
theorem run_spec (s : Bs) (hs : s.length ≤ 8000) : Ctr Tryz.prog 106 [.str s] (fun r => r = .tuple [.int .i64 (runP s).1, .int .i64 (runP s).2]) := by
 refine Ctr.of_body Tryz.func106 rfl tys_ok (by kernel_rfl) ?_
 conv => whnf
 refine cd_sound tys_ok _ ?_
 conv => whnf
 refine ACode.loopT (fun i : Nat × Nat => mk 26 [(0, .str s), (4, .int .i64 i.1), (5, .int .i64 i.2)]) (fun _ => []) (fun i => i.1 ≤ s.length ∧ i.2 ≤ i.1 ∧ runP s = (i.1 + (runP (s.drop i.1)).1, i.2 + (runP (s.drop i.1)).2)) (fun i => s.length - i.1) ⟨(0, 0), ?_⟩ fun i hi => ?_
 ·conv => whnf
  repeat (refine And.intro ?_ ?_; (focus (first | rfl | (simp; done))); conv => whnf)
  simp
 ·obtain ⟨k, d⟩ := i
  obtain ⟨hk, hd, he⟩ := hi
  simp only at hk hd he ⊢
  refine cd_sound tys_ok _ ?_
  conv => whnf
  refine ⟨fun hlt => ?_, fun hge => ?_⟩
  ·have hlt : k < s.length := by simpa using hlt
   rw [runP_step s k hlt] at he
   conv => whnf
   refine ⟨⟨by omega, by omega⟩, ?_⟩
   conv => whnf
   rw [getD_byte s k hlt]
   refine ACall.of_spec (isWordByte_spec s[k]) rfl fun r hr => ?_
   subst hr
   conv => whnf
   refine ⟨fun ht => ?_, fun hf => ?_⟩
   ·rw [ht] at he
    simp only [cond_true] at he
    conv => whnf
    refine ⟨⟨by omega, by omega⟩, ?_⟩
    conv => whnf
    rw [getD_byte s k hlt]
    refine ACall.of_spec (lDigit_spec s[k]) rfl fun r hr => ?_
    subst hr
    conv => whnf
    refine ⟨fun hd1 => ?_, fun hd1 => ?_⟩
    ·rw [hd1] at he
     conv => whnf
     refine ⟨(k + 1, d + 1), ?_⟩
     conv => whnf
     repeat (refine And.intro ?_ ?_; (focus (first | rfl | (simp; done) | ((rw [Wr64 _ (by omega) (by omega)]; omega); done))); conv => whnf)
     refine ⟨⟨by omega, by omega, ?_⟩, by simp only; omega⟩
     rw [he]
     simp only [cond_true]
     refine Prod.ext ?_ ?_ <;> simp only <;> omega
    ·rw [hd1] at he
     conv => whnf
     refine ⟨(k + 1, d), ?_⟩
     conv => whnf
     repeat (refine And.intro ?_ ?_; (focus (first | rfl | (simp; done) | ((rw [Wr64 _ (by omega) (by omega)]; omega); done))); conv => whnf)
     refine ⟨⟨by omega, by omega, ?_⟩, by simp only; omega⟩
     rw [he]
     simp only [cond_false]
     refine Prod.ext ?_ ?_ <;> simp only <;> omega
   ·conv => whnf
    rw [hf] at he
    simp only [cond_false, Nat.add_zero] at he
    rw [he]
  ·have hge : s.length ≤ k := by simp at hge; omega
   have : k = s.length := by omega
   subst this
   rw [runP_end] at he
   conv => whnf
   simp only [Nat.add_zero] at he
   rw [he]
end Go.Proofs.YtbedaolpfedacaaGreatDoor
namespace Go.Proofs.YtbedaolpfedacaaGreatDoor
open Go.Av Go.Av.Net
theorem runP_le : ∀ s : Bs, (runP s).1 ≤ s.length ∧ (runP s).2 ≤ (runP s).1
 | [] => by simp [runP]
 | b :: r => by
  obtain ⟨h1, h2⟩ := runP_le r
  unfold runP
  cases wordB b <;> cases digB b <;> simp <;> omega
theorem numLen_if (s : Bs) : numLen s = if (runP s).2 = (runP s).1 ∧ (runP s).1 ≤ 8 then (runP s).1 else 0 := by
 unfold numLen
 by_cases h1 : (runP s).2 = (runP s).1 <;> by_cases h2 : 8 < (runP s).1 <;> simp [h1, h2] <;> omega
theorem nameLen_if (s : Bs) : nameLen s = if (runP s).2 = (runP s).1 ∨ 20 < (runP s).1 ∨ (s.headD 0).toNat = 95 then 0 else (runP s).1 := by
 unfold nameLen
 have e : (s.headD 0 = 95) ↔ ((s.headD 0).toNat = 95) := ⟨fun h => by rw [h]; rfl, fun h => UInt8.toNat_inj.1 h⟩
 by_cases h1 : (runP s).2 = (runP s).1 <;> by_cases h2 : 20 < (runP s).1 <;> by_cases h3 : s.headD 0 = 95 <;> have h4 := h3 <;> rw [e] at h4 <;> simp only [h1, h2, h3, h4] <;> simp
set_option maxRecDepth 20000 in
theorem numberLength_spec (s : Bs) (hs : s.length ≤ 8000) : Ctr Tryz.prog 78 [.str s] (fun r => r = .int .i64 (numLen s)) := by
 have hb := runP_le s
 refine Ctr.of_body Tryz.func78 rfl tys_ok (by kernel_rfl) ?_
 conv => whnf
 refine cd_sound tys_ok _ ?_
 conv => whnf
 refine ACall.of_spec (run_spec s hs) rfl fun r hr => ?_
 subst hr
 conv => whnf
 repeat' (refine And.intro (fun _ => ?_) (fun _ => ?_) <;> conv => whnf)
 all_goals (refine congrArg (AV.int IntKind.i64) ?_; rw [numLen_if]; split <;> simp_all <;> omega)
set_option maxRecDepth 20000 in
theorem nameLength_spec (s : Bs) (hs : s.length ≤ 8000) (h1 : 1 ≤ s.length) : Ctr Tryz.prog 79 [.str s] (fun r => r = .int .i64 (nameLen s)) := by
 have hb := runP_le s
 refine Ctr.of_body Tryz.func79 rfl tys_ok (by kernel_rfl) ?_
 conv => whnf
 refine cd_sound tys_ok _ ?_
 conv => whnf
 refine ACall.of_spec (run_spec s hs) rfl fun r hr => ?_
 subst hr
 conv => whnf
 have hg : s.getD (0 : Int).toNat 0 = s.headD 0 := by cases s <;> rfl
 repeat' (first | (refine And.intro ⟨by omega, by omega⟩ ?_; (conv => whnf); rw [hg]) | (refine And.intro (fun _ => ?_) (fun _ => ?_) <;> conv => whnf))
 all_goals (refine congrArg (AV.int IntKind.i64) ?_; rw [nameLen_if]; split <;> simp_all <;> omega)
theorem txt_step (s : Bs) (i : Nat) (hi : i < s.length) (h : i ≤ 201) : txt (202 - i) i (s.drop i) = bif decide (s[i].toNat = 34) then i + 1 else bif decide (s[i].toNat < 32) || decide (126 < s[i].toNat) then 0 else txt (202 - (i + 1)) (i + 1) (s.drop (i + 1)) := by
 rw [List.drop_eq_getElem_cons hi, show 202 - i = (202 - (i + 1)) + 1 by omega]
 rfl
theorem txt_nil (f i : Nat) : txt f i [] = 0 := by cases f <;> rfl
set_option maxRecDepth 20000 in
theorem textLength_spec (s : Bs) (hs : s.length ≤ 8000) (h1 : 1 ≤ s.length) : Ctr Tryz.prog 80 [.str s] (fun r => r = .int .i64 (txtLen s)) := by
 have hg : s.getD (0 : Int).toNat 0 = s.headD 0 := by cases s <;> rfl
 have ht : txtLen s = bif decide ((s.headD 0).toNat = 34) then txt (202 - 1) 1 (s.drop 1) else 0 := by cases s <;> rfl
 refine Ctr.of_body Tryz.func80 rfl tys_ok (by kernel_rfl) ?_
 conv => whnf
 refine cd_sound tys_ok _ ?_
 conv => whnf
 refine ⟨⟨by omega, by omega⟩, ?_⟩
 conv => whnf
 rw [hg]
 generalize s.headD 0 = c at *
 refine ⟨fun h2 => ?_, fun h2 => ?_⟩
 ·have h2 : ¬ c.toNat = 34 := by simp at h2; omega
  conv => whnf
  rw [ht, decide_eq_false h2]
  rfl
 ·have h2 : c.toNat = 34 := by simp at h2; omega
  rw [decide_eq_true h2, cond_true] at ht
  conv => whnf
  refine ACode.loopT (fun i : Nat => mk 35 [(0, .str s), (3, .int .i64 i)]) (fun _ => []) (fun i => 1 ≤ i ∧ i ≤ s.length ∧ i ≤ 202 ∧ txtLen s = txt (202 - i) i (s.drop i)) (fun i => s.length - i) ⟨1, ?_⟩ fun i hi => ?_
  ·conv => whnf
   repeat (refine And.intro ?_ ?_; (focus (first | rfl | (simp; done))); conv => whnf)
   exact ⟨h1, by omega, ht⟩
  ·obtain ⟨hi, hi1, hi2, he⟩ := hi
   refine cd_sound tys_ok _ ?_
   conv => whnf
   refine ⟨fun hlt => ?_, fun hge => ?_⟩
   ·have hlt : i < s.length := by simpa using hlt
    conv => whnf
    refine ⟨fun hle => ?_, fun hgt => ?_⟩
    ·have hle : i ≤ 201 := by simp at hle; omega
     rw [txt_step s i hlt hle] at he
     conv => whnf
     refine ⟨⟨by omega, by omega⟩, ?_⟩
     conv => whnf
     rw [getD_byte s i hlt]
     refine ⟨fun h3 => ?_, fun h3 => ?_⟩
     ·have h3 : s[i].toNat = 34 := by simp at h3; omega
      rw [decide_eq_true h3, cond_true] at he
      conv => whnf
      rw [he, Wr64 _ (by omega) (by omega)]
      rfl
     ·have h3 : ¬ s[i].toNat = 34 := by simp at h3; omega
      rw [decide_eq_false h3, cond_false] at he
      conv => whnf
      refine ⟨⟨by omega, by omega⟩, ?_⟩
      conv => whnf
      rw [getD_byte s i hlt]
      repeat' (first | (refine And.intro ⟨by omega, by omega⟩ ?_; (conv => whnf); rw [getD_byte s i hlt]) | (refine And.intro (fun _ => ?_) (fun _ => ?_) <;> conv => whnf))
      all_goals first
       | (refine ⟨i + 1, ?_⟩
          conv => whnf
          repeat (refine And.intro ?_ ?_; (focus (first | rfl | (simp; done) | ((rw [Wr64 _ (by omega) (by omega)]; omega); done))); conv => whnf)
          have hn : (decide (s[i].toNat < 32) || decide (126 < s[i].toNat)) = false := by simp_all <;> omega
          rw [hn, cond_false] at he
          exact ⟨⟨by omega, by omega, by omega, he⟩, by omega⟩)
       | (have hn : (decide (s[i].toNat < 32) || decide (126 < s[i].toNat)) = true := by simp_all <;> omega
          rw [hn, cond_true] at he
          rw [he]; rfl)
    ·have hgt : ¬ i ≤ 201 := by simp at hgt; omega
     have : i = 202 := by omega
     subst this
     conv => whnf
     rw [he]
     rfl
   ·have hge : s.length ≤ i := by simp at hge; omega
    rw [List.drop_eq_nil_of_le hge, txt_nil] at he
    conv => whnf
    rw [he]
    rfl
theorem idx_bd (c : UInt8) : ∀ l : Bs, -1 ≤ Lib.indexByte l c ∧ Lib.indexByte l c < l.length
 | [] => by simp [Lib.indexByte]
 | x :: l => by
  have ih := idx_bd c l
  unfold Lib.indexByte
  simp only [List.length_cons]
  split
  ·omega
  ·split <;> omega
theorem gap_true : ∀ l : Bs, gap true l = if Lib.indexByte l 10 = -1 then l.length else (Lib.indexByte l 10).toNat + gap false (l.drop (Lib.indexByte l 10).toNat)
 | [] => by simp [gap, Lib.indexByte]
 | b :: r => by
  have ih := gap_true r
  have hb := idx_bd 10 r
  unfold Lib.indexByte
  by_cases hc : b = 10
  ·subst hc
   simp [gap, blankB]
  ·have hn : ¬ b.toNat = 10 := fun h => hc (UInt8.toNat_inj.1 h)
   have hc' : (b == 10) = false := by simpa using hc
   rw [hc']
   simp only [gap, hn, decide_false, cond_false, Bool.false_eq_true, if_false]
   rw [ih]
   by_cases hi : Lib.indexByte r 10 = -1
   ·simp [hi]
   ·have hi' : (Lib.indexByte r 10 == -1) = false := by simpa using hi
    rw [hi', if_neg hi]
    simp only [Bool.false_eq_true, if_false]
    rw [if_neg (by omega), show (Lib.indexByte r 10 + 1).toNat = (Lib.indexByte r 10).toNat + 1 by omega]
    simp only [List.drop_succ_cons]
    omega
theorem gap_step (s : Bs) (k : Nat) (hk : k < s.length) : gap false (s.drop k) = bif blankB s[k] then gap false (s.drop (k + 1)) + 1 else bif decide (s[k].toNat = 37) then gap true (s.drop (k + 1)) + 1 else 0 := by
 rw [List.drop_eq_getElem_cons hk]; rfl
theorem idx_cons (b : UInt8) (r : Bs) (c : UInt8) : Lib.indexByte (b :: r) c = if b == c then 0 else if Lib.indexByte r c == -1 then -1 else Lib.indexByte r c + 1 := rfl
theorem gap_comment (s : Bs) (k : Nat) (hk : k < s.length) (h : s[k].toNat = 37) :
  (Lib.indexByte (s.drop k) 10 < 0 → gap false (s.drop k) = s.length - k) ∧ (0 ≤ Lib.indexByte (s.drop k) 10 → gap false (s.drop k) = (Lib.indexByte (s.drop k) 10).toNat + gap false (s.drop (k + (Lib.indexByte (s.drop k) 10).toNat)) ∧ k + (Lib.indexByte (s.drop k) 10).toNat ≤ s.length ∧ 1 ≤ (Lib.indexByte (s.drop k) 10).toNat) := by
 have hb : blankB s[k] = false := by simp [blankB, h]
 have hc : ¬ s[k] = 10 := fun e => by rw [e] at h; exact absurd h (by decide)
 have hc' : (s[k] == 10) = false := by simpa using hc
 have hg := gap_step s k hk
 rw [hb, decide_eq_true h, cond_false, cond_true, gap_true] at hg
 have hd : Lib.indexByte (s.drop k) 10 = if Lib.indexByte (s.drop (k + 1)) 10 = -1 then -1 else Lib.indexByte (s.drop (k + 1)) 10 + 1 := by
  rw [List.drop_eq_getElem_cons hk, idx_cons, hc']
  simp
 have hbd := idx_bd 10 (s.drop (k + 1))
 simp only [List.length_drop] at hbd
 by_cases hi : Lib.indexByte (s.drop (k + 1)) 10 = -1
 ·rw [if_pos hi] at hd hg
  refine ⟨fun _ => ?_, fun h0 => by omega⟩
  simp only [List.length_drop] at hg
  omega
 ·rw [if_neg hi] at hd hg
  refine ⟨fun h0 => by omega, fun _ => ?_⟩
  rw [hd]
  have e : (Lib.indexByte (s.drop (k + 1)) 10 + 1).toNat = (Lib.indexByte (s.drop (k + 1)) 10).toNat + 1 := by omega
  rw [e]
  rw [List.drop_drop] at hg
  rw [show k + ((Lib.indexByte (s.drop (k + 1)) 10).toNat + 1) = k + 1 + (Lib.indexByte (s.drop (k + 1)) 10).toNat by omega]
  omega
set_option maxRecDepth 20000 in
theorem skip_spec (s : Bs) (hs : s.length ≤ 8000) (p : Nat) (hp : p ≤ s.length) : Ctr Tryz.prog 82 [.str s, .int .i64 p] (fun r => r = .int .i64 ((p + gap false (s.drop p) : Nat) : Int)) := by
 refine Ctr.of_body Tryz.func82 rfl tys_ok (by kernel_rfl) ?_
 conv => whnf
 refine cd_sound tys_ok _ ?_
 conv => whnf
 refine ACode.loopT (fun k : Nat => mk 35 [(0, .str s), (1, .int .i64 k)]) (fun _ => []) (fun k => k ≤ s.length ∧ p + gap false (s.drop p) = k + gap false (s.drop k)) (fun k => s.length - k) ⟨p, ?_⟩ fun k hk => ?_
 ·conv => whnf
  repeat (refine And.intro ?_ ?_; (focus (first | rfl | (simp; done))); conv => whnf)
  exact ⟨hp, rfl⟩
 ·obtain ⟨hk, he⟩ := hk
  refine cd_sound tys_ok _ ?_
  conv => whnf
  refine ⟨fun hlt => ?_, fun hge => ?_⟩
  ·have hlt : k < s.length := by simpa using hlt
   conv => whnf
   refine ⟨⟨by omega, by omega⟩, ?_⟩
   conv => whnf
   rw [getD_byte s k hlt]
   have hs1 := gap_step s k hlt
   repeat' (first | (refine And.intro (fun _ => ?_) (fun _ => ?_) <;> conv => whnf) | fail)
   all_goals first
    | (exfalso; simp_all; done)
    | (refine ⟨k + 1, ?_⟩
       conv => whnf
       repeat (refine And.intro ?_ ?_; (focus (first | rfl | (simp; done) | ((rw [Wr64 _ (by omega) (by omega)]; omega); done))); conv => whnf)
       have hn : blankB s[k] = true := by simp_all [blankB] <;> omega
       rw [hn, cond_true] at hs1
       exact ⟨⟨by omega, by omega⟩, by omega⟩)
    | (have hn : blankB s[k] = false := by simp_all [blankB] <;> omega
       have h37 : ¬ s[k].toNat = 37 := by simp_all <;> omega
       rw [hn, decide_eq_false h37] at hs1
       simp only [cond_false] at hs1
       rw [he, hs1]; rfl)
    | (have h37 : s[k].toNat = 37 := by simp_all <;> omega
       obtain ⟨g1, g2⟩ := gap_comment s k hlt h37
       refine ⟨⟨by omega, by omega, by omega⟩, ?_⟩
       (conv => whnf)
       have e1 : List.drop ((k : Int)).toNat (List.take ((s.length : Int)).toNat s) = s.drop k := by simp
       rw [e1]
       refine ACall.of_spec (indexByte_spec (s.drop k) 10) rfl fun r hr => ?_
       subst hr
       have hbd := idx_bd 10 (s.drop k)
       simp only [List.length_drop] at hbd
       generalize Lib.indexByte (s.drop k) 10 = j at *
       (conv => whnf)
       refine ⟨fun hn => ?_, fun hn => ?_⟩
       · have hn : j < 0 := by simpa using hn
         (conv => whnf)
         rw [he, g1 hn, show k + (s.length - k) = s.length by omega]
       · have hn : 0 ≤ j := by simp at hn; omega
         obtain ⟨g3, g4, g5⟩ := g2 hn
         (conv => whnf)
         refine ⟨k + j.toNat, ?_⟩
         conv => whnf
         repeat (refine And.intro ?_ ?_; (focus (first | rfl | (simp; done) | ((rw [Wr64 _ (by omega) (by omega)]; omega); done))); conv => whnf)
         exact ⟨⟨by omega, by omega⟩, by omega⟩)
  ·have hge : s.length ≤ k := by simp at hge; omega
   have : k = s.length := by omega
   subst this
   simp only [List.drop_length, gap] at he
   conv => whnf
   rw [he]
   rfl
end Go.Proofs.YtbedaolpfedacaaGreatDoor
namespace Go.Proofs.YtbedaolpfedacaaGreatDoor
open Go.Av Go.Av.Net
def tokA (t : Tok) : AV := .agg [.int .i64 t.kind, .str t.text, .int .i64 t.pos]
def toksA (l : List Tok) : List AV := l.map tokA
set_option maxRecDepth 20000 in
theorem token_spec (n : Int) (s : Bs) (p : Nat) (hs : s.length ≤ 8000) (h4 : n = 4 → 2 ≤ s.length) : Ctr Tryz.prog 83 [.int .i64 n, .str s, .int .i64 p] (fun r => r = tokA ⟨n, bif decide (n = 4) then (s.take (s.length - 1)).drop 1 else s, p⟩) := by
 refine Ctr.of_body Tryz.func83 rfl tys_ok (by kernel_rfl) ?_
 conv => whnf
 refine cd_sound tys_ok _ ?_
 conv => whnf
 refine ⟨fun h => ?_, fun h => ?_⟩
 ·have h : n = 4 := by simpa using h
  have h2 := h4 h
  conv => whnf
  refine ⟨⟨by omega, by rw [Wr64 _ (by omega) (by omega)]; omega, by rw [Wr64 _ (by omega) (by omega)]; omega⟩, ?_⟩
  conv => whnf
  rw [Wr64 _ (by omega) (by omega)]
  rw [decide_eq_true h, cond_true]
  have e : ((s.length : Int) - 1).toNat = s.length - 1 := by omega
  rw [e]
  rfl
 ·have h : ¬ n = 4 := by simpa using h
  conv => whnf
  rw [decide_eq_false h, cond_false]
  rfl
def resLx : Lx → AV
 | .ok l => .tuple [.sl 3 (toksA l), .int .i64 0, .int .i64 (-1)]
 | .err e p => .tuple [.sl 3 [], .int .i64 e, .int .i64 p]
@[simp] theorem toksA_length (l : List Tok) : (toksA l).length = l.length := by simp [toksA]
def kindsA : List AV := [.agg [.int .i64 2, .fn 78 []], .agg [.int .i64 1, .fn 79 []], .agg [.int .i64 4, .fn 80 []], .agg [.int .i64 3, .fn 81 []]]
def Lx.app (l : List Tok) : Lx → Lx
 | .ok r => .ok (l ++ r)
 | .err e p => .err e p
theorem app_cons (l : List Tok) (t : Tok) (x : Lx) : Lx.app l (x.cons t) = Lx.app (l ++ [t]) x := by
 cases x <;> simp [Lx.app, Lx.cons]
theorem closed_toks (l : List Tok) : ∀ e ∈ toksA l, closed e = true := by
 intro e he
 obtain ⟨t, _, rfl⟩ := List.mem_map.1 he
 rfl
theorem gap_le : ∀ (b : Bool) (s : Bs), gap b s ≤ s.length
 | _, [] => by simp [gap]
 | false, b :: r => by
  have h1 := gap_le false r
  have h2 := gap_le true r
  unfold gap
  cases blankB b <;> simp
  ·cases decide (b.toNat = 37) <;> simp <;> omega
  ·omega
 | true, b :: r => by
  have h1 := gap_le false r
  have h2 := gap_le true r
  unfold gap
  cases decide (b.toNat = 10) <;> simp <;> omega
theorem nameLen_le (s : Bs) : nameLen s ≤ s.length := by
 have hb := (runP_le s).1
 rw [nameLen_if]; split <;> omega
theorem txt_le : ∀ (f i : Nat) (r : Bs), txt f i r ≤ i + r.length ∧ (0 < txt f i r → i + 1 ≤ txt f i r)
 | 0, i, r => by simp [txt]
 | f + 1, i, [] => by simp [txt]
 | f + 1, i, b :: r => by
  have h := txt_le f (i + 1) r
  unfold txt
  by_cases h1 : b.toNat = 34
  ·rw [decide_eq_true h1, cond_true]; simp only [List.length_cons]; omega
  ·rw [decide_eq_false h1, cond_false]
   cases (decide (b.toNat < 32) || decide (126 < b.toNat))
   ·simp only [cond_false, List.length_cons]; omega
   ·simp
theorem txtLen_le (s : Bs) : txtLen s ≤ s.length ∧ (0 < txtLen s → 2 ≤ txtLen s) := by
 cases s with
 | nil => simp [txtLen]
 | cons b r =>
  have h := txt_le 201 1 r
  rw [show txtLen (b :: r) = bif decide (b.toNat = 34) then txt 201 1 r else 0 from rfl]
  by_cases h1 : b.toNat = 34
  ·rw [decide_eq_true h1, cond_true]; simp only [List.length_cons]; omega
  ·rw [decide_eq_false h1, cond_false]; simp
theorem symLen_le (s : Bs) : symLen s ≤ s.length := by
 unfold symLen
 split
 ·rename_i x hx
  have := List.find?_some hx
  rw [List.isPrefixOf_iff_prefix] at this
  exact this.length_le
 ·exact Nat.zero_le _
theorem slice_eq (s : Bs) (q n : Nat) : List.drop ((q : Int)).toNat (List.take (((q + n : Nat) : Int)).toNat s) = (s.drop q).take n := by
 rw [Int.toNat_natCast, Int.toNat_natCast, List.drop_take, Nat.add_sub_cancel_left]
set_option maxRecDepth 20000 in
theorem Lex_spec (s : Bs) (hs : s.length ≤ 9223372036854775807) : Ctr Tryz.prog 52 [.str s] (fun r => r = resLx (lexP s)) := by
 refine Ctr.of_body Tryz.func52 rfl tys_ok (by kernel_rfl) ?_
 conv => whnf
 refine cd_sound tys_ok _ ?_
 conv => whnf
 refine ⟨fun h => ?_, fun h => ?_⟩
 ·have h : 8000 < s.length := by simp at h; omega
  conv => whnf
  refine ⟨3, ?_⟩
  (conv => whnf)
  unfold lexP
  rw [decide_eq_true h]
  rfl
 ·have h : ¬ 8000 < s.length := by simp at h; omega
  conv => whnf
  refine ACode.nilArr 6 109 3 rfl ?_
  refine ACode.loopD (fun i : Nat × List Tok => mk 63 [(0, .str s), (5, .own 0 2 0 4), (6, .own 1 3 0 i.2.length), (7, .int .i64 i.1)]) (fun i => [.arr 114 2 kindsA, .arr 109 3 (toksA i.2)])
   (fun i => i.1 ≤ s.length ∧ i.2.length ≤ 3000 ∧ ∃ f, s.length < i.1 + f ∧ lexP s = Lx.app i.2 (lexGo s f i.1 i.2.length)) (fun i => s.length - i.1) (fun i hi => ⟨rfl, ?_⟩) ⟨(0, []), ?_⟩ (fun _ => rfl) fun i hi => ?_
  ·(conv => whnf)
   refine ⟨by decide, ?_⟩
   (conv => whnf)
   exact ⟨closed_toks _, trivial⟩
  ·conv => whnf
   repeat (refine And.intro ?_ ?_; (focus (first | rfl | (simp; done))); conv => whnf)
   refine ⟨s.length + 1, by simp only; omega, ?_⟩
   unfold lexP
   rw [decide_eq_false h, cond_false]
   simp only [List.length_nil]
   cases lexGo s (s.length + 1) 0 0 <;> simp [Lx.app]
  ·obtain ⟨p, l⟩ := i
   obtain ⟨hp, hl, f, hf, he⟩ := hi
   simp only at hp hl hf he ⊢
   refine cd_sound tys_ok _ ?_
   conv => whnf
   refine ACall.of_spec (skip_spec s (by omega) p hp) rfl fun r hr => ?_
   subst hr
   conv => whnf
   obtain ⟨f, rfl⟩ : ∃ f', f = f' + 1 := ⟨f - 1, by omega⟩
   unfold lexGo at he
   have hg := gap_le false (s.drop p)
   simp only [List.length_drop] at hg
   have hpq : p ≤ p + gap false (s.drop p) := Nat.le_add_right _ _
   have hqs : p + gap false (s.drop p) ≤ s.length := by omega
   generalize p + gap false (s.drop p) = q at *
   refine ⟨fun h1 => ?_, fun h1 => ?_⟩
   ·have h1 : q = s.length := by simp at h1; omega
    rw [decide_eq_true h1, cond_true] at he
    conv => whnf
    refine ⟨⟨(toksA_length l).symm, closed_toks _⟩, ?_⟩
    (conv => whnf)
    rw [he]
    simp [Lx.app, resLx]
   ·have h1 : ¬ q = s.length := by simp at h1; omega
    rw [decide_eq_false h1, cond_false] at he
    conv => whnf
    refine ⟨fun h2 => ?_, fun h2 => ?_⟩
    ·have h2 : l.length = 3000 := by simp at h2; omega
     rw [decide_eq_true h2, cond_true] at he
     conv => whnf
     refine ⟨3, ?_⟩
     (conv => whnf)
     rw [he]
     rfl
    ·have h2 : ¬ l.length = 3000 := by simp at h2; omega
     rw [decide_eq_false h2, cond_false] at he
     conv => whnf
     have ed : List.drop ((q : Int)).toNat (List.take ((s.length : Int)).toNat s) = s.drop q := by simp
     have ht1 : 1 ≤ (s.drop q).length := by simp only [List.length_drop]; omega
     have ht2 : (s.drop q).length ≤ 8000 := by simp only [List.length_drop]; omega
     refine ACode.loopD (fun j : Nat => mk 63 [(0, .str s), (5, .own 0 2 0 4), (6, .own 1 3 0 l.length), (7, .int .i64 q), (30, .own 0 2 0 4), (31, .int .i64 4), (32, .int .i64 j)]) (fun _ => [.arr 114 2 kindsA, .arr 109 3 (toksA l)])
      (fun j => j ≤ 4 ∧ (1 ≤ j → numLen (s.drop q) = 0) ∧ (2 ≤ j → nameLen (s.drop q) = 0) ∧ (3 ≤ j → txtLen (s.drop q) = 0) ∧ (4 ≤ j → symLen (s.drop q) = 0)) (fun j => 4 - j) (fun j hj => ⟨rfl, ?_⟩) ⟨0, ?_⟩ (fun _ => rfl) fun j hj => ?_
     ·(conv => whnf)
      refine ⟨by decide, ?_⟩
      (conv => whnf)
      exact ⟨closed_toks _, trivial⟩
     ·conv => whnf
      repeat (refine And.intro ?_ ?_; (focus (first | rfl | (simp; done))); conv => whnf)
      intro h; omega
     ·obtain ⟨hj, j1, j2, j3, j4⟩ := hj
      refine cd_sound tys_ok _ ?_
      conv => whnf
      refine ⟨fun h3 => ?_, fun h3 => ?_⟩
      ·have h3 : j < 4 := by simp at h3; omega
       conv => whnf
       have hjc : j = 0 ∨ j = 1 ∨ j = 2 ∨ j = 3 := by omega
       rcases hjc with rfl | rfl | rfl | rfl
       ·refine ⟨by decide, _, rfl, ?_⟩
        conv => whnf
        refine ACode.draw [] tys_ok (by kernel_rfl) (by kernel_rfl) ?_
        conv => whnf
        refine ⟨⟨by omega, by omega, by omega⟩, ?_⟩
        conv => whnf
        rw [ed]
        refine ⟨_, ⟨numberLength_spec (s.drop q) ht2, rfl⟩, ?_⟩
        conv => whnf
        have hb := (runP_le (s.drop q)).1
        have hn : numLen (s.drop q) ≤ (s.drop q).length := by rw [numLen_if]; split <;> omega
        simp only [List.length_drop] at hn
        refine ⟨fun hpos => ?_, fun hz => ?_⟩
        ·have hpos : 0 < numLen (s.drop q) := by simpa using hpos
         conv => whnf
         refine ACode.drawI [] [12] tys_ok (by kernel_rfl) (by kernel_rfl) ?_
         conv => whnf
         have ew : Wr .i64 ((q : Int) + (numLen (s.drop q) : Int)) = ((q + numLen (s.drop q) : Nat) : Int) := by rw [Wr64 _ (by omega) (by omega)]; omega
         rw [ew]
         refine ⟨⟨by omega, by omega, by omega⟩, ?_⟩
         conv => whnf
         rw [slice_eq]
         refine ⟨_, ⟨token_spec 2 ((s.drop q).take (numLen (s.drop q))) q (by simp only [List.length_take]; omega) (fun h => by cases h), rfl⟩, ?_⟩
         conv => whnf
         refine ⟨rfl, ?_⟩
         conv => whnf
         refine ⟨⟨(toksA_length l).symm, by simp; omega⟩, ?_⟩
         conv => whnf
         have htk : tokP (s.drop q) = some (numLen (s.drop q), 2, (s.drop q).take (numLen (s.drop q))) := by simp [tokP, hpos]
         rw [htk] at he
         simp only [app_cons] at he
         rw [show (bif decide ((2 : Int) = 4) then List.drop 1 (List.take ((List.take (numLen (s.drop q)) (s.drop q)).length - 1) (List.take (numLen (s.drop q)) (s.drop q))) else List.take (numLen (s.drop q)) (s.drop q)) = (s.drop q).take (numLen (s.drop q)) by simp]
         refine ⟨(q + numLen (s.drop q), l ++ [⟨2, (s.drop q).take (numLen (s.drop q)), q⟩]), ?_⟩
         conv => whnf
         repeat (refine And.intro ?_ ?_; (focus (first | rfl | (simp; done))); conv => whnf)
         refine ⟨ew, ?_⟩
         (conv => whnf)
         refine ⟨rfl, ?_⟩
         (conv => whnf)
         refine ⟨by simp [toksA], ?_⟩
         (conv => whnf)
         refine ⟨⟨by simp only; omega, by simp; omega, f, by simp only; omega, by simpa using he⟩, by simp only; omega⟩
        ·have hz : numLen (s.drop q) = 0 := by simp at hz; omega
         conv => whnf
         refine ⟨1, ?_⟩
         conv => whnf
         repeat (refine And.intro ?_ ?_; (focus (first | rfl | (simp; done))); conv => whnf)
         refine ⟨by rw [Wr64 _ (by decide) (by decide)]; rfl, ?_⟩
         (conv => whnf)
         refine ⟨rfl, ?_⟩
         (conv => whnf)
         refine ⟨rfl, ?_⟩
         (conv => whnf)
         exact ⟨⟨by omega, fun _ => hz, by omega, by omega, by omega⟩, by omega⟩
       ·refine ⟨by decide, _, rfl, ?_⟩
        conv => whnf
        refine ACode.draw [] tys_ok (by kernel_rfl) (by kernel_rfl) ?_
        conv => whnf
        refine ⟨⟨by omega, by omega, by omega⟩, ?_⟩
        conv => whnf
        rw [ed]
        refine ⟨_, ⟨nameLength_spec (s.drop q) ht2 ht1, rfl⟩, ?_⟩
        conv => whnf
        have hn : nameLen (s.drop q) ≤ (s.drop q).length := nameLen_le _
        simp only [List.length_drop] at hn
        refine ⟨fun hpos => ?_, fun hz => ?_⟩
        ·have hpos : 0 < nameLen (s.drop q) := by simpa using hpos
         conv => whnf
         refine ACode.drawI [] [12] tys_ok (by kernel_rfl) (by kernel_rfl) ?_
         conv => whnf
         have ew : Wr .i64 ((q : Int) + (nameLen (s.drop q) : Int)) = ((q + nameLen (s.drop q) : Nat) : Int) := by rw [Wr64 _ (by omega) (by omega)]; omega
         rw [ew]
         refine ⟨⟨by omega, by omega, by omega⟩, ?_⟩
         conv => whnf
         rw [slice_eq]
         refine ⟨_, ⟨token_spec 1 ((s.drop q).take (nameLen (s.drop q))) q (by simp only [List.length_take]; omega) (fun h => by cases h), rfl⟩, ?_⟩
         conv => whnf
         refine ⟨rfl, ?_⟩
         conv => whnf
         refine ⟨⟨(toksA_length l).symm, by simp; omega⟩, ?_⟩
         conv => whnf
         have htk : tokP (s.drop q) = some (nameLen (s.drop q), 1, (s.drop q).take (nameLen (s.drop q))) := by simp [tokP, hpos, j1 (by omega)]
         rw [htk] at he
         simp only [app_cons] at he
         rw [show (bif decide ((1 : Int) = 4) then List.drop 1 (List.take ((List.take (nameLen (s.drop q)) (s.drop q)).length - 1) (List.take (nameLen (s.drop q)) (s.drop q))) else List.take (nameLen (s.drop q)) (s.drop q)) = (s.drop q).take (nameLen (s.drop q)) by simp]
         refine ⟨(q + nameLen (s.drop q), l ++ [⟨1, (s.drop q).take (nameLen (s.drop q)), q⟩]), ?_⟩
         conv => whnf
         repeat (refine And.intro ?_ ?_; (focus (first | rfl | (simp; done))); conv => whnf)
         refine ⟨ew, ?_⟩
         (conv => whnf)
         refine ⟨rfl, ?_⟩
         (conv => whnf)
         refine ⟨by simp [toksA], ?_⟩
         (conv => whnf)
         refine ⟨⟨by simp only; omega, by simp; omega, f, by simp only; omega, by simpa using he⟩, by simp only; omega⟩
        ·have hz : nameLen (s.drop q) = 0 := by simp at hz; omega
         conv => whnf
         refine ⟨2, ?_⟩
         conv => whnf
         repeat (refine And.intro ?_ ?_; (focus (first | rfl | (simp; done))); conv => whnf)
         refine ⟨by rw [Wr64 _ (by decide) (by decide)]; rfl, ?_⟩
         (conv => whnf)
         refine ⟨rfl, ?_⟩
         (conv => whnf)
         refine ⟨rfl, ?_⟩
         (conv => whnf)
         exact ⟨⟨by omega, fun _ => j1 (by omega), fun _ => hz, by omega, by omega⟩, by omega⟩
       ·refine ⟨by decide, _, rfl, ?_⟩
        conv => whnf
        refine ACode.draw [] tys_ok (by kernel_rfl) (by kernel_rfl) ?_
        conv => whnf
        refine ⟨⟨by omega, by omega, by omega⟩, ?_⟩
        conv => whnf
        rw [ed]
        refine ⟨_, ⟨textLength_spec (s.drop q) ht2 ht1, rfl⟩, ?_⟩
        conv => whnf
        have hn : txtLen (s.drop q) ≤ (s.drop q).length := (txtLen_le _).1
        simp only [List.length_drop] at hn
        refine ⟨fun hpos => ?_, fun hz => ?_⟩
        ·have hpos : 0 < txtLen (s.drop q) := by simpa using hpos
         conv => whnf
         refine ACode.drawI [] [12] tys_ok (by kernel_rfl) (by kernel_rfl) ?_
         conv => whnf
         have ew : Wr .i64 ((q : Int) + (txtLen (s.drop q) : Int)) = ((q + txtLen (s.drop q) : Nat) : Int) := by rw [Wr64 _ (by omega) (by omega)]; omega
         rw [ew]
         refine ⟨⟨by omega, by omega, by omega⟩, ?_⟩
         conv => whnf
         rw [slice_eq]
         refine ⟨_, ⟨token_spec 4 ((s.drop q).take (txtLen (s.drop q))) q (by simp only [List.length_take]; omega) (fun _ => by have := (txtLen_le (s.drop q)).2 hpos; simp only [List.length_take, List.length_drop]; omega), rfl⟩, ?_⟩
         conv => whnf
         refine ⟨rfl, ?_⟩
         conv => whnf
         refine ⟨⟨(toksA_length l).symm, by simp; omega⟩, ?_⟩
         conv => whnf
         have hmin : min (min (txtLen (s.drop q)) (s.length - q) - 1) (txtLen (s.drop q)) = txtLen (s.drop q) - 1 := by omega
         have htk : tokP (s.drop q) = some (txtLen (s.drop q), 4, ((s.drop q).take (txtLen (s.drop q) - 1)).drop 1) := by simp [tokP, hpos, j1 (by omega), j2 (by omega)]
         rw [htk] at he
         simp only [app_cons] at he
         rw [show (bif decide ((4 : Int) = 4) then List.drop 1 (List.take ((List.take (txtLen (s.drop q)) (s.drop q)).length - 1) (List.take (txtLen (s.drop q)) (s.drop q))) else List.take (txtLen (s.drop q)) (s.drop q)) = ((s.drop q).take (txtLen (s.drop q) - 1)).drop 1 by simp [List.take_take, hmin]]
         refine ⟨(q + txtLen (s.drop q), l ++ [⟨4, ((s.drop q).take (txtLen (s.drop q) - 1)).drop 1, q⟩]), ?_⟩
         conv => whnf
         repeat (refine And.intro ?_ ?_; (focus (first | rfl | (simp; done))); conv => whnf)
         refine ⟨ew, ?_⟩
         (conv => whnf)
         refine ⟨rfl, ?_⟩
         (conv => whnf)
         refine ⟨by simp [toksA], ?_⟩
         (conv => whnf)
         refine ⟨⟨by simp only; omega, by simp; omega, f, by simp only; omega, by simpa using he⟩, by simp only; omega⟩
        ·have hz : txtLen (s.drop q) = 0 := by simp at hz; omega
         conv => whnf
         refine ⟨3, ?_⟩
         conv => whnf
         repeat (refine And.intro ?_ ?_; (focus (first | rfl | (simp; done))); conv => whnf)
         refine ⟨by rw [Wr64 _ (by decide) (by decide)]; rfl, ?_⟩
         (conv => whnf)
         refine ⟨rfl, ?_⟩
         (conv => whnf)
         refine ⟨rfl, ?_⟩
         (conv => whnf)
         exact ⟨⟨by omega, fun _ => j1 (by omega), fun _ => j2 (by omega), fun _ => hz, by omega⟩, by omega⟩
       ·refine ⟨by decide, _, rfl, ?_⟩
        conv => whnf
        refine ACode.draw [] tys_ok (by kernel_rfl) (by kernel_rfl) ?_
        conv => whnf
        refine ⟨⟨by omega, by omega, by omega⟩, ?_⟩
        conv => whnf
        rw [ed]
        refine ⟨_, ⟨symbolLength_spec (s.drop q) ht2, rfl⟩, ?_⟩
        conv => whnf
        have hn : symLen (s.drop q) ≤ (s.drop q).length := symLen_le _
        simp only [List.length_drop] at hn
        refine ⟨fun hpos => ?_, fun hz => ?_⟩
        ·have hpos : 0 < symLen (s.drop q) := by simpa using hpos
         conv => whnf
         refine ACode.drawI [] [12] tys_ok (by kernel_rfl) (by kernel_rfl) ?_
         conv => whnf
         have ew : Wr .i64 ((q : Int) + (symLen (s.drop q) : Int)) = ((q + symLen (s.drop q) : Nat) : Int) := by rw [Wr64 _ (by omega) (by omega)]; omega
         rw [ew]
         refine ⟨⟨by omega, by omega, by omega⟩, ?_⟩
         conv => whnf
         rw [slice_eq]
         refine ⟨_, ⟨token_spec 3 ((s.drop q).take (symLen (s.drop q))) q (by simp only [List.length_take]; omega) (fun h => by cases h), rfl⟩, ?_⟩
         conv => whnf
         refine ⟨rfl, ?_⟩
         conv => whnf
         refine ⟨⟨(toksA_length l).symm, by simp; omega⟩, ?_⟩
         conv => whnf
         have htk : tokP (s.drop q) = some (symLen (s.drop q), 3, (s.drop q).take (symLen (s.drop q))) := by simp [tokP, hpos, j1 (by omega), j2 (by omega), j3 (by omega)]
         rw [htk] at he
         simp only [app_cons] at he
         rw [show (bif decide ((3 : Int) = 4) then List.drop 1 (List.take ((List.take (symLen (s.drop q)) (s.drop q)).length - 1) (List.take (symLen (s.drop q)) (s.drop q))) else List.take (symLen (s.drop q)) (s.drop q)) = (s.drop q).take (symLen (s.drop q)) by simp]
         refine ⟨(q + symLen (s.drop q), l ++ [⟨3, (s.drop q).take (symLen (s.drop q)), q⟩]), ?_⟩
         conv => whnf
         repeat (refine And.intro ?_ ?_; (focus (first | rfl | (simp; done))); conv => whnf)
         refine ⟨ew, ?_⟩
         (conv => whnf)
         refine ⟨rfl, ?_⟩
         (conv => whnf)
         refine ⟨by simp [toksA], ?_⟩
         (conv => whnf)
         refine ⟨⟨by simp only; omega, by simp; omega, f, by simp only; omega, by simpa using he⟩, by simp only; omega⟩
        ·have hz : symLen (s.drop q) = 0 := by simp at hz; omega
         conv => whnf
         refine ⟨4, ?_⟩
         conv => whnf
         repeat (refine And.intro ?_ ?_; (focus (first | rfl | (simp; done))); conv => whnf)
         refine ⟨by rw [Wr64 _ (by decide) (by decide)]; rfl, ?_⟩
         (conv => whnf)
         refine ⟨rfl, ?_⟩
         (conv => whnf)
         refine ⟨rfl, ?_⟩
         (conv => whnf)
         exact ⟨⟨by omega, fun _ => j1 (by omega), fun _ => j2 (by omega), fun _ => j3 (by omega), fun _ => hz⟩, by omega⟩
      ·have h3 : j = 4 := by simp at h3; omega
       subst h3
       conv => whnf
       refine ⟨3, ?_⟩
       (conv => whnf)
       have ht : tokP (s.drop q) = none := by simp [tokP, j1 (by omega), j2 (by omega), j3 (by omega), j4 (by omega)]
       rw [ht] at he
       rw [he]
       rfl
end Go.Proofs.YtbedaolpfedacaaGreatDoor
namespace Go.Proofs.YtbedaolpfedacaaGreatDoor
open Go.Av Go.Av.Net
def calA (c : Cal) : AV := .agg [.int .i64 c.zone, .sl 1 (c.week.map .bool), .sl 1 (c.hols.map (.int .i64))]
def operA (s : Bs) : AV := .agg [.str s]
def offA (o : Off) : AV := .agg [.str o.name, .int .i64 o.oper, .int .i64 o.cal, .int .i64 o.pockets, .int .i64 o.passes, .int .i64 o.minutes, .sl 1 (strs o.codes)]
def linA (l : Lin) : AV := .agg [.str l.name, .int .i64 l.from_, .int .i64 l.to_, .int .i64 l.at_, .int .i64 l.travel, .int .i64 l.load]
def clsA (c : Cls) : AV := .agg [.str c.name, .int .i64 c.cut, .int .i64 c.deliver]
structure V6 where
 a : Value
 b : Value
 c : Value
 d : Value
 e : Value
 f : Value
def PQ (ts : List Tok) (len : Nat) (i : Nat) (a b c d e f : AV) : List HO := oneK 4 [.sl 3 (toksA ts), .int .i64 i, .int .i64 len, a, b, c, d, e, f]
def PQr (ts : List Tok) (len : Nat) (i : Nat) (v : V6) : List HO := PQ ts len i (.raw v.a) (.raw v.b) (.raw v.c) (.raw v.d) (.raw v.e) (.raw v.f)
def failA (ts : List Tok) (len : Nat) (e : Int) (i : Nat) : AV := .iface 85 (.agg [.int .i64 e, .int .i64 (offs ts len i)])
theorem toksA_get (l : List Tok) (k : Nat) (h : k < l.length) : (toksA l)[k]? = some (tokA l[k]) := by simp [toksA, h]
theorem closed_map {α : Type} (f : α → AV) (hf : ∀ x, closed (f x) = true) (l : List α) : ∀ e ∈ l.map f, closed e = true := by
 intro e he
 obtain ⟨x, _, rfl⟩ := List.mem_map.1 he
 exact hf x
set_option maxRecDepth 20000 in
theorem peek_spec (ts : List Tok) (len i : Nat) (v : V6) (hl : ts.length ≤ 3000) (hi : i ≤ ts.length) :
  HCtr Tryz.prog 99 [.ptr 4 0] (PQr ts len i v) (fun r H => ∃ h : i < ts.length, r = tokA ts[i] ∧ H = PQr ts len i v) (fun x H => ts.length ≤ i ∧ x = failA ts len 91 i ∧ H = PQr ts len i v) := by
 refine HCtr.of_body Tryz.func99 rfl tys_ok (by kernel_rfl) rfl ?_
 conv => whnf
 refine cd_sound tys_ok _ ?_
 conv => whnf
 refine ACode.draw [] tys_ok (by kernel_rfl) (by kernel_rfl) ?_
 conv => whnf
 refine ⟨fun h => ?_, fun h => ?_⟩
 ·have h : ts.length ≤ i := by simp at h; omega
  conv => whnf
  refine ⟨h, ?_, rfl⟩
  rw [failA, offs, List.getElem?_eq_none h]
 ·have h : i < ts.length := by simp at h; omega
  conv => whnf
  refine ACode.draw [10] tys_ok (by kernel_rfl) (by kernel_rfl) ?_
  conv => whnf
  refine ⟨by omega, tokA ts[i], toksA_get _ _ h, ?_⟩
  conv => whnf
  exact ⟨h, rfl, rfl⟩
theorem hand_PQ (ts : List Tok) (len i : Nat) (v : V6) (rest : List HO) : handK (PQr ts len i v) (PQr ts len i v) (PQr ts len i v ++ rest) True :=
 ⟨rfl, rfl, trivial⟩
set_option maxRecDepth 20000 in
theorem wrong_spec (ts : List Tok) (len i : Nat) (v : V6) (hl : ts.length ≤ 3000) (hi : i ≤ ts.length) :
  HCtr Tryz.prog 59 [.ptr 4 0] (PQr ts len i v) (fun _ _ => False) (fun x H => x = failA ts len (if i < ts.length then 90 else 91) i ∧ H = PQr ts len i v) := by
 refine HCtr.of_body Tryz.func59 rfl tys_ok (by kernel_rfl) rfl ?_
 conv => whnf
 refine cd_sound tys_ok _ ?_
 conv => whnf
 refine ACall.of_h (peek_spec ts len i v hl hi) rfl (hand_PQ ts len i v []) ?_ ?_
 ·rintro r H1 ⟨h, rfl, rfl⟩
  (conv => whnf)
  rw [if_pos h]
  refine ⟨?_, rfl⟩
  unfold failA offs
  rw [List.getElem?_eq_getElem h]
 ·rintro r H1 ⟨h, rfl, rfl⟩
  (conv => whnf)
  rw [if_neg (by omega)]
  exact ⟨rfl, rfl⟩
end Go.Proofs.YtbedaolpfedacaaGreatDoor
namespace Go.Proofs.YtbedaolpfedacaaGreatDoor
open Go.Av Go.Av.Net
theorem sees_lt (ts : List Tok) (k : Int) (x : Bs) (i : Nat) (h : i < ts.length) : seesP (kts ts) k x i = (decide (ts[i].kind = k) && decide (ts[i].text = x)) := by
 unfold seesP kts
 rw [List.getElem?_map, List.getElem?_eq_getElem h]
 rfl
theorem sees_ge (ts : List Tok) (k : Int) (x : Bs) (i : Nat) (h : ts.length ≤ i) : seesP (kts ts) k x i = false := by
 unfold seesP kts
 rw [List.getElem?_map, List.getElem?_eq_none h]
 rfl
theorem _root_.Go.Av.HCtr.lits {P : Go.Program} {f : Go.FuncId} {args : List AV} {H0 : List HO} {R' : Bool → List HO → Prop} {X : AV → List HO → Prop} (h : HCtr P f args H0 (fun r H => ∃ b, (r = .lit b ∨ r = .bool b) ∧ R' b H) X) :
  HCtr P f args H0 (fun r H => ∃ b, r = .bool b ∧ R' b H) X :=
 ⟨h.good, fun C mu w vs h1 h2 h3 => (h.out C mu w vs h1 h2 h3).mono fun e w' hp => by
  obtain ⟨r, v, H1, C', mu', ho, hp, hh, hr, rest⟩ := hp
  rcases ho with ⟨he, b, hb, hR⟩ | ⟨he, hX⟩
  ·refine ⟨.bool b, v, H1, C', mu', .inl ⟨he, b, rfl, hR⟩, hp, hh, ?_, rest⟩
   rcases hb with rfl | rfl <;> (unfold Rep at *; exact hr)
  ·exact ⟨r, v, H1, C', mu', .inr ⟨he, hX⟩, hp, hh, hr, rest⟩⟩
set_option maxRecDepth 20000 in
theorem has_spec (ts : List Tok) (len i : Nat) (v : V6) (x : Bs) (hl : ts.length ≤ 3000) (hi : i ≤ ts.length) :
  HCtr Tryz.prog 84 [.ptr 4 0, .str x] (PQr ts len i v) (fun r H => ∃ b, r = .bool b ∧ (b = seesP (kts ts) 1 x i ∧ H = PQr ts len i v)) (fun _ _ => False) := by
 refine HCtr.lits ?_
 refine HCtr.of_body Tryz.func84 rfl tys_ok (by kernel_rfl) rfl ?_
 conv => whnf
 repeat (first | (refine ACode.st tys_ok rfl ?_; conv => whnf))
 refine ACode.draw [] tys_ok (by kernel_rfl) (by kernel_rfl) ?_
 conv => whnf
 refine ⟨fun h => ?_, fun h => ?_⟩
 ·have h : i < ts.length := by simp at h; omega
  rw [sees_lt ts 1 x i h]
  conv => whnf
  repeat (first | (refine ACode.st tys_ok rfl ?_; conv => whnf))
  refine ⟨by omega, tokA ts[i], toksA_get _ _ h, ?_⟩
  conv => whnf
  refine ⟨fun hk => ?_, fun hk => ?_⟩
  ·rw [hk]
   conv => whnf
   repeat (first | (refine ACode.st tys_ok rfl ?_; conv => whnf))
   refine ⟨by omega, tokA ts[i], toksA_get _ _ h, ?_⟩
   conv => whnf
   refine ⟨fun ht => ?_, fun ht => ?_⟩
   ·conv => whnf
    repeat (first | (refine ACode.st tys_ok rfl ?_; conv => whnf))
    exact ⟨_, .inl rfl, by simpa using ht, rfl⟩
   ·conv => whnf
    repeat (first | (refine ACode.st tys_ok rfl ?_; conv => whnf))
    exact ⟨_, .inl rfl, by simpa using ht, rfl⟩
  ·rw [hk]
   conv => whnf
   repeat (first | (refine ACode.st tys_ok rfl ?_; conv => whnf))
   exact ⟨_, .inl rfl, rfl, rfl⟩
 ·have h : ts.length ≤ i := by simp at h; omega
  rw [sees_ge ts 1 x i h]
  conv => whnf
  repeat (first | (refine ACode.st tys_ok rfl ?_; conv => whnf))
  exact ⟨_, .inl rfl, rfl, rfl⟩
set_option maxRecDepth 20000 in
theorem hasSymbol_spec (ts : List Tok) (len i : Nat) (v : V6) (x : Bs) (hl : ts.length ≤ 3000) (hi : i ≤ ts.length) :
  HCtr Tryz.prog 96 [.ptr 4 0, .str x] (PQr ts len i v) (fun r H => ∃ b, r = .bool b ∧ (b = seesP (kts ts) 3 x i ∧ H = PQr ts len i v)) (fun _ _ => False) := by
 refine HCtr.lits ?_
 refine HCtr.of_body Tryz.func96 rfl tys_ok (by kernel_rfl) rfl ?_
 conv => whnf
 repeat (first | (refine ACode.st tys_ok rfl ?_; conv => whnf))
 refine ACode.draw [] tys_ok (by kernel_rfl) (by kernel_rfl) ?_
 conv => whnf
 refine ⟨fun h => ?_, fun h => ?_⟩
 ·have h : i < ts.length := by simp at h; omega
  rw [sees_lt ts 3 x i h]
  conv => whnf
  repeat (first | (refine ACode.st tys_ok rfl ?_; conv => whnf))
  refine ⟨by omega, tokA ts[i], toksA_get _ _ h, ?_⟩
  conv => whnf
  refine ⟨fun hk => ?_, fun hk => ?_⟩
  ·rw [hk]
   conv => whnf
   repeat (first | (refine ACode.st tys_ok rfl ?_; conv => whnf))
   refine ⟨by omega, tokA ts[i], toksA_get _ _ h, ?_⟩
   conv => whnf
   refine ⟨fun ht => ?_, fun ht => ?_⟩
   ·conv => whnf
    repeat (first | (refine ACode.st tys_ok rfl ?_; conv => whnf))
    exact ⟨_, .inl rfl, by simpa using ht, rfl⟩
   ·conv => whnf
    repeat (first | (refine ACode.st tys_ok rfl ?_; conv => whnf))
    exact ⟨_, .inl rfl, by simpa using ht, rfl⟩
  ·rw [hk]
   conv => whnf
   repeat (first | (refine ACode.st tys_ok rfl ?_; conv => whnf))
   exact ⟨_, .inl rfl, rfl, rfl⟩
 ·have h : ts.length ≤ i := by simp at h; omega
  rw [sees_ge ts 3 x i h]
  conv => whnf
  repeat (first | (refine ACode.st tys_ok rfl ?_; conv => whnf))
  exact ⟨_, .inl rfl, rfl, rfl⟩
set_option maxRecDepth 20000 in
theorem expect_spec (ts : List Tok) (len i : Nat) (v : V6) (k : Int) (x : Bs) (hl : ts.length ≤ 3000) (hi : i ≤ ts.length) :
  HCtr Tryz.prog 109 [.ptr 4 0, .agg [.int .i64 k, .str x, .int .i64 0]] (PQr ts len i v) (fun r H => r = .tuple [] ∧ seesP (kts ts) k x i = true ∧ H = PQr ts len (i + 1) v) (fun y H => seesP (kts ts) k x i = false ∧ y = failA ts len (if i < ts.length then 90 else 91) i ∧ H = PQr ts len i v) := by
 refine HCtr.of_body Tryz.func109 rfl tys_ok (by kernel_rfl) rfl ?_
 conv => whnf
 repeat (first | (refine ACode.st tys_ok rfl ?_; conv => whnf))
 refine ACall.of_h (peek_spec ts len i v hl hi) rfl (hand_PQ ts len i v [_]) ?_ ?_
 ·rintro r H1 ⟨h, rfl, rfl⟩
  conv => whnf
  repeat (first | (refine ACode.st tys_ok rfl ?_; conv => whnf))
  rw [sees_lt ts k x i h]
  refine ⟨fun hk => ?_, fun hk => ?_⟩
  ·have hk : ts[i].kind = k := by simpa using hk
   conv => whnf
   repeat (first | (refine ACode.st tys_ok rfl ?_; conv => whnf))
   refine ⟨fun ht => ?_, fun ht => ?_⟩
   ·have ht : ¬ ts[i].text = x := by simpa using ht
    conv => whnf
    repeat (first | (refine ACode.st tys_ok rfl ?_; conv => whnf))
    refine ACall.of_h (wrong_spec ts len i v hl hi) rfl (hand_PQ ts len i v [_, _]) (fun r H1 h => h.elim) ?_
    rintro r H1 ⟨rfl, rfl⟩
    conv => whnf
    repeat (first | (refine ACode.st tys_ok rfl ?_; conv => whnf))
    exact ⟨by simp [ht], rfl, rfl⟩
   ·have ht : ts[i].text = x := by simpa using ht
    conv => whnf
    repeat (first | (refine ACode.st tys_ok rfl ?_; conv => whnf))
    refine ⟨rfl, by simp [hk, ht], ?_⟩
    rw [Wr64 _ (by omega) (by omega)]
    rfl
  ·have hk : ¬ ts[i].kind = k := by simpa using hk
   conv => whnf
   repeat (first | (refine ACode.st tys_ok rfl ?_; conv => whnf))
   refine ACall.of_h (wrong_spec ts len i v hl hi) rfl (hand_PQ ts len i v [_, _]) (fun r H1 h => h.elim) ?_
   rintro r H1 ⟨rfl, rfl⟩
   conv => whnf
   repeat (first | (refine ACode.st tys_ok rfl ?_; conv => whnf))
   exact ⟨by simp [hk], rfl, rfl⟩
 ·rintro r H1 ⟨h, rfl, rfl⟩
  conv => whnf
  repeat (first | (refine ACode.st tys_ok rfl ?_; conv => whnf))
  rw [if_neg (by omega)]
  exact ⟨sees_ge _ _ _ _ h, rfl, rfl⟩
end Go.Proofs.YtbedaolpfedacaaGreatDoor
namespace Go.Proofs.YtbedaolpfedacaaGreatDoor
open Go.Av Go.Av.Net
set_option maxRecDepth 20000 in
theorem word_spec (ts : List Tok) (len i : Nat) (v : V6) (x : Bs) (hl : ts.length ≤ 3000) (hi : i ≤ ts.length) :
  HCtr Tryz.prog 85 [.ptr 4 0, .str x] (PQr ts len i v) (fun r H => r = .tuple [] ∧ seesP (kts ts) 1 x i = true ∧ H = PQr ts len (i + 1) v) (fun y H => seesP (kts ts) 1 x i = false ∧ y = failA ts len (if i < ts.length then 90 else 91) i ∧ H = PQr ts len i v) := by
 refine HCtr.of_body Tryz.func85 rfl tys_ok (by kernel_rfl) rfl ?_
 conv => whnf
 repeat (first | (refine ACode.st tys_ok rfl ?_; conv => whnf))
 refine ACall.of_h (expect_spec ts len i v 1 x hl hi) rfl (hand_PQ ts len i v []) ?_ ?_
 ·rintro r H1 ⟨rfl, h, rfl⟩
  conv => whnf
  repeat (first | (refine ACode.st tys_ok rfl ?_; conv => whnf))
  exact ⟨rfl, h, rfl⟩
 ·rintro r H1 ⟨h, rfl, rfl⟩
  conv => whnf
  repeat (first | (refine ACode.st tys_ok rfl ?_; conv => whnf))
  exact ⟨h, rfl, rfl⟩
set_option maxRecDepth 20000 in
theorem symbol_spec (ts : List Tok) (len i : Nat) (v : V6) (x : Bs) (hl : ts.length ≤ 3000) (hi : i ≤ ts.length) :
  HCtr Tryz.prog 87 [.ptr 4 0, .str x] (PQr ts len i v) (fun r H => r = .tuple [] ∧ seesP (kts ts) 3 x i = true ∧ H = PQr ts len (i + 1) v) (fun y H => seesP (kts ts) 3 x i = false ∧ y = failA ts len (if i < ts.length then 90 else 91) i ∧ H = PQr ts len i v) := by
 refine HCtr.of_body Tryz.func87 rfl tys_ok (by kernel_rfl) rfl ?_
 conv => whnf
 repeat (first | (refine ACode.st tys_ok rfl ?_; conv => whnf))
 refine ACall.of_h (expect_spec ts len i v 3 x hl hi) rfl (hand_PQ ts len i v []) ?_ ?_
 ·rintro r H1 ⟨rfl, h, rfl⟩
  conv => whnf
  repeat (first | (refine ACode.st tys_ok rfl ?_; conv => whnf))
  exact ⟨rfl, h, rfl⟩
 ·rintro r H1 ⟨h, rfl, rfl⟩
  conv => whnf
  repeat (first | (refine ACode.st tys_ok rfl ?_; conv => whnf))
  exact ⟨h, rfl, rfl⟩
end Go.Proofs.YtbedaolpfedacaaGreatDoor
namespace Go.Proofs.YtbedaolpfedacaaGreatDoor
open Go.Av Go.Av.Net
theorem kts_lt (ts : List Tok) (i : Nat) (h : i < ts.length) : (kts ts)[i]? = some (ts[i].kind, ts[i].text) := by
 unfold kts; rw [List.getElem?_map, List.getElem?_eq_getElem h]; rfl
theorem kts_ge (ts : List Tok) (i : Nat) (h : ts.length ≤ i) : (kts ts)[i]? = none := by
 unfold kts; rw [List.getElem?_map, List.getElem?_eq_none h]; rfl
set_option maxRecDepth 20000 in
theorem name_spec (ts : List Tok) (len i : Nat) (v : V6) (hl : ts.length ≤ 3000) (hi : i ≤ ts.length) (ht : ∀ t ∈ ts, t.text.length ≤ 8000) :
  HCtr Tryz.prog 86 [.ptr 4 0] (PQr ts len i v) (fun r H => ∃ x, nameP (kts ts) i = .ok x (i + 1) ∧ r = .str x ∧ H = PQr ts len (i + 1) v) (fun y H => ∃ e, nameP (kts ts) i = .fail e i ∧ y = failA ts len e i ∧ H = PQr ts len i v) := by
 refine HCtr.of_body Tryz.func86 rfl tys_ok (by kernel_rfl) rfl ?_
 conv => whnf
 repeat (first | (refine ACode.st tys_ok rfl ?_; conv => whnf))
 refine ACall.of_h (peek_spec ts len i v hl hi) rfl (hand_PQ ts len i v []) ?_ ?_
 ·rintro r H1 ⟨h, rfl, rfl⟩
  have hn : nameP (kts ts) i = bif decide (ts[i].kind = 1) && isNameB ts[i].text then .ok ts[i].text (i + 1) else .fail 90 i := by unfold nameP; rw [kts_lt ts i h]
  rw [hn]
  conv => whnf
  repeat (first | (refine ACode.st tys_ok rfl ?_; conv => whnf))
  refine ⟨fun hk => ?_, fun hk => ?_⟩
  ·have hk : ts[i].kind = 1 := by simpa using hk
   conv => whnf
   repeat (first | (refine ACode.st tys_ok rfl ?_; conv => whnf))
   refine ACall.of_spec (isName_spec ts[i].text (ht _ (List.getElem_mem h))) rfl fun r hr => ?_
   subst hr
   conv => whnf
   repeat (first | (refine ACode.st tys_ok rfl ?_; conv => whnf))
   refine ⟨fun hb => ?_, fun hb => ?_⟩
   ·have hb : isNameB ts[i].text = false := by simpa using hb
    conv => whnf
    repeat (first | (refine ACode.st tys_ok rfl ?_; conv => whnf))
    refine ACall.of_h (wrong_spec ts len i v hl hi) rfl (hand_PQ ts len i v [_]) (fun r H1 h => h.elim) ?_
    rintro r H1 ⟨rfl, rfl⟩
    conv => whnf
    repeat (first | (refine ACode.st tys_ok rfl ?_; conv => whnf))
    rw [if_pos h]
    exact ⟨90, by simp [hb], rfl, rfl⟩
   ·have hb : isNameB ts[i].text = true := by simpa using hb
    conv => whnf
    repeat (first | (refine ACode.st tys_ok rfl ?_; conv => whnf))
    refine ⟨ts[i].text, by simp [hk, hb], rfl, ?_⟩
    rw [Wr64 _ (by omega) (by omega)]
    rfl
  ·have hk : ¬ ts[i].kind = 1 := by simpa using hk
   conv => whnf
   repeat (first | (refine ACode.st tys_ok rfl ?_; conv => whnf))
   refine ACall.of_h (wrong_spec ts len i v hl hi) rfl (hand_PQ ts len i v [_]) (fun r H1 h => h.elim) ?_
   rintro r H1 ⟨rfl, rfl⟩
   conv => whnf
   repeat (first | (refine ACode.st tys_ok rfl ?_; conv => whnf))
   rw [if_pos h]
   exact ⟨90, by simp [hk], rfl, rfl⟩
 ·rintro r H1 ⟨h, rfl, rfl⟩
  conv => whnf
  repeat (first | (refine ACode.st tys_ok rfl ?_; conv => whnf))
  exact ⟨91, by unfold nameP; rw [kts_ge ts i h], rfl, rfl⟩
set_option maxRecDepth 20000 in
theorem code_spec (ts : List Tok) (len i : Nat) (v : V6) (hl : ts.length ≤ 3000) (hi : i ≤ ts.length) (ht : ∀ t ∈ ts, t.text.length ≤ 8000) :
  HCtr Tryz.prog 95 [.ptr 4 0] (PQr ts len i v) (fun r H => ∃ x, codeP (kts ts) i = .ok x (i + 1) ∧ r = .str x ∧ H = PQr ts len (i + 1) v) (fun y H => ∃ e, codeP (kts ts) i = .fail e i ∧ y = failA ts len e i ∧ H = PQr ts len i v) := by
 refine HCtr.of_body Tryz.func95 rfl tys_ok (by kernel_rfl) rfl ?_
 conv => whnf
 repeat (first | (refine ACode.st tys_ok rfl ?_; conv => whnf))
 refine ACall.of_h (peek_spec ts len i v hl hi) rfl (hand_PQ ts len i v []) ?_ ?_
 ·rintro r H1 ⟨h, rfl, rfl⟩
  have hn : codeP (kts ts) i = bif (decide (ts[i].kind = 1) || decide (ts[i].kind = 2)) && isCodeB ts[i].text then .ok ts[i].text (i + 1) else .fail 90 i := by unfold codeP; rw [kts_lt ts i h]
  rw [hn]
  conv => whnf
  repeat (first | (refine ACode.st tys_ok rfl ?_; conv => whnf))
  repeat' (first | (refine And.intro (fun _ => ?_) (fun _ => ?_) <;> conv => whnf) | (refine ACall.of_spec (isCode_spec ts[i].text (ht _ (List.getElem_mem h))) rfl fun r hr => ?_; subst hr; conv => whnf) | (refine ACode.st tys_ok rfl ?_; conv => whnf))
  all_goals first
   | (refine ACall.of_h (wrong_spec ts len i v hl hi) rfl (hand_PQ ts len i v [_]) (fun r H1 h => h.elim) ?_
      rintro r H1 ⟨rfl, rfl⟩
      conv => whnf
      repeat (first | (refine ACode.st tys_ok rfl ?_; conv => whnf))
      rw [if_pos h]
      exact ⟨90, by simp_all, rfl, rfl⟩)
   | (refine ⟨ts[i].text, by simp_all, rfl, ?_⟩
      rw [Wr64 _ (by omega) (by omega)]
      rfl)
 ·rintro r H1 ⟨h, rfl, rfl⟩
  conv => whnf
  repeat (first | (refine ACode.st tys_ok rfl ?_; conv => whnf))
  exact ⟨91, by unfold codeP; rw [kts_ge ts i h], rfl, rfl⟩
end Go.Proofs.YtbedaolpfedacaaGreatDoor
set_option linter.unusedSectionVars false
namespace Go.Proofs.YtbedaolpfedacaaGreatDoor
open Go.Av Go.Av.Net
section
variable {α β : Type} {ts : List Tok} {len i : Nat} {v : V6}
def MCtr (f : Nat) (args : List AV) (ts : List Tok) (len i : Nat) (q : PR β) (enc : β → AV) : Prop :=
 ∀ v : V6, HCtr Tryz.prog f args (PQr ts len i v) (fun r H => ∃ a j, q = .ok a j ∧ j ≤ ts.length ∧ r = enc a ∧ H = PQr ts len j v) (fun x H => ∃ e k j, q = .fail e k ∧ k ≤ ts.length ∧ x = failA ts len e k ∧ H = PQr ts len j v)
variable {E : List AV} {H : List HO} {g : Nat} {args : List AV} {q : PR β} {p : PR α} {f : β → Nat → PR α} {enc : β → AV} {K : AV → KK} {X : XX} {A B C D E' F : AV}
theorem of_mq {R : β → Nat → Prop} {R2 : Int → Nat → Nat → Prop} (h : MCtr g args ts len i q enc) (hw : ∀ c, withins (oneK 4 c) args = true)
  (hl : H[4]? = some (.cells [.sl 3 (toksA ts), .int .i64 i, .int .i64 len, A, B, C, D, E', F]))
  (hX : ∀ (j : Nat) e k, q = .fail e k → k ≤ ts.length → updK H 4 (.cells [.sl 3 (toksA ts), .int .i64 j, .int .i64 len, A, B, C, D, E', F]) fun H' => X (.panic (failA ts len e k)) E H')
  (hk : ∀ a (j : Nat), q = .ok a j → j ≤ ts.length → updK H 4 (.cells [.sl 3 (toksA ts), .int .i64 j, .int .i64 len, A, B, C, D, E', F]) fun H' => K (enc a) E H') : ACall Tryz.prog g args E H K X := by
 have h9 : ∀ vs : List Value, vs.length = 9 → ∃ x y z, ∃ v : V6, vs = [x, y, z, v.a, v.b, v.c, v.d, v.e, v.f] := by
  intro vs hvs
  match vs, hvs with
  | [x, y, z, a, b, c, d, e, f], _ => exact ⟨x, y, z, ⟨a, b, c, d, e, f⟩, rfl⟩
 refine ACall.of_hr (l := 4) [false, false, false, true, true, true, true, true, true] (R := fun vs r H1 => ∃ a j, q = .ok a j ∧ j ≤ ts.length ∧ r = enc a ∧ ∃ x y z, ∃ v : V6, vs = [x, y, z, v.a, v.b, v.c, v.d, v.e, v.f] ∧ H1 = PQr ts len j v)
  (X' := fun vs r H1 => ∃ e k j, q = .fail e k ∧ k ≤ ts.length ∧ r = failA ts len e k ∧ ∃ x y z, ∃ v : V6, vs = [x, y, z, v.a, v.b, v.c, v.d, v.e, v.f] ∧ H1 = PQr ts len j v) hl rfl ?_ hw ?_ ?_ ?_
 ·intro vs hvs
  obtain ⟨x, y, z, v, rfl⟩ := h9 vs hvs
  exact ⟨(h v).good, fun C mu w us h1 h2 h3 => ((h v).out C mu w us h1 h2 h3).mono fun e w' ⟨r, u, H1, C', mu', ho, rest⟩ =>
   ⟨r, u, H1, C', mu', ho.imp (fun ⟨q1, a, j, q2, q3, q4, q5⟩ => ⟨q1, a, j, q2, q3, q4, x, y, z, v, rfl, q5⟩) (fun ⟨q1, e, k, j, q2, q3, q4, q5⟩ => ⟨q1, e, k, j, q2, q3, q4, x, y, z, v, rfl, q5⟩), rest⟩⟩
 ·intro vs hvs
  obtain ⟨x, y, z, v, rfl⟩ := h9 vs hvs
  rfl
 ·rintro vs r H1 hvs ⟨a, j, q1, q2, rfl, x, y, z, v, rfl, rfl⟩
  exact ⟨[.sl 3 (toksA ts), .int .i64 j, .int .i64 len, A, B, C, D, E', F], rfl, rfl, hk a j q1 q2⟩
 ·rintro vs r H1 hvs ⟨e, k, j, q1, q2, rfl, x, y, z, v, rfl, rfl⟩
  exact ⟨[.sl 3 (toksA ts), .int .i64 j, .int .i64 len, A, B, C, D, E', F], rfl, rfl, hX j e k q1 q2⟩
theorem _root_.Go.Av.ACall.of_m (h : MCtr g args ts len i q enc) (hp : p = q.bind f) (hw : ∀ c, withins (oneK 4 c) args = true)
  (hl : H[4]? = some (.cells [.sl 3 (toksA ts), .int .i64 i, .int .i64 len, A, B, C, D, E', F]))
  (hX : ∀ (j : Nat) e k, p = .fail e k → k ≤ ts.length → updK H 4 (.cells [.sl 3 (toksA ts), .int .i64 j, .int .i64 len, A, B, C, D, E', F]) fun H' => X (.panic (failA ts len e k)) E H')
  (hk : ∀ a (j : Nat), q = .ok a j → p = f a j → j ≤ ts.length → updK H 4 (.cells [.sl 3 (toksA ts), .int .i64 j, .int .i64 len, A, B, C, D, E', F]) fun H' => K (enc a) E H') : ACall Tryz.prog g args E H K X :=
 of_mq (R := fun _ _ => True) (R2 := fun _ _ _ => True) h hw hl (fun j e k h1 h2 => hX j e k (by rw [hp, h1]; rfl) h2) (fun a j h1 h2 => hk a j h1 (by rw [hp, h1]; rfl) h2)
theorem _root_.Go.Av.ACall.of_m0 {b : β} (h : MCtr g args ts len i (.ok b i) enc) (hw : ∀ c, withins (oneK 4 c) args = true)
  (hl : H[4]? = some (.cells [.sl 3 (toksA ts), .int .i64 i, .int .i64 len, A, B, C, D, E', F]))
  (hk : updK H 4 (.cells [.sl 3 (toksA ts), .int .i64 i, .int .i64 len, A, B, C, D, E', F]) fun H' => K (enc b) E H') : ACall Tryz.prog g args E H K X :=
 of_mq (R := fun _ _ => True) (R2 := fun _ _ _ => True) h hw hl (fun j e k h1 h2 => by cases h1) (fun a j h1 h2 => by cases h1; exact hk)
end
theorem _root_.Go.Av.HCtr.mono' {P : Go.Program} {f : Nat} {args : List AV} {H0 : List HO} {R R' X X' : AV → List HO → Prop} (h : HCtr P f args H0 R X) (hR : ∀ r H, R r H → R' r H) (hX : ∀ r H, X r H → X' r H) : HCtr P f args H0 R' X' :=
 ⟨h.good, fun C mu w vs h1 h2 h3 => (h.out C mu w vs h1 h2 h3).mono fun e w' ⟨r, v, H1, C', mu', ho, rest⟩ =>
  ⟨r, v, H1, C', mu', ho.imp (fun h => ⟨h.1, hR _ _ h.2⟩) (fun h => ⟨h.1, hX _ _ h.2⟩), rest⟩⟩
theorem expectP_of (ts : List Tok) (k : Int) (x : Bs) (i : Nat) : expectP (kts ts) k x i = if seesP (kts ts) k x i = true then .ok () (i + 1) else .fail (if i < ts.length then 90 else 91) i := by
 unfold expectP wrongP
 cases seesP (kts ts) k x i with
 | true => rfl
 | false =>
  simp only [cond_false, Bool.false_eq_true, if_false]
  by_cases h : i < ts.length
  ·rw [kts_lt ts i h, if_pos h]
  ·rw [kts_ge ts i (by omega), if_neg h]
theorem sees_le {ts : List Tok} {k : Int} {x : Bs} {i : Nat} (h : seesP (kts ts) k x i = true) : i < ts.length := by
 rcases Nat.lt_or_ge i ts.length with h' | h'
 ·exact h'
 ·rw [sees_ge ts k x i h'] at h; cases h
section
variable (ts : List Tok) (len i : Nat) (x : Bs) (hl : ts.length ≤ 3000) (hi : i ≤ ts.length)
include hl hi
theorem word_m : MCtr 85 [.ptr 4 0, .str x] ts len i (expectP (kts ts) 1 x i) (fun _ => .tuple []) := by
 refine fun v => (word_spec ts len i v x hl hi).mono' (fun r H ⟨h0, h, h'⟩ => ?_) (fun r H ⟨h, h', h2⟩ => ?_)
 ·exact ⟨(), i + 1, by rw [expectP_of, if_pos h], sees_le h, h0, h'⟩
 ·exact ⟨_, i, i, by rw [expectP_of, if_neg (by simp [h])], hi, h', h2⟩
theorem symbol_m : MCtr 87 [.ptr 4 0, .str x] ts len i (expectP (kts ts) 3 x i) (fun _ => .tuple []) := by
 refine fun v => (symbol_spec ts len i v x hl hi).mono' (fun r H ⟨h0, h, h'⟩ => ?_) (fun r H ⟨h, h', h2⟩ => ?_)
 ·exact ⟨(), i + 1, by rw [expectP_of, if_pos h], sees_le h, h0, h'⟩
 ·exact ⟨_, i, i, by rw [expectP_of, if_neg (by simp [h])], hi, h', h2⟩
theorem has_m : MCtr 84 [.ptr 4 0, .str x] ts len i (.ok (seesP (kts ts) 1 x i) i) .bool :=
 fun v => (has_spec ts len i v x hl hi).mono' (fun r H ⟨b, h, h', h2⟩ => ⟨_, i, rfl, hi, by rw [h, h'], h2⟩) (fun r H h => h.elim)
theorem hasSymbol_m : MCtr 96 [.ptr 4 0, .str x] ts len i (.ok (seesP (kts ts) 3 x i) i) .bool :=
 fun v => (hasSymbol_spec ts len i v x hl hi).mono' (fun r H ⟨b, h, h', h2⟩ => ⟨_, i, rfl, hi, by rw [h, h'], h2⟩) (fun r H h => h.elim)
theorem wrong_m : MCtr 59 [.ptr 4 0] ts len i (.fail (if i < ts.length then 90 else 91) i : PR Unit) (fun _ => .tuple []) :=
 fun v => (wrong_spec ts len i v hl hi).mono' (fun r H h => h.elim) (fun r H ⟨h, h'⟩ => ⟨_, i, i, rfl, hi, h, h'⟩)
end
def peekP (ts : List Tok) (i : Nat) : PR Tok := match ts[i]? with | some t => .ok t i | none => .fail 91 i
theorem peek_m (ts : List Tok) (len i : Nat) (hl : ts.length ≤ 3000) (hi : i ≤ ts.length) : MCtr 99 [.ptr 4 0] ts len i (peekP ts i) tokA := by
 refine fun v => (peek_spec ts len i v hl hi).mono' (fun r H ⟨h, h0, h'⟩ => ?_) (fun r H ⟨h, h', h2⟩ => ?_)
 ·exact ⟨ts[i], i, by unfold peekP; rw [List.getElem?_eq_getElem h], hi, h0, h'⟩
 ·exact ⟨_, i, i, by unfold peekP; rw [List.getElem?_eq_none h], hi, h', h2⟩
theorem _root_.Go.Av.ACall.of_wrong {α : Type} (ts : List Tok) (len i : Nat) (hl : ts.length ≤ 3000) (hi : i ≤ ts.length) {p : PR α} (hp : p = .fail (if i < ts.length then 90 else 91) i) {E : List AV} {H : List HO} {K : AV → KK} {X : XX} {A B C D E' F : AV}
  (h4 : H[4]? = some (.cells [.sl 3 (toksA ts), .int .i64 i, .int .i64 len, A, B, C, D, E', F]))
  (hX : ∀ (j : Nat) e k, p = .fail e k → k ≤ ts.length → updK H 4 (.cells [.sl 3 (toksA ts), .int .i64 j, .int .i64 len, A, B, C, D, E', F]) fun H' => X (.panic (failA ts len e k)) E H') : ACall Tryz.prog 59 [.ptr 4 0] E H K X :=
 of_mq (R := fun _ _ => True) (R2 := fun _ _ _ => True) (wrong_m ts len i hl hi) (fun _ => rfl) h4 (fun j e k h1 h2 => by cases h1; exact hX j _ _ hp h2) (fun a j h1 h2 => by cases h1)
def TokOK (t : Tok) : Prop := t.text.length ≤ 8000 ∧ (t.kind = 2 → 1 ≤ t.text.length ∧ t.text.length ≤ 8 ∧ ∀ b ∈ t.text, digB b = true)
structure TsOK (ts : List Tok) : Prop where
 len : ts.length ≤ 3000
 tok : ∀ t ∈ ts, TokOK t
theorem nameP_lt {ts : List Tok} {i : Nat} {x : Bs} {j : Nat} (h : nameP (kts ts) i = .ok x j) : i < ts.length := by
 rcases Nat.lt_or_ge i ts.length with h' | h'
 ·exact h'
 ·unfold nameP at h; rw [kts_ge ts i h'] at h; cases h
theorem codeP_lt {ts : List Tok} {i : Nat} {x : Bs} {j : Nat} (h : codeP (kts ts) i = .ok x j) : i < ts.length := by
 rcases Nat.lt_or_ge i ts.length with h' | h'
 ·exact h'
 ·unfold codeP at h; rw [kts_ge ts i h'] at h; cases h
section
variable (ts : List Tok) (len i : Nat) (ht : TsOK ts) (hi : i ≤ ts.length)
include ht hi
theorem name_m : MCtr 86 [.ptr 4 0] ts len i (nameP (kts ts) i) .str :=
 fun v => (name_spec ts len i v ht.len hi (fun t h => (ht.tok t h).1)).mono' (fun r H ⟨x, h, h', h2⟩ => ⟨x, i + 1, h, nameP_lt h, h', h2⟩) (fun r H ⟨e, h, h', h2⟩ => ⟨e, i, i, h, hi, h', h2⟩)
theorem code_m : MCtr 95 [.ptr 4 0] ts len i (codeP (kts ts) i) .str :=
 fun v => (code_spec ts len i v ht.len hi (fun t h => (ht.tok t h).1)).mono' (fun r H ⟨x, h, h', h2⟩ => ⟨x, i + 1, h, codeP_lt h, h', h2⟩) (fun r H ⟨e, h, h', h2⟩ => ⟨e, i, i, h, hi, h', h2⟩)
end
end Go.Proofs.YtbedaolpfedacaaGreatDoor
namespace Go.Proofs.YtbedaolpfedacaaGreatDoor
open Go.Av Go.Av.Net
open Go.RowKit (Below)
theorem digitVal_of {b : UInt8} (h : digB b = true) : Lib.digitVal b = some (b.toNat - 48) ∧ 48 ≤ b.toNat ∧ b.toNat ≤ 57 := by
 unfold digB at h
 simp only [Bool.and_eq_true, decide_eq_true_eq] at h
 unfold Lib.digitVal
 rw [if_pos h]
 exact ⟨rfl, h⟩
theorem decFrom_eq : ∀ (l : Bs) (acc k : Nat), (∀ b ∈ l, digB b = true) → acc < 10 ^ k → ∃ m : Nat, Lib.decFrom acc l = some m ∧ (m : Int) = l.foldl (fun n b => 10 * n + ((b.toNat : Int) - 48)) (acc : Int) ∧ m < 10 ^ (k + l.length)
 | [], acc, k, _, h => ⟨acc, rfl, rfl, by simpa using h⟩
 | b :: l, acc, k, hd, h => by
  obtain ⟨h1, h2, h3⟩ := digitVal_of (hd b (by simp))
  obtain ⟨m, k1, k2, k3⟩ := decFrom_eq l (acc * 10 + (b.toNat - 48)) (k + 1) (fun x hx => hd x (by simp [hx])) (by rw [Nat.pow_succ]; omega)
  refine ⟨m, by rw [Lib.decFrom, h1]; exact k1, ?_, by rw [List.length_cons, show k + (l.length + 1) = k + 1 + l.length by omega]; exact k3⟩
  rw [k2, List.foldl_cons]
  congr 1
  omega
theorem atoi_eq (s : Bs) (h1 : 1 ≤ s.length) (hd : ∀ b ∈ s, digB b = true) : Lib.atoi s = some (decV s) := by
 obtain ⟨m, k1, k2, k3⟩ := decFrom_eq s 0 0 hd (by simp)
 cases s with
 | nil => simp at h1
 | cons b r =>
  obtain ⟨_, h2, h3⟩ := digitVal_of (hd b (by simp))
  have e1 : (b == 45) = false := by rw [beq_eq_false_iff_ne]; rintro rfl; simp at h2
  have e2 : (b == 43) = false := by rw [beq_eq_false_iff_ne]; rintro rfl; simp at h2
  show (if (b == 45) = true then _ else if (b == 43) = true then _ else (Lib.decNat (b :: r)).map fun (m : Nat) => (m : Int)) = _
  rw [e1, e2]
  simp only [Bool.false_eq_true, if_false, Lib.decNat, List.isEmpty_cons, k1, Option.map_some]
  rw [k2]
  rfl
theorem decV_range (s : Bs) (h8 : s.length ≤ 8) (hd : ∀ b ∈ s, digB b = true) : 0 ≤ decV s ∧ decV s < 100000000 := by
 obtain ⟨m, k1, k2, k3⟩ := decFrom_eq s 0 0 hd (by simp)
 have : (10 : Nat) ^ (0 + s.length) ≤ 10 ^ 8 := Nat.pow_le_pow_right (by omega) (by omega)
 have e : decV s = (m : Int) := by rw [k2]; rfl
 rw [e]
 omega
open Go.RowKit in
theorem bytesWorld_below (w : World) (e : TypeId) (s : ByteArray) : Below w.heap.size w (Lib.bytesWorld w e s) :=
 ⟨rfl, rfl, rfl, by rw [Lib.bytesWorld_size]; omega, fun k hk => Lib.bytesWorld_at_old w e s k (by omega)⟩
theorem atoi_spec (s : Bs) (h1 : 1 ≤ s.length) (h8 : s.length ≤ 8) (hd : ∀ b ∈ s, digB b = true) : Ctr Tryz.prog 114 [.str s] (fun r => r = .tuple [.int .i64 (decV s), .raw .nilIface]) := by
 refine ⟨by kernel_rfl, fun C w vs hlt hr => ?_⟩
 unfold Reps at hr
 obtain ⟨v, vs', rfl, h2, hr⟩ := hr
 unfold Reps at hr
 subst hr
 unfold Rep at h2
 obtain ⟨rfl, _⟩ := h2
 refine (Tryz.strconv_Atoi ⟨s.toArray⟩ (decV s) (by show s.toArray.size ≤ 18; rw [List.size_toArray]; omega) (by simpa using atoi_eq s h1 hd) w).mono fun e w' ⟨h3, t, h4⟩ => ?_
 subst h4
 have hr := decV_range s h8 hd
 refine ⟨_, _, h3, rfl, bytesWorld_below _ _ _, ?_⟩
 unfold Rep
 refine ⟨_, rfl, ?_⟩
 unfold Reps
 refine ⟨_, _, rfl, ?_, ?_⟩
 ·unfold Rep
  exact ⟨rfl, inK64.2 (by omega)⟩
 ·unfold Reps
  refine ⟨_, _, rfl, ?_, ?_⟩
  ·unfold Rep; rfl
  ·unfold Reps; rfl
theorem peek_ok {ts : List Tok} {i j : Nat} {t : Tok} (h : peekP ts i = .ok t j) : ∃ h : i < ts.length, t = ts[i] ∧ j = i := by
 unfold peekP at h
 rcases Nat.lt_or_ge i ts.length with h' | h'
 ·rw [List.getElem?_eq_getElem h'] at h; cases h; exact ⟨h', rfl, rfl⟩
 ·rw [List.getElem?_eq_none h'] at h; cases h
theorem numberP_peek (ts : List Tok) (i : Nat) : numberP (kts ts) i = (peekP ts i).bind fun t i => bif decide (t.kind = 2) then .ok (decV t.text) (i + 1) else .fail 90 i := by
 unfold numberP peekP
 rcases Nat.lt_or_ge i ts.length with h' | h'
 ·rw [kts_lt ts i h', List.getElem?_eq_getElem h']; rfl
 ·rw [kts_ge ts i h', List.getElem?_eq_none h']; rfl
set_option maxRecDepth 20000 in
theorem number_m (ts : List Tok) (len i : Nat)  (ht : TsOK ts) (hi : i ≤ ts.length) : MCtr 98 [.ptr 4 0] ts len i (numberP (kts ts) i) (.int .i64) := by
 have hl := ht.len
 intro v
 generalize hp : numberP (kts ts) i = p
 replace hp := hp.symm
 refine HCtr.of_body Tryz.func98 rfl tys_ok (by kernel_rfl) rfl ?_
 conv => whnf
 repeat (first | (refine ACode.st tys_ok rfl ?_; conv => whnf))
 rw [numberP_peek] at hp
 refine ACall.of_m (peek_m ts len i hl hi) hp (fun _ => rfl) rfl (fun j e k h hk => ?_) (fun t i hq hp hi => ?_)
 ·conv => whnf
  exact ⟨_, _, _, h, hk, rfl, rfl⟩
 conv => whnf
 repeat (first | (refine ACode.st tys_ok rfl ?_; conv => whnf))
 obtain ⟨h, rfl, rfl⟩ := peek_ok hq
 obtain ⟨_, h2⟩ := ht.tok _ (List.getElem_mem h)
 refine ⟨fun hk => ?_, fun hk => ?_⟩
 ·repeat (first | (refine ACode.st tys_ok rfl ?_; conv => whnf))
  refine ACall.of_wrong (p := p) ts len i hl (by omega) (by rw [if_pos h]; simp_all) rfl (fun j e k h hk => ?_)
  ·conv => whnf
   exact ⟨_, _, _, h, hk, rfl, rfl⟩
 ·repeat (first | (refine ACode.st tys_ok rfl ?_; conv => whnf))
  have hk : ts[i].kind = 2 := by simpa using hk
  obtain ⟨h1, h8, hd⟩ := h2 hk
  refine ACall.of_spec (atoi_spec _ h1 h8 hd) rfl fun r hr => ?_
  subst hr
  conv => whnf
  repeat (first | (refine ACode.st tys_ok rfl ?_; conv => whnf))
  rw [hk] at hp
  refine ⟨_, _, hp, h, rfl, ?_⟩
  rw [Wr64 _ (by omega) (by omega)]
  rfl
set_option maxRecDepth 20000 in
theorem field_m (ts : List Tok) (len i : Nat)  (w : Bs) (ht : TsOK ts) (hi : i ≤ ts.length) : MCtr 94 [.ptr 4 0, .str w] ts len i (fieldP (kts ts) w i) (.int .i64) := by
 have hl := ht.len
 intro v
 generalize hp : fieldP (kts ts) w i = p
 replace hp := hp.symm
 unfold fieldP at hp
 refine HCtr.of_body Tryz.func94 rfl tys_ok (by kernel_rfl) rfl ?_
 conv => whnf
 repeat (first | (refine ACode.st tys_ok rfl ?_; conv => whnf))
 refine ACall.of_m (word_m ts len i w hl hi) hp (fun _ => rfl) rfl (fun j e k h hk => ?_) (fun _ i hq hp hi => ?_)
 ·conv => whnf
  exact ⟨_, _, _, h, hk, rfl, rfl⟩
 conv => whnf
 repeat (first | (refine ACode.st tys_ok rfl ?_; conv => whnf))
 refine ACall.of_m (number_m ts len i ht hi) hp (fun _ => rfl) rfl (fun j e k h hk => ?_) (fun x i hq hp hi => ?_)
 ·conv => whnf
  exact ⟨_, _, _, h, hk, rfl, rfl⟩
 conv => whnf
 repeat (first | (refine ACode.st tys_ok rfl ?_; conv => whnf))
 refine ACall.of_m (symbol_m ts len i s_semi hl hi) hp (fun _ => rfl) rfl (fun j e k h hk => ?_) (fun _ i hq hp hi => ?_)
 ·conv => whnf
  exact ⟨_, _, _, h, hk, rfl, rfl⟩
 conv => whnf
 repeat (first | (refine ACode.st tys_ok rfl ?_; conv => whnf))
 exact ⟨_, _, hp, hi, rfl, rfl⟩
end Go.Proofs.YtbedaolpfedacaaGreatDoor
namespace Go.Proofs.YtbedaolpfedacaaGreatDoor
open Go.Av Go.Av.Net
theorem expect_true {ts : List KT} {k : Int} {x : Bs} {i : Nat} (h : seesP ts k x i = true) : expectP ts k x i = .ok () (i + 1) := by unfold expectP; rw [h]; rfl
theorem expect_bind {α : Type} {ts : List KT} {k : Int} {x : Bs} {i : Nat} {f : Nat → PR α} (h : seesP ts k x i = true) : f (i + 1) = (expectP ts k x i).bind fun _ i => f i := by rw [expect_true h]; rfl
theorem PR.bind_assoc {α β γ : Type} (x : PR α) (f : α → Nat → PR β) (g : β → Nat → PR γ) : (x.bind f).bind g = x.bind fun a i => (f a i).bind g := by cases x <;> rfl
theorem PR.ok_bind {α β : Type} (a : α) (i : Nat) (f : α → Nat → PR β) : (PR.ok a i).bind f = f a i := rfl
theorem expect_j {ts : List KT} {k : Int} {x : Bs} {i j : Nat} {a : Unit} (h : expectP ts k x i = .ok a j) : j = i + 1 := by
 unfold expectP wrongP at h
 cases hs : seesP ts k x i with
 | true => rw [hs] at h; cases h; rfl
 | false => rw [hs] at h; simp only [cond_false] at h; split at h <;> cases h
theorem name_j {ts : List KT} {x : Bs} {i j : Nat} (h : nameP ts i = .ok x j) : j = i + 1 := by
 unfold nameP at h
 split at h
 ·cases h
 ·rename_i t _
  cases hs : (decide (t.1 = 1) && isNameB t.2) with
  | true => rw [hs] at h; cases h; rfl
  | false => rw [hs] at h; cases h
theorem number_j {ts : List KT} {x : Int} {i j : Nat} (h : numberP ts i = .ok x j) : j = i + 1 := by
 unfold numberP at h
 split at h
 ·cases h
 ·rename_i t _
  cases hs : decide (t.1 = 2) with
  | true => rw [hs] at h; cases h; rfl
  | false => rw [hs] at h; cases h
theorem number_range {ts : List Tok} (ht : TsOK ts) {x : Int} {i j : Nat} (h : numberP (kts ts) i = .ok x j) : 0 ≤ x ∧ x < 100000000 := by
 unfold numberP at h
 rcases Nat.lt_or_ge i ts.length with hi | hi
 ·rw [kts_lt ts i hi] at h
  simp only at h
  cases hs : decide (ts[i].kind = 2) with
  | true =>
   rw [hs] at h; cases h
   obtain ⟨_, h2⟩ := ht.tok _ (List.getElem_mem hi)
   obtain ⟨_, h8, hd⟩ := h2 (by simpa using hs)
   exact decV_range _ h8 hd
  | false => rw [hs] at h; cases h
 ·rw [kts_ge ts i hi] at h; cases h
set_option maxRecDepth 20000 in
theorem int_m (ts : List Tok) (len i : Nat)  (ht : TsOK ts) (hi : i ≤ ts.length) : MCtr 88 [.ptr 4 0] ts len i (intP (kts ts) i) (.int .i64) := by
 have hl := ht.len
 intro v
 generalize hp : intP (kts ts) i = p
 replace hp := hp.symm
 unfold intP at hp
 refine HCtr.of_body Tryz.func88 rfl tys_ok (by kernel_rfl) rfl ?_
 conv => whnf
 repeat (first | (refine ACode.st tys_ok rfl ?_; conv => whnf))
 refine ACall.of_m0 (hasSymbol_m ts len i s_minus hl hi) (fun _ => rfl) rfl ?_
 conv => whnf
 repeat (first | (refine ACode.st tys_ok rfl ?_; conv => whnf))
 refine ⟨fun hs => ?_, fun hs => ?_⟩
 ·rw [hs, cond_true] at hp
  replace hp := hp.trans (expect_bind (f := fun j => (numberP (kts ts) j).bind fun n i => PR.ok (-n) i) hs)
  repeat (first | (refine ACode.st tys_ok rfl ?_; conv => whnf))
  refine ACall.of_m (symbol_m ts len i s_minus hl hi) hp (fun _ => rfl) rfl (fun j e k h hk => ?_) (fun _ i hq hp hi => ?_)
  ·conv => whnf
   exact ⟨_, _, _, h, hk, rfl, rfl⟩
  conv => whnf
  repeat (first | (refine ACode.st tys_ok rfl ?_; conv => whnf))
  refine ACall.of_m (number_m ts len i ht hi) hp (fun _ => rfl) rfl (fun j e k h hk => ?_) (fun x i hq hp hi => ?_)
  ·conv => whnf
   exact ⟨_, _, _, h, hk, rfl, rfl⟩
  conv => whnf
  repeat (first | (refine ACode.st tys_ok rfl ?_; conv => whnf))
  have hr := number_range ht hq
  rw [Wr64 _ (by omega) (by omega), Int.zero_sub]
  exact ⟨_, _, hp, hi, rfl, rfl⟩
 ·rw [hs, cond_false] at hp
  replace hp : p = (numberP (kts ts) i).bind fun n i => PR.ok n i := by rw [hp]; cases numberP (kts ts) i <;> rfl
  repeat (first | (refine ACode.st tys_ok rfl ?_; conv => whnf))
  refine ACall.of_m (number_m ts len i ht hi) hp (fun _ => rfl) rfl (fun j e k h hk => ?_) (fun x i hq hp hi => ?_)
  ·conv => whnf
   exact ⟨_, _, _, h, hk, rfl, rfl⟩
  conv => whnf
  repeat (first | (refine ACode.st tys_ok rfl ?_; conv => whnf))
  exact ⟨_, _, hp, hi, rfl, rfl⟩
def nilA : AV := .raw (.slice none 0 0)
set_option maxRecDepth 20000 in
theorem operators_m (ts : List Tok) (len i : Nat) (n : Nw) (v : V6) (ht : TsOK ts) (hi : i ≤ ts.length) (hn : n.opers = []) :
  HCtr Tryz.prog 55 [.ptr 4 0] (PQ ts len i (.raw v.a) (.raw v.b) nilA (.raw v.d) (.raw v.e) (.raw v.f))
   (fun r H => ∃ n' j, opersP (kts ts) ts.length n i = .ok n' j ∧ j ≤ ts.length ∧ r = .tuple [] ∧ H = PQ ts len j (.raw v.a) (.raw v.b) (.sl 1 (n'.opers.map operA)) (.raw v.d) (.raw v.e) (.raw v.f))
   (fun x H => ∃ e k j l, opersP (kts ts) ts.length n i = .fail e k ∧ k ≤ ts.length ∧ x = failA ts len e k ∧ H = PQ ts len j (.raw v.a) (.raw v.b) l (.raw v.d) (.raw v.e) (.raw v.f)) := by
 have hl := ht.len
 generalize hp : opersP (kts ts) ts.length n i = p
 replace hp := hp.symm
 refine HCtr.of_body Tryz.func55 rfl tys_ok (by kernel_rfl) rfl ?_
 conv => whnf
 repeat (first | (refine ACode.st tys_ok rfl ?_; conv => whnf))
 refine ACode.nilCell 4 5 60 1 rfl rfl ?_
 refine ACode.loopD (fun x : Nat × Nat × Nw => mk 24 [(0, .ptr 4 0)]) (fun x => PQ ts len x.2.1 (.raw v.a) (.raw v.b) (.own 5 1 0 x.2.2.opers.length) (.raw v.d) (.raw v.e) (.raw v.f) ++ [.arr 60 1 (x.2.2.opers.map operA)])
  (fun x => p = opersP (kts ts) x.1 x.2.2 x.2.1 ∧ x.2.1 ≤ ts.length ∧ ts.length ≤ x.2.1 + x.1 ∧ x.2.2.opers.length ≤ x.2.1) (fun x => x.1)
  (fun x hx => ⟨rfl, ?_⟩) ⟨(ts.length, i, n), ?_⟩ (fun _ => rfl) fun x hx => ?_
 ·(conv => whnf)
  refine ⟨rfl, ?_⟩
  (conv => whnf)
  exact ⟨closed_map _ (fun _ => rfl) _, trivial⟩
 ·conv => whnf
  repeat (refine And.intro ?_ ?_; (focus (first | rfl | (simp; done) | (simp [hn, PQ, oneK]; done))); conv => whnf)
  exact ⟨hp, hi, by simp, by simp [hn]⟩
 ·obtain ⟨f, i, n⟩ := x
  obtain ⟨hp, hi, hf, hn⟩ := hx
  simp only at hp hi hf hn
  repeat (first | (refine ACode.st tys_ok rfl ?_; conv => whnf))
  refine ACall.of_m0 (has_m ts len i w_operator hl hi) (fun _ => rfl) rfl ?_
  conv => whnf
  repeat (first | (refine ACode.st tys_ok rfl ?_; conv => whnf))
  refine ⟨fun hs => ?_, fun hs => ?_⟩
  ·have hlt := sees_le hs
   obtain ⟨f, rfl⟩ : ∃ g, f = g + 1 := ⟨f - 1, by omega⟩
   unfold opersP operP at hp
   rw [hs, cond_true] at hp
   simp only [PR.bind_assoc, PR.ok_bind] at hp
   repeat (first | (refine ACode.st tys_ok rfl ?_; conv => whnf))
   refine ACall.of_m (word_m ts len i w_operator hl hi) hp (fun _ => rfl) rfl (fun j e k h hk => ?_) (fun _ i1 hq hp hi => ?_)
   ·conv => whnf
    refine ⟨⟨by simp, closed_map _ (fun _ => rfl) _⟩, ?_⟩; (conv => whnf); exact ⟨_, _, _, _, h, hk, rfl, rfl⟩
   conv => whnf
   repeat (first | (refine ACode.st tys_ok rfl ?_; conv => whnf))
   have e1 := expect_j hq
   refine ACall.of_m (name_m ts len i1 ht hi) hp (fun _ => rfl) rfl (fun j e k h hk => ?_) (fun x i2 hq hp hi => ?_)
   ·conv => whnf
    refine ⟨⟨by simp, closed_map _ (fun _ => rfl) _⟩, ?_⟩; (conv => whnf); exact ⟨_, _, _, _, h, hk, rfl, rfl⟩
   conv => whnf
   repeat (first | (refine ACode.st tys_ok rfl ?_; conv => whnf))
   have e2 := name_j hq
   refine ACall.of_m (symbol_m ts len i2 s_semi hl hi) hp (fun _ => rfl) rfl (fun j e k h hk => ?_) (fun _ i3 hq hp hi => ?_)
   ·conv => whnf
    refine ⟨⟨by simp, closed_map _ (fun _ => rfl) _⟩, ?_⟩; (conv => whnf); exact ⟨_, _, _, _, h, hk, rfl, rfl⟩
   conv => whnf
   repeat (first | (refine ACode.st tys_ok rfl ?_; conv => whnf))
   have e3 := expect_j hq
   refine ⟨rfl, ?_⟩
   conv => whnf
   refine ⟨⟨by simp, by simp; omega⟩, ?_⟩
   conv => whnf
   repeat (first | (refine ACode.st tys_ok rfl ?_; conv => whnf))
   refine ⟨(f, i3, { n with opers := n.opers ++ [x] }), ?_⟩
   conv => whnf
   repeat (refine And.intro ?_ ?_; (focus (first | rfl | (simp; done) | (simp [operA]; done))); conv => whnf)
   exact ⟨⟨hp, hi, by simp only; omega, by simp; omega⟩, by simp⟩
  ·have hp : p = .ok n i := by
    rw [hp]; cases f <;> simp [opersP, hs]
   repeat (first | (refine ACode.st tys_ok rfl ?_; conv => whnf))
   refine ⟨⟨by simp, closed_map _ (fun _ => rfl) _⟩, ?_⟩
   conv => whnf
   exact ⟨_, _, hp, hi, rfl, rfl⟩
end Go.Proofs.YtbedaolpfedacaaGreatDoor
namespace Go.Proofs.YtbedaolpfedacaaGreatDoor
open Go.Av Go.Av.Net
theorem weekP_peek (ts : List Tok) (i : Nat) : weekP (kts ts) i = (peekP ts i).bind fun t i => bif decide (t.kind = 2) && isWeekB t.text then .ok (t.text.map fun b => decide (b.toNat = 49)) (i + 1) else .fail 90 i := by
 unfold weekP peekP
 rcases Nat.lt_or_ge i ts.length with h' | h'
 ·rw [kts_lt ts i h', List.getElem?_eq_getElem h']; rfl
 ·rw [kts_ge ts i h', List.getElem?_eq_none h']; rfl
set_option maxRecDepth 20000 in
theorem week_m (ts : List Tok) (len i : Nat)  (ht : TsOK ts) (hi : i ≤ ts.length) : MCtr 89 [.ptr 4 0] ts len i (weekP (kts ts) i) (fun l => .sl 1 (l.map .bool)) := by
 have hl := ht.len
 intro v
 generalize hp : weekP (kts ts) i = p
 replace hp := hp.symm
 refine HCtr.of_body Tryz.func89 rfl tys_ok (by kernel_rfl) rfl ?_
 conv => whnf
 repeat (first | (refine ACode.st tys_ok rfl ?_; conv => whnf))
 rw [weekP_peek] at hp
 refine ACall.of_m (peek_m ts len i hl hi) hp (fun _ => rfl) rfl (fun j e k h hk => ?_) (fun t i hq hp hi => ?_)
 ·conv => whnf
  exact ⟨_, _, _, h, hk, rfl, rfl⟩
 conv => whnf
 repeat (first | (refine ACode.st tys_ok rfl ?_; conv => whnf))
 obtain ⟨h, rfl, rfl⟩ := peek_ok hq
 refine ⟨fun hk => ?_, fun hk => ?_⟩
 ·have hk : ts[i].kind = 2 := by simpa using hk
  repeat (first | (refine ACode.st tys_ok rfl ?_; conv => whnf))
  refine ⟨fun h7 => ?_, fun h7 => ?_⟩
  ·have h7 : ¬ ts[i].text.length = 7 := by simp at h7; omega
   repeat (first | (refine ACode.st tys_ok rfl ?_; conv => whnf))
   refine ACall.of_wrong (p := p) ts len i hl (by omega) (by rw [if_pos h, hp]; simp [isWeekB, h7]) rfl (fun j e k h hk => ?_)
   ·conv => whnf
    exact ⟨_, _, _, h, hk, rfl, rfl⟩
  ·have h7 : ts[i].text.length = 7 := by simp at h7; omega
   repeat (first | (refine ACode.st tys_ok rfl ?_; conv => whnf))
   refine ⟨by decide, ?_⟩
   conv => whnf
   repeat (first | (refine ACode.st tys_ok rfl ?_; conv => whnf))
   have hw : isWeekB ts[i].text = ts[i].text.all (fun b => decide (b.toNat = 48) || decide (b.toNat = 49)) := by simp [isWeekB, h7]
   rw [hk] at hp
   simp only [decide_true, Bool.true_and, hw] at hp
   generalize hx : ts[i].text = x at *
   refine ACode.loopD (fun k : Nat => mk 51 [(0, .ptr 4 0), (4, .own 6 1 0 k), (23, .sl 1 (byts x)), (24, .int .i64 (byts x).length), (25, .int .i64 k)])
    (fun k => PQr ts len i v ++ [.cells [.int .i64 ts[i].kind, .str x, .int .i64 ts[i].pos], .arr 4 1 ((x.take k).map fun b => .bool (decide (b.toNat = 49)))])
    (fun k => k ≤ 7 ∧ (x.all (fun b => decide (b.toNat = 48) || decide (b.toNat = 49))) = (x.drop k).all (fun b => decide (b.toNat = 48) || decide (b.toNat = 49))) (fun k => 7 - k) (fun k hk => ⟨rfl, ?_⟩) ⟨0, ?_⟩ (fun _ => rfl) fun k hk => ?_
   ·(conv => whnf)
    refine ⟨rfl, ?_⟩
    (conv => whnf)
    refine ⟨rfl, ?_⟩
    (conv => whnf)
    refine ⟨closed_map _ (fun _ => rfl) _, ?_⟩
    trivial
   ·conv => whnf
    repeat (refine And.intro ?_ ?_; (focus (first | rfl | (simp; done))); conv => whnf)
    rfl
   ·obtain ⟨hk7, he⟩ := hk
    repeat (first | (refine ACode.st tys_ok rfl ?_; conv => whnf))
    refine ⟨fun hlt => ?_, fun hge => ?_⟩
    ·have hlt : k < x.length := by simpa using hlt
     rw [all_step _ x k hlt] at he
     repeat (first | (refine ACode.st tys_ok rfl ?_; conv => whnf))
     refine ⟨by omega, .int .u8 x[k].toNat, byts_get _ _ hlt, ?_⟩
     conv => whnf
     repeat (first | (refine ACode.st tys_ok rfl ?_; conv => whnf))
     repeat' (first | (refine And.intro (fun _ => ?_) (fun _ => ?_) <;> conv => whnf) | (refine ACode.st tys_ok rfl ?_; conv => whnf))
     all_goals first
      | (rename_i q1 q2
         have q1 : ¬ x[k].toNat = 48 := fun q => by simp [q] at q1
         have q2 : ¬ x[k].toNat = 49 := fun q => by simp [q] at q2
         rw [he, decide_eq_false q1, decide_eq_false q2] at hp
         refine ACall.of_wrong (p := p) ts len i hl (by omega) (by rw [if_pos h]; exact hp) rfl (fun j e k h hk => ?_)
         · conv => whnf
           exact ⟨_, _, _, h, hk, rfl, rfl⟩
         done)
      | (have e1 : (List.map (fun b => AV.bool (decide (b.toNat = 49))) (List.take k x) ++ [AV.bool (decide ((x[k].toNat : Int) = 49))]) = List.map (fun b => AV.bool (decide (b.toNat = 49))) (List.take (k + 1) x) := by
           rw [List.take_succ_eq_append_getElem hlt, List.map_append]
           congr 3
           rw [decide_eq_decide]; omega
         have e2 : decide (x[k].toNat = 48) = true ∨ decide (x[k].toNat = 49) = true := by
           rename_i q
           by_cases q1 : x[k].toNat = 48
           · exact .inl (decide_eq_true q1)
           · refine .inr (decide_eq_true ?_)
             simp at q
             omega
         have e3 : (decide (x[k].toNat = 48) || decide (x[k].toNat = 49)) = true := by rcases e2 with e | e <;> simp [e]
         rw [e3, Bool.true_and] at he
         refine ⟨rfl, ?_⟩
         conv => whnf
         refine ⟨⟨by simp; omega, by simp; omega⟩, ?_⟩
         conv => whnf
         repeat (first | (refine ACode.st tys_ok rfl ?_; conv => whnf))
         rw [e1]
         refine ⟨k + 1, ?_⟩
         conv => whnf
         repeat (refine And.intro ?_ ?_; (focus (first | rfl | (simp; done) | ((first | (rw [Wr64 _ (by omega) (by omega)]; omega) | (simp; omega)); done))); conv => whnf)
         exact ⟨⟨by omega, he⟩, by omega⟩)
    ·have hge : x.length ≤ k := by simp at hge; omega
     have : k = x.length := by omega
     subst this
     repeat (first | (refine ACode.st tys_ok rfl ?_; conv => whnf))
     refine ⟨⟨by simp, closed_map _ (fun _ => rfl) _⟩, ?_⟩
     conv => whnf
     rw [he, List.drop_length] at hp
     refine ⟨_, _, hp, h, ?_, ?_⟩
     ·rw [List.take_length]; show _ = AV.sl 1 (List.map AV.bool (List.map _ x)); rw [List.map_map]; rfl
     ·rw [Wr64 _ (by omega) (by omega)]; rfl
 ·repeat (first | (refine ACode.st tys_ok rfl ?_; conv => whnf))
  refine ACall.of_wrong (p := p) ts len i hl (by omega) (by rw [if_pos h]; simp_all) rfl (fun j e k h hk => ?_)
  ·conv => whnf
   exact ⟨_, _, _, h, hk, rfl, rfl⟩
end Go.Proofs.YtbedaolpfedacaaGreatDoor
namespace Go.Proofs.YtbedaolpfedacaaGreatDoor
open Go.Av Go.Av.Net
theorem operName_spec (x : Bs) : Ctr Tryz.prog 91 [.agg [.str x]] (fun r => r = .str x) := by
 refine Ctr.of_body Tryz.func91 rfl tys_ok (by kernel_rfl) ?_
 conv => whnf
 repeat (first | (refine ACode.st tys_ok rfl ?_; conv => whnf))
theorem nameName_spec (x : Bs) : Ctr Tryz.prog 93 [.str x] (fun r => r = .str x) := by
 refine Ctr.of_body Tryz.func93 rfl tys_ok (by kernel_rfl) ?_
 conv => whnf
 repeat (first | (refine ACode.st tys_ok rfl ?_; conv => whnf))
theorem offName_spec (o : Off) : Ctr Tryz.prog 113 [offA o] (fun r => r = .str o.name) := by
 refine Ctr.of_body Tryz.func113 rfl tys_ok (by kernel_rfl) ?_
 conv => whnf
 repeat (first | (refine ACode.st tys_ok rfl ?_; conv => whnf))
theorem idx_step (x y : Bs) (l : List Bs) (k : Nat) (h : k < l.length) : (idxOf x (l.drop k)).map (· + k) = bif decide (l[k] = x) then some k else (idxOf x (l.drop (k + 1))).map (· + (k + 1)) := by
 rw [List.drop_eq_getElem_cons h]
 rw [show idxOf x (l[k] :: l.drop (k + 1)) = bif decide (l[k] = x) then some 0 else (idxOf x (l.drop (k + 1))).map (· + 1) from rfl]
 by_cases e : l[k] = x
 ·simp [e]
 ·rw [decide_eq_false e, cond_false, cond_false, Option.map_map]
  congr 1
  funext a
  simp only [Function.comp]
  omega
theorem idx_end (x : Bs) (l : List Bs) : (idxOf x (l.drop l.length)).map (· + l.length) = none := by
 rw [List.drop_length]; rfl
set_option maxRecDepth 20000 in
theorem refOper_m (ts : List Tok) (len i : Nat) (l : List Bs) (ht : TsOK ts) (hi : i ≤ ts.length) (hn : l.length ≤ 3000) : MCtr 90 [.ptr 4 0, .sl 1 (l.map operA), .fn 91 []] ts len i (refP (kts ts) l i) (fun k => .int .i64 k) := by
 have hl := ht.len
 intro v
 generalize hp : refP (kts ts) l i = p
 replace hp := hp.symm
 unfold refP at hp
 refine HCtr.of_body Tryz.func90 rfl tys_ok (by kernel_rfl) rfl ?_
 conv => whnf
 repeat (first | (refine ACode.st tys_ok rfl ?_; conv => whnf))
 refine ACall.of_m (name_m ts len i ht hi) hp (fun _ => rfl) rfl (fun j e k h hk => ?_) (fun x j hq hp hi => ?_)
 ·conv => whnf
  exact ⟨_, _, _, h, hk, rfl, rfl⟩
 conv => whnf
 repeat (first | (refine ACode.st tys_ok rfl ?_; conv => whnf))
 have hj := name_j hq
 refine ACode.loopD (fun k : Nat => mk 40 [(0, .ptr 4 0), (2, .fn 91 []), (6, .int .i64 0), (7, .str x), (12, .sl 1 (l.map operA)), (13, .int .i64 (l.map operA).length), (14, .int .i64 k)]) (fun _ => PQr ts len j v)
  (fun k => k ≤ l.length ∧ idxOf x l = (idxOf x (l.drop k)).map (· + k)) (fun k => l.length - k) (fun k hk => ⟨rfl, ?_⟩) ⟨0, ?_⟩ (fun _ => rfl) fun k hk => ?_
 ·(conv => whnf)
  exact ⟨rfl, trivial⟩
 ·conv => whnf
  repeat (refine And.intro ?_ ?_; (focus (first | rfl | (simp; done))); conv => whnf)
  simp
 ·obtain ⟨hkl, he⟩ := hk
  repeat (first | (refine ACode.st tys_ok rfl ?_; conv => whnf))
  refine ⟨fun hlt => ?_, fun hge => ?_⟩
  ·have hlt : k < l.length := by simpa using hlt
   rw [idx_step x x l k hlt] at he
   repeat (first | (refine ACode.st tys_ok rfl ?_; conv => whnf))
   refine ⟨by omega, operA l[k], by simp [hlt], ?_⟩
   conv => whnf
   repeat (first | (refine ACode.st tys_ok rfl ?_; conv => whnf))
   refine ACall.of_spec (operName_spec l[k]) rfl fun r hr => ?_
   subst hr
   conv => whnf
   repeat (first | (refine ACode.st tys_ok rfl ?_; conv => whnf))
   refine ⟨fun ht => ?_, fun hf => ?_⟩
   ·have ht : l[k] = x := by simpa using ht
    rw [he, decide_eq_true ht] at hp
    repeat (first | (refine ACode.st tys_ok rfl ?_; conv => whnf))
    exact ⟨_, _, hp, hi, rfl, rfl⟩
   ·have hf : ¬ l[k] = x := by simpa using hf
    rw [decide_eq_false hf, cond_false] at he
    repeat (first | (refine ACode.st tys_ok rfl ?_; conv => whnf))
    refine ⟨k + 1, ?_⟩
    conv => whnf
    repeat (refine And.intro ?_ ?_; (focus (first | rfl | (simp; done) | (rw [Wr64 _ (by omega) (by omega)]; omega; done))); conv => whnf)
    exact ⟨⟨by omega, he⟩, by omega⟩
  ·have hge : l.length ≤ k := by simp at hge; omega
   have : k = l.length := by omega
   subst this
   rw [he, idx_end] at hp
   repeat (first | (refine ACode.st tys_ok rfl ?_; conv => whnf))
   refine ACode.draw [14] tys_ok (by kernel_rfl) (by kernel_rfl) ?_
   conv => whnf
   have hil : i < ts.length := by omega
   rw [show Wr .i64 ((j : Int) - 1) = (i : Int) by rw [Wr64 _ (by omega) (by omega)]; omega]
   refine ⟨by omega, tokA ts[i], toksA_get _ _ hil, ?_⟩
   conv => whnf
   subst hj
   refine ⟨_, _, _, hp, by omega, ?_, rfl⟩
   unfold failA offs
   rw [Nat.add_sub_cancel, List.getElem?_eq_getElem hil]
set_option maxRecDepth 20000 in
theorem refName_m (ts : List Tok) (len i : Nat) (l : List Bs) (ht : TsOK ts) (hi : i ≤ ts.length) (hn : l.length ≤ 3000) : MCtr 92 [.ptr 4 0, .sl 1 (strs l), .fn 93 []] ts len i (refP (kts ts) l i) (fun k => .int .i64 k) := by
 have hl := ht.len
 intro v
 generalize hp : refP (kts ts) l i = p
 replace hp := hp.symm
 unfold refP at hp
 refine HCtr.of_body Tryz.func92 rfl tys_ok (by kernel_rfl) rfl ?_
 conv => whnf
 repeat (first | (refine ACode.st tys_ok rfl ?_; conv => whnf))
 refine ACall.of_m (name_m ts len i ht hi) hp (fun _ => rfl) rfl (fun j e k h hk => ?_) (fun x j hq hp hi => ?_)
 ·conv => whnf
  exact ⟨_, _, _, h, hk, rfl, rfl⟩
 conv => whnf
 repeat (first | (refine ACode.st tys_ok rfl ?_; conv => whnf))
 have hj := name_j hq
 refine ACode.loopD (fun k : Nat => mk 40 [(0, .ptr 4 0), (2, .fn 93 []), (6, .int .i64 0), (7, .str x), (12, .sl 1 (strs l)), (13, .int .i64 (strs l).length), (14, .int .i64 k)]) (fun _ => PQr ts len j v)
  (fun k => k ≤ l.length ∧ idxOf x l = (idxOf x (l.drop k)).map (· + k)) (fun k => l.length - k) (fun k hk => ⟨rfl, ?_⟩) ⟨0, ?_⟩ (fun _ => rfl) fun k hk => ?_
 ·(conv => whnf)
  exact ⟨rfl, trivial⟩
 ·conv => whnf
  repeat (refine And.intro ?_ ?_; (focus (first | rfl | (simp; done))); conv => whnf)
  simp
 ·obtain ⟨hkl, he⟩ := hk
  repeat (first | (refine ACode.st tys_ok rfl ?_; conv => whnf))
  refine ⟨fun hlt => ?_, fun hge => ?_⟩
  ·have hlt : k < l.length := by simpa using hlt
   rw [idx_step x x l k hlt] at he
   repeat (first | (refine ACode.st tys_ok rfl ?_; conv => whnf))
   refine ⟨by omega, .str l[k], strs_get _ _ hlt, ?_⟩
   conv => whnf
   repeat (first | (refine ACode.st tys_ok rfl ?_; conv => whnf))
   refine ACall.of_spec (nameName_spec l[k]) rfl fun r hr => ?_
   subst hr
   conv => whnf
   repeat (first | (refine ACode.st tys_ok rfl ?_; conv => whnf))
   refine ⟨fun ht => ?_, fun hf => ?_⟩
   ·have ht : l[k] = x := by simpa using ht
    rw [he, decide_eq_true ht] at hp
    repeat (first | (refine ACode.st tys_ok rfl ?_; conv => whnf))
    exact ⟨_, _, hp, hi, rfl, rfl⟩
   ·have hf : ¬ l[k] = x := by simpa using hf
    rw [decide_eq_false hf, cond_false] at he
    repeat (first | (refine ACode.st tys_ok rfl ?_; conv => whnf))
    refine ⟨k + 1, ?_⟩
    conv => whnf
    repeat (refine And.intro ?_ ?_; (focus (first | rfl | (simp; done) | (rw [Wr64 _ (by omega) (by omega)]; omega; done))); conv => whnf)
    exact ⟨⟨by omega, he⟩, by omega⟩
  ·have hge : l.length ≤ k := by simp at hge; omega
   have : k = l.length := by omega
   subst this
   rw [he, idx_end] at hp
   repeat (first | (refine ACode.st tys_ok rfl ?_; conv => whnf))
   refine ACode.draw [14] tys_ok (by kernel_rfl) (by kernel_rfl) ?_
   conv => whnf
   have hil : i < ts.length := by omega
   rw [show Wr .i64 ((j : Int) - 1) = (i : Int) by rw [Wr64 _ (by omega) (by omega)]; omega]
   refine ⟨by omega, tokA ts[i], toksA_get _ _ hil, ?_⟩
   conv => whnf
   subst hj
   refine ⟨_, _, _, hp, by omega, ?_, rfl⟩
   unfold failA offs
   rw [Nat.add_sub_cancel, List.getElem?_eq_getElem hil]
set_option maxRecDepth 20000 in
theorem refOff_m (ts : List Tok) (len i : Nat) (l : List Off) (ht : TsOK ts) (hi : i ≤ ts.length) (hn : l.length ≤ 3000) : MCtr 112 [.ptr 4 0, .sl 7 (l.map offA), .fn 113 []] ts len i (refP (kts ts) (l.map (·.name)) i) (fun k => .int .i64 k) := by
 have hl := ht.len
 intro v
 generalize hp : refP (kts ts) (l.map (·.name)) i = p
 replace hp := hp.symm
 unfold refP at hp
 refine HCtr.of_body Tryz.func112 rfl tys_ok (by kernel_rfl) rfl ?_
 conv => whnf
 repeat (first | (refine ACode.st tys_ok rfl ?_; conv => whnf))
 refine ACall.of_m (name_m ts len i ht hi) hp (fun _ => rfl) rfl (fun j e k h hk => ?_) (fun x j hq hp hi => ?_)
 ·conv => whnf
  exact ⟨_, _, _, h, hk, rfl, rfl⟩
 conv => whnf
 repeat (first | (refine ACode.st tys_ok rfl ?_; conv => whnf))
 have hj := name_j hq
 refine ACode.loopD (fun k : Nat => mk 40 [(0, .ptr 4 0), (2, .fn 113 []), (6, .int .i64 0), (7, .str x), (12, .sl 7 (l.map offA)), (13, .int .i64 (l.map offA).length), (14, .int .i64 k)]) (fun _ => PQr ts len j v)
  (fun k => k ≤ l.length ∧ idxOf x (l.map (·.name)) = (idxOf x ((l.map (·.name)).drop k)).map (· + k)) (fun k => l.length - k) (fun k hk => ⟨rfl, ?_⟩) ⟨0, ?_⟩ (fun _ => rfl) fun k hk => ?_
 ·(conv => whnf)
  exact ⟨rfl, trivial⟩
 ·conv => whnf
  repeat (refine And.intro ?_ ?_; (focus (first | rfl | (simp; done))); conv => whnf)
  simp
 ·obtain ⟨hkl, he⟩ := hk
  repeat (first | (refine ACode.st tys_ok rfl ?_; conv => whnf))
  refine ⟨fun hlt => ?_, fun hge => ?_⟩
  ·have hlt : k < l.length := by simpa using hlt
   rw [idx_step x x (l.map (·.name)) k (by simpa using hlt), List.getElem_map] at he
   repeat (first | (refine ACode.st tys_ok rfl ?_; conv => whnf))
   refine ⟨by omega, offA l[k], by simp [hlt], ?_⟩
   conv => whnf
   repeat (first | (refine ACode.st tys_ok rfl ?_; conv => whnf))
   refine ACall.of_spec (offName_spec l[k]) rfl fun r hr => ?_
   subst hr
   conv => whnf
   repeat (first | (refine ACode.st tys_ok rfl ?_; conv => whnf))
   refine ⟨fun ht => ?_, fun hf => ?_⟩
   ·have ht : l[k].name = x := by simpa using ht
    rw [he, decide_eq_true ht] at hp
    repeat (first | (refine ACode.st tys_ok rfl ?_; conv => whnf))
    exact ⟨_, _, hp, hi, rfl, rfl⟩
   ·have hf : ¬ l[k].name = x := by simpa using hf
    rw [decide_eq_false hf, cond_false] at he
    repeat (first | (refine ACode.st tys_ok rfl ?_; conv => whnf))
    refine ⟨k + 1, ?_⟩
    conv => whnf
    repeat (refine And.intro ?_ ?_; (focus (first | rfl | (simp; done) | (rw [Wr64 _ (by omega) (by omega)]; omega; done))); conv => whnf)
    exact ⟨⟨by omega, he⟩, by omega⟩
  ·have hge : l.length ≤ k := by simp at hge; omega
   have : k = l.length := by omega
   subst this
   rw [he, show l.length = (l.map (·.name)).length by simp, idx_end] at hp
   repeat (first | (refine ACode.st tys_ok rfl ?_; conv => whnf))
   refine ACode.draw [14] tys_ok (by kernel_rfl) (by kernel_rfl) ?_
   conv => whnf
   have hil : i < ts.length := by omega
   rw [show Wr .i64 ((j : Int) - 1) = (i : Int) by rw [Wr64 _ (by omega) (by omega)]; omega]
   refine ⟨by omega, tokA ts[i], toksA_get _ _ hil, ?_⟩
   conv => whnf
   subst hj
   refine ⟨_, _, _, hp, by omega, ?_, rfl⟩
   unfold failA offs
   rw [Nat.add_sub_cancel, List.getElem?_eq_getElem hil]
end Go.Proofs.YtbedaolpfedacaaGreatDoor
namespace Go.Proofs.YtbedaolpfedacaaGreatDoor
open Go.Av Go.Av.Net
theorem field_lt {ts : List KT} {w : Bs} {i j : Nat} {a : Int} (h : fieldP ts w i = .ok a j) : j = i + 3 := by
 unfold fieldP at h
 cases h1 : expectP ts 1 w i with
 | fail e k => rw [h1] at h; cases h
 | ok a1 i1 =>
  rw [h1, PR.ok_bind] at h
  cases h2 : numberP ts i1 with
  | fail e k => rw [h2] at h; cases h
  | ok a2 i2 =>
   rw [h2, PR.ok_bind] at h
   cases h3 : expectP ts 3 s_semi i2 with
   | fail e k => rw [h3] at h; cases h
   | ok a3 i3 =>
    rw [h3, PR.ok_bind] at h
    cases h
    have := expect_j h1; have := number_j h2; have := expect_j h3
    omega
set_option maxRecDepth 20000 in
theorem classes_m (ts : List Tok) (len i : Nat) (n : Nw) (v : V6) (ht : TsOK ts) (hi : i ≤ ts.length) (hn : n.clss = []) :
  HCtr Tryz.prog 58 [.ptr 4 0] (PQ ts len i (.raw v.a) (.raw v.b) (.raw v.c) (.raw v.d) (.raw v.e) nilA)
   (fun r H => ∃ n' j, clssP (kts ts) ts.length n i = .ok n' j ∧ j ≤ ts.length ∧ r = .tuple [] ∧ H = PQ ts len j (.raw v.a) (.raw v.b) (.raw v.c) (.raw v.d) (.raw v.e) (.sl 3 (n'.clss.map clsA)))
   (fun x H => ∃ e k j l, clssP (kts ts) ts.length n i = .fail e k ∧ k ≤ ts.length ∧ x = failA ts len e k ∧ H = PQ ts len j (.raw v.a) (.raw v.b) (.raw v.c) (.raw v.d) (.raw v.e) l) := by
 have hl := ht.len
 generalize hp : clssP (kts ts) ts.length n i = p
 replace hp := hp.symm
 refine HCtr.of_body Tryz.func58 rfl tys_ok (by kernel_rfl) rfl ?_
 conv => whnf
 repeat (first | (refine ACode.st tys_ok rfl ?_; conv => whnf))
 refine ACode.nilCell 4 8 50 3 rfl rfl ?_
 refine ACode.loopD (fun x : Nat × Nat × Nw => mk 32 [(0, .ptr 4 0)]) (fun x => PQ ts len x.2.1 (.raw v.a) (.raw v.b) (.raw v.c) (.raw v.d) (.raw v.e) (.own 5 3 0 x.2.2.clss.length) ++ [.arr 50 3 (x.2.2.clss.map clsA)])
  (fun x => p = clssP (kts ts) x.1 x.2.2 x.2.1 ∧ x.2.1 ≤ ts.length ∧ ts.length ≤ x.2.1 + x.1 ∧ x.2.2.clss.length ≤ x.2.1) (fun x => x.1)
  (fun x hx => ⟨rfl, ?_⟩) ⟨(ts.length, i, n), ?_⟩ (fun _ => rfl) fun x hx => ?_
 ·(conv => whnf)
  refine ⟨rfl, ?_⟩
  (conv => whnf)
  exact ⟨closed_map _ (fun _ => rfl) _, trivial⟩
 ·conv => whnf
  repeat (refine And.intro ?_ ?_; (focus (first | rfl | (simp; done) | (simp [hn, PQ, oneK]; done))); conv => whnf)
  exact ⟨hp, hi, by simp, by simp [hn]⟩
 ·obtain ⟨f, i, n⟩ := x
  obtain ⟨hp, hi, hf, hn⟩ := hx
  simp only at hp hi hf hn
  repeat (first | (refine ACode.st tys_ok rfl ?_; conv => whnf))
  refine ACall.of_m0 (has_m ts len i w_class hl hi) (fun _ => rfl) rfl ?_
  conv => whnf
  repeat (first | (refine ACode.st tys_ok rfl ?_; conv => whnf))
  refine ⟨fun hs => ?_, fun hs => ?_⟩
  ·have hlt := sees_le hs
   obtain ⟨f, rfl⟩ : ∃ g, f = g + 1 := ⟨f - 1, by omega⟩
   unfold clssP clsP at hp
   rw [hs, cond_true] at hp
   simp only [PR.bind_assoc, PR.ok_bind] at hp
   repeat (first | (refine ACode.st tys_ok rfl ?_; conv => whnf))
   refine ACall.of_m (word_m ts len i w_class hl hi) hp (fun _ => rfl) rfl (fun j e k h hk => ?_) (fun _ i1 hq hp hi => ?_)
   ·conv => whnf
    refine ⟨⟨by simp, closed_map _ (fun _ => rfl) _⟩, ?_⟩; (conv => whnf); exact ⟨_, _, _, _, h, hk, rfl, rfl⟩
   conv => whnf
   repeat (first | (refine ACode.st tys_ok rfl ?_; conv => whnf))
   have e1 := expect_j hq
   refine ACall.of_m (name_m ts len i1 ht hi) hp (fun _ => rfl) rfl (fun j e k h hk => ?_) (fun x i2 hq hp hi => ?_)
   ·conv => whnf
    refine ⟨⟨by simp, closed_map _ (fun _ => rfl) _⟩, ?_⟩; (conv => whnf); exact ⟨_, _, _, _, h, hk, rfl, rfl⟩
   conv => whnf
   repeat (first | (refine ACode.st tys_ok rfl ?_; conv => whnf))
   have e2 := name_j hq
   refine ACall.of_m (symbol_m ts len i2 s_lb hl hi) hp (fun _ => rfl) rfl (fun j e k h hk => ?_) (fun _ i3 hq hp hi => ?_)
   ·conv => whnf
    refine ⟨⟨by simp, closed_map _ (fun _ => rfl) _⟩, ?_⟩; (conv => whnf); exact ⟨_, _, _, _, h, hk, rfl, rfl⟩
   conv => whnf
   repeat (first | (refine ACode.st tys_ok rfl ?_; conv => whnf))
   have e3 := expect_j hq
   refine ACall.of_m (field_m ts len i3 w_cut ht hi) hp (fun _ => rfl) rfl (fun j e k h hk => ?_) (fun cut i4 hq hp hi => ?_)
   ·conv => whnf
    refine ⟨⟨by simp, closed_map _ (fun _ => rfl) _⟩, ?_⟩; (conv => whnf); exact ⟨_, _, _, _, h, hk, rfl, rfl⟩
   conv => whnf
   repeat (first | (refine ACode.st tys_ok rfl ?_; conv => whnf))
   have e4 := field_lt hq
   refine ACall.of_m (field_m ts len i4 w_deliver ht hi) hp (fun _ => rfl) rfl (fun j e k h hk => ?_) (fun deliver i5 hq hp hi => ?_)
   ·conv => whnf
    refine ⟨⟨by simp, closed_map _ (fun _ => rfl) _⟩, ?_⟩; (conv => whnf); exact ⟨_, _, _, _, h, hk, rfl, rfl⟩
   conv => whnf
   repeat (first | (refine ACode.st tys_ok rfl ?_; conv => whnf))
   have e5 := field_lt hq
   refine ACall.of_m (symbol_m ts len i5 s_rb hl hi) hp (fun _ => rfl) rfl (fun j e k h hk => ?_) (fun _ i6 hq hp hi => ?_)
   ·conv => whnf
    refine ⟨⟨by simp, closed_map _ (fun _ => rfl) _⟩, ?_⟩; (conv => whnf); exact ⟨_, _, _, _, h, hk, rfl, rfl⟩
   conv => whnf
   repeat (first | (refine ACode.st tys_ok rfl ?_; conv => whnf))
   have e6 := expect_j hq
   refine ACode.drawI [] [8, 12] tys_ok (by kernel_rfl) (by kernel_rfl) ?_
   conv => whnf
   refine ⟨rfl, ?_⟩
   conv => whnf
   refine ⟨⟨by simp, by simp; omega⟩, ?_⟩
   conv => whnf
   repeat (first | (refine ACode.st tys_ok rfl ?_; conv => whnf))
   refine ⟨(f, i6, { n with clss := n.clss ++ [⟨x, cut, deliver⟩] }), ?_⟩
   conv => whnf
   repeat (refine And.intro ?_ ?_; (focus (first | rfl | (simp; done) | (simp [clsA]; done))); conv => whnf)
   exact ⟨⟨hp, hi, by simp only; omega, by simp; omega⟩, by simp⟩
  ·have hp : p = .ok n i := by
    rw [hp]; cases f <;> simp [clssP, hs]
   repeat (first | (refine ACode.st tys_ok rfl ?_; conv => whnf))
   refine ⟨⟨by simp, closed_map _ (fun _ => rfl) _⟩, ?_⟩
   conv => whnf
   exact ⟨_, _, hp, hi, rfl, rfl⟩
end Go.Proofs.YtbedaolpfedacaaGreatDoor
namespace Go.Proofs.YtbedaolpfedacaaGreatDoor
open Go.Av Go.Av.Net
set_option maxRecDepth 20000 in
theorem office_h (ts : List Tok) (len i : Nat) (l : List Off) (v : V6) (ht : TsOK ts) (hi : i ≤ ts.length) (hn : l.length ≤ 3000) :
  HCtr Tryz.prog 97 [.ptr 4 0] (PQ ts len i (.raw v.a) (.raw v.b) (.raw v.c) (.sl 7 (l.map offA)) (.raw v.e) (.raw v.f))
   (fun r H => ∃ a j, refP (kts ts) (l.map (·.name)) i = .ok a j ∧ j ≤ ts.length ∧ r = .int .i64 (a : Nat) ∧ H = PQ ts len j (.raw v.a) (.raw v.b) (.raw v.c) (.sl 7 (l.map offA)) (.raw v.e) (.raw v.f))
   (fun x H => ∃ e k j, refP (kts ts) (l.map (·.name)) i = .fail e k ∧ k ≤ ts.length ∧ x = failA ts len e k ∧ H = PQ ts len j (.raw v.a) (.raw v.b) (.raw v.c) (.sl 7 (l.map offA)) (.raw v.e) (.raw v.f)) := by
 have hl := ht.len
 generalize hp : refP (kts ts) (l.map (·.name)) i = p
 replace hp := hp.symm
 replace hp : p = (refP (kts ts) (l.map (·.name)) i).bind fun k i => .ok k i := by rw [hp]; cases refP (kts ts) (l.map (·.name)) i <;> rfl
 refine HCtr.of_body Tryz.func97 rfl tys_ok (by kernel_rfl) rfl ?_
 conv => whnf
 repeat (first | (refine ACode.st tys_ok rfl ?_; conv => whnf))
 refine ACall.of_m (refOff_m ts len i l ht hi hn) hp (fun _ => rfl) rfl (fun j e k h hk => ?_) (fun k i hq hp hi => ?_)
 ·conv => whnf
  exact ⟨_, _, _, h, hk, rfl, rfl⟩
 conv => whnf
 repeat (first | (refine ACode.st tys_ok rfl ?_; conv => whnf))
 exact ⟨_, _, hp, hi, rfl, rfl⟩
section
variable {α : Type} {ts : List Tok} {len i : Nat} {E : List AV} {H : List HO} {p : PR α} {f : Nat → Nat → PR α} {K : AV → KK} {X : XX} {A B C E' F : AV}
theorem _root_.Go.Av.ACall.of_office (l : List Off) (ht : TsOK ts) (hi : i ≤ ts.length) (hn : l.length ≤ 3000) (hp : p = (refP (kts ts) (l.map (·.name)) i).bind f)
  (hl : H[4]? = some (.cells [.sl 3 (toksA ts), .int .i64 i, .int .i64 len, A, B, C, .sl 7 (l.map offA), E', F]))
  (hX : ∀ (j : Nat) e k, p = .fail e k → k ≤ ts.length → updK H 4 (.cells [.sl 3 (toksA ts), .int .i64 j, .int .i64 len, A, B, C, .sl 7 (l.map offA), E', F]) fun H' => X (.panic (failA ts len e k)) E H')
  (hk : ∀ (a : Nat) (j : Nat), refP (kts ts) (l.map (·.name)) i = .ok a j → p = f a j → j ≤ ts.length → updK H 4 (.cells [.sl 3 (toksA ts), .int .i64 j, .int .i64 len, A, B, C, .sl 7 (l.map offA), E', F]) fun H' => K (.int .i64 (a : Nat)) E H') :
  ACall Tryz.prog 97 [.ptr 4 0] E H K X := by
 have h9 : ∀ vs : List Value, vs.length = 9 → ∃ x y z u, ∃ v : V6, vs = [x, y, z, v.a, v.b, v.c, u, v.e, v.f] := by
  intro vs hvs
  match vs, hvs with
  | [x, y, z, a, b, c, d, e, f], _ => exact ⟨x, y, z, d, ⟨a, b, c, d, e, f⟩, rfl⟩
 refine ACall.of_hr (l := 4) [false, false, false, true, true, true, false, true, true]
  (R := fun vs r H1 => ∃ a j, refP (kts ts) (l.map (·.name)) i = .ok a j ∧ j ≤ ts.length ∧ r = .int .i64 (a : Nat) ∧ ∃ x y z u, ∃ v : V6, vs = [x, y, z, v.a, v.b, v.c, u, v.e, v.f] ∧ H1 = PQ ts len j (.raw v.a) (.raw v.b) (.raw v.c) (.sl 7 (l.map offA)) (.raw v.e) (.raw v.f))
  (X' := fun vs r H1 => ∃ e k j, refP (kts ts) (l.map (·.name)) i = .fail e k ∧ k ≤ ts.length ∧ r = failA ts len e k ∧ ∃ x y z u, ∃ v : V6, vs = [x, y, z, v.a, v.b, v.c, u, v.e, v.f] ∧ H1 = PQ ts len j (.raw v.a) (.raw v.b) (.raw v.c) (.sl 7 (l.map offA)) (.raw v.e) (.raw v.f)) hl rfl ?_ (fun _ => rfl) ?_ ?_ ?_
 ·intro vs hvs
  obtain ⟨x, y, z, u, v, rfl⟩ := h9 vs hvs
  exact (office_h ts len i l v ht hi hn).mono' (fun r H1 ⟨a, j, q2, q3, q4, q5⟩ => ⟨a, j, q2, q3, q4, x, y, z, u, v, rfl, q5⟩) (fun r H1 ⟨e, k, j, q2, q3, q4, q5⟩ => ⟨e, k, j, q2, q3, q4, x, y, z, u, v, rfl, q5⟩)
 ·intro vs hvs
  obtain ⟨x, y, z, u, v, rfl⟩ := h9 vs hvs
  rfl
 ·rintro vs r H1 hvs ⟨a, j, q1, q2, rfl, x, y, z, u, v, rfl, rfl⟩
  exact ⟨[.sl 3 (toksA ts), .int .i64 j, .int .i64 len, A, B, C, .sl 7 (l.map offA), E', F], rfl, rfl, hk a j q1 (by rw [hp, q1]; rfl) q2⟩
 ·rintro vs r H1 hvs ⟨e, k, j, q1, q2, rfl, x, y, z, u, v, rfl, rfl⟩
  exact ⟨[.sl 3 (toksA ts), .int .i64 j, .int .i64 len, A, B, C, .sl 7 (l.map offA), E', F], rfl, rfl, hX j e k (by rw [hp, q1]; rfl) q2⟩
end
theorem ref_j {ts : List KT} {l : List Bs} {i j a : Nat} (h : refP ts l i = .ok a j) : j = i + 1 ∧ a < l.length := by
 unfold refP at h
 cases h1 : nameP ts i with
 | fail e k => rw [h1] at h; cases h
 | ok x i1 =>
  rw [h1, PR.ok_bind] at h
  have e1 := name_j h1
  have hb : ∀ (l : List Bs) (a : Nat), idxOf x l = some a → a < l.length := by
   intro l
   induction l with
   | nil => intro a h; cases h
   | cons y r ih =>
    intro a h
    unfold idxOf at h
    by_cases e : y = x
    ·simp [e] at h; simp; omega
    ·simp [e] at h
     obtain ⟨b, hb, rfl⟩ := h
     have := ih b hb
     simp; omega
  cases h2 : idxOf x l with
  | none => rw [h2] at h; cases h
  | some b => rw [h2] at h; cases h; exact ⟨e1, hb l _ h2⟩
set_option maxRecDepth 20000 in
theorem lines_m (ts : List Tok) (len i : Nat) (n : Nw) (v : V6) (ht : TsOK ts) (hi : i ≤ ts.length) (hn : n.lins = []) (ho : n.offs.length ≤ 3000) :
  HCtr Tryz.prog 57 [.ptr 4 0] (PQ ts len i (.raw v.a) (.raw v.b) (.raw v.c) (.sl 7 (n.offs.map offA)) nilA (.raw v.f))
   (fun r H => ∃ n' j, linsP (kts ts) ts.length n i = .ok n' j ∧ j ≤ ts.length ∧ r = .tuple [] ∧ H = PQ ts len j (.raw v.a) (.raw v.b) (.raw v.c) (.sl 7 (n.offs.map offA)) (.sl 6 (n'.lins.map linA)) (.raw v.f))
   (fun x H => ∃ e k j l, linsP (kts ts) ts.length n i = .fail e k ∧ k ≤ ts.length ∧ x = failA ts len e k ∧ H = PQ ts len j (.raw v.a) (.raw v.b) (.raw v.c) (.sl 7 (n.offs.map offA)) l (.raw v.f)) := by
 have hl := ht.len
 generalize hof : n.offs = offs at *
 generalize hp : linsP (kts ts) ts.length n i = p
 replace hp := hp.symm
 refine HCtr.of_body Tryz.func57 rfl tys_ok (by kernel_rfl) rfl ?_
 conv => whnf
 repeat (first | (refine ACode.st tys_ok rfl ?_; conv => whnf))
 refine ACode.nilCell 4 7 45 6 rfl rfl ?_
 refine ACode.loopD (fun x : Nat × Nat × Nw => mk 49 [(0, .ptr 4 0)]) (fun x => PQ ts len x.2.1 (.raw v.a) (.raw v.b) (.raw v.c) (.sl 7 (offs.map offA)) (.own 5 6 0 x.2.2.lins.length) (.raw v.f) ++ [.arr 45 6 (x.2.2.lins.map linA)])
  (fun x => p = linsP (kts ts) x.1 x.2.2 x.2.1 ∧ x.2.1 ≤ ts.length ∧ ts.length ≤ x.2.1 + x.1 ∧ x.2.2.lins.length ≤ x.2.1 ∧ x.2.2.offs = offs) (fun x => x.1)
  (fun x hx => ⟨rfl, ?_⟩) ⟨(ts.length, i, n), ?_⟩ (fun _ => rfl) fun x hx => ?_
 ·(conv => whnf)
  refine ⟨rfl, ?_⟩
  (conv => whnf)
  exact ⟨closed_map _ (fun _ => rfl) _, trivial⟩
 ·conv => whnf
  repeat (refine And.intro ?_ ?_; (focus (first | rfl | (simp; done) | (simp [hn, PQ, oneK]; done))); conv => whnf)
  exact ⟨hp, hi, by simp, by simp [hn], hof⟩
 ·obtain ⟨f, i, n⟩ := x
  obtain ⟨hp, hi, hf, hn, hof⟩ := hx
  simp only at hp hi hf hn hof
  repeat (first | (refine ACode.st tys_ok rfl ?_; conv => whnf))
  refine ACall.of_m0 (has_m ts len i w_line hl hi) (fun _ => rfl) rfl ?_
  conv => whnf
  repeat (first | (refine ACode.st tys_ok rfl ?_; conv => whnf))
  refine ⟨fun hs => ?_, fun hs => ?_⟩
  ·have hlt := sees_le hs
   obtain ⟨f, rfl⟩ : ∃ g, f = g + 1 := ⟨f - 1, by omega⟩
   unfold linsP linP at hp
   rw [hs, cond_true] at hp
   simp only [PR.bind_assoc, PR.ok_bind, hof] at hp
   repeat (first | (refine ACode.st tys_ok rfl ?_; conv => whnf))
   refine ACall.of_m (word_m ts len i w_line hl hi) hp (fun _ => rfl) rfl (fun j e k h hk => ?_) (fun _ i1 hq hp hi => ?_)
   ·conv => whnf
    refine ⟨⟨by simp, closed_map _ (fun _ => rfl) _⟩, ?_⟩; (conv => whnf); exact ⟨_, _, _, _, h, hk, rfl, rfl⟩
   conv => whnf
   repeat (first | (refine ACode.st tys_ok rfl ?_; conv => whnf))
   have e1 := expect_j hq
   refine ACall.of_m (name_m ts len i1 ht hi) hp (fun _ => rfl) rfl (fun j e k h hk => ?_) (fun x i2 hq hp hi => ?_)
   ·conv => whnf
    refine ⟨⟨by simp, closed_map _ (fun _ => rfl) _⟩, ?_⟩; (conv => whnf); exact ⟨_, _, _, _, h, hk, rfl, rfl⟩
   conv => whnf
   repeat (first | (refine ACode.st tys_ok rfl ?_; conv => whnf))
   have e2 := name_j hq
   refine ACall.of_m (symbol_m ts len i2 s_colon hl hi) hp (fun _ => rfl) rfl (fun j e k h hk => ?_) (fun _ i3 hq hp hi => ?_)
   ·conv => whnf
    refine ⟨⟨by simp, closed_map _ (fun _ => rfl) _⟩, ?_⟩; (conv => whnf); exact ⟨_, _, _, _, h, hk, rfl, rfl⟩
   conv => whnf
   repeat (first | (refine ACode.st tys_ok rfl ?_; conv => whnf))
   have e3 := expect_j hq
   refine ACall.of_office offs ht hi ho hp rfl (fun j e k h hk => ?_) (fun a i4 hq hp hi => ?_)
   ·conv => whnf
    refine ⟨⟨by simp, closed_map _ (fun _ => rfl) _⟩, ?_⟩; (conv => whnf); exact ⟨_, _, _, _, h, hk, rfl, rfl⟩
   conv => whnf
   repeat (first | (refine ACode.st tys_ok rfl ?_; conv => whnf))
   have e4 := ref_j hq
   refine ACall.of_m (symbol_m ts len i4 s_arrow hl hi) hp (fun _ => rfl) rfl (fun j e k h hk => ?_) (fun _ i5 hq hp hi => ?_)
   ·conv => whnf
    refine ⟨⟨by simp, closed_map _ (fun _ => rfl) _⟩, ?_⟩; (conv => whnf); exact ⟨_, _, _, _, h, hk, rfl, rfl⟩
   conv => whnf
   repeat (first | (refine ACode.st tys_ok rfl ?_; conv => whnf))
   have e5 := expect_j hq
   refine ACall.of_office offs ht hi ho hp rfl (fun j e k h hk => ?_) (fun b i6 hq hp hi => ?_)
   ·conv => whnf
    refine ⟨⟨by simp, closed_map _ (fun _ => rfl) _⟩, ?_⟩; (conv => whnf); exact ⟨_, _, _, _, h, hk, rfl, rfl⟩
   conv => whnf
   repeat (first | (refine ACode.st tys_ok rfl ?_; conv => whnf))
   have e6 := ref_j hq
   refine ACall.of_m (word_m ts len i6 w_at hl hi) hp (fun _ => rfl) rfl (fun j e k h hk => ?_) (fun _ i7 hq hp hi => ?_)
   ·conv => whnf
    refine ⟨⟨by simp, closed_map _ (fun _ => rfl) _⟩, ?_⟩; (conv => whnf); exact ⟨_, _, _, _, h, hk, rfl, rfl⟩
   conv => whnf
   repeat (first | (refine ACode.st tys_ok rfl ?_; conv => whnf))
   have e7 := expect_j hq
   refine ACall.of_m (number_m ts len i7 ht hi) hp (fun _ => rfl) rfl (fun j e k h hk => ?_) (fun at_ i8 hq hp hi => ?_)
   ·conv => whnf
    refine ⟨⟨by simp, closed_map _ (fun _ => rfl) _⟩, ?_⟩; (conv => whnf); exact ⟨_, _, _, _, h, hk, rfl, rfl⟩
   conv => whnf
   repeat (first | (refine ACode.st tys_ok rfl ?_; conv => whnf))
   have e8 := number_j hq
   refine ACall.of_m (word_m ts len i8 w_travel hl hi) hp (fun _ => rfl) rfl (fun j e k h hk => ?_) (fun _ i9 hq hp hi => ?_)
   ·conv => whnf
    refine ⟨⟨by simp, closed_map _ (fun _ => rfl) _⟩, ?_⟩; (conv => whnf); exact ⟨_, _, _, _, h, hk, rfl, rfl⟩
   conv => whnf
   repeat (first | (refine ACode.st tys_ok rfl ?_; conv => whnf))
   have e9 := expect_j hq
   refine ACall.of_m (number_m ts len i9 ht hi) hp (fun _ => rfl) rfl (fun j e k h hk => ?_) (fun travel i10 hq hp hi => ?_)
   ·conv => whnf
    refine ⟨⟨by simp, closed_map _ (fun _ => rfl) _⟩, ?_⟩; (conv => whnf); exact ⟨_, _, _, _, h, hk, rfl, rfl⟩
   conv => whnf
   repeat (first | (refine ACode.st tys_ok rfl ?_; conv => whnf))
   have e10 := number_j hq
   refine ACall.of_m (word_m ts len i10 w_load hl hi) hp (fun _ => rfl) rfl (fun j e k h hk => ?_) (fun _ i11 hq hp hi => ?_)
   ·conv => whnf
    refine ⟨⟨by simp, closed_map _ (fun _ => rfl) _⟩, ?_⟩; (conv => whnf); exact ⟨_, _, _, _, h, hk, rfl, rfl⟩
   conv => whnf
   repeat (first | (refine ACode.st tys_ok rfl ?_; conv => whnf))
   have e11 := expect_j hq
   refine ACall.of_m (number_m ts len i11 ht hi) hp (fun _ => rfl) rfl (fun j e k h hk => ?_) (fun load i12 hq hp hi => ?_)
   ·conv => whnf
    refine ⟨⟨by simp, closed_map _ (fun _ => rfl) _⟩, ?_⟩; (conv => whnf); exact ⟨_, _, _, _, h, hk, rfl, rfl⟩
   conv => whnf
   repeat (first | (refine ACode.st tys_ok rfl ?_; conv => whnf))
   have e12 := number_j hq
   refine ACall.of_m (symbol_m ts len i12 s_semi hl hi) hp (fun _ => rfl) rfl (fun j e k h hk => ?_) (fun _ i13 hq hp hi => ?_)
   ·conv => whnf
    refine ⟨⟨by simp, closed_map _ (fun _ => rfl) _⟩, ?_⟩; (conv => whnf); exact ⟨_, _, _, _, h, hk, rfl, rfl⟩
   conv => whnf
   repeat (first | (refine ACode.st tys_ok rfl ?_; conv => whnf))
   have e13 := expect_j hq
   refine ACode.drawI [] [8, 12] tys_ok (by kernel_rfl) (by kernel_rfl) ?_
   conv => whnf
   refine ⟨rfl, ?_⟩
   conv => whnf
   refine ⟨⟨by simp, by simp; omega⟩, ?_⟩
   conv => whnf
   repeat (first | (refine ACode.st tys_ok rfl ?_; conv => whnf))
   refine ⟨(f, i13, { n with lins := n.lins ++ [⟨x, a, b, at_, travel, load⟩] }), ?_⟩
   conv => whnf
   repeat (refine And.intro ?_ ?_; (focus (first | rfl | (simp; done) | (simp [linA]; done))); conv => whnf)
   exact ⟨⟨by rw [hp, hof], hi, by simp only; omega, by simp; omega, hof⟩, by simp⟩
  ·have hp : p = .ok n i := by
    rw [hp]; cases f <;> simp [linsP, hs]
   repeat (first | (refine ACode.st tys_ok rfl ?_; conv => whnf))
   refine ⟨⟨by simp, closed_map _ (fun _ => rfl) _⟩, ?_⟩
   conv => whnf
   exact ⟨_, _, hp, hi, rfl, rfl⟩
end Go.Proofs.YtbedaolpfedacaaGreatDoor
