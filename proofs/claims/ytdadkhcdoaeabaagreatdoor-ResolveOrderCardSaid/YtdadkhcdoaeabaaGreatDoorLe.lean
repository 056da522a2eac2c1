/- The law of Order. -/
import Derived.Test.YtdadkhcdoaeabaaGreatDoorQy
set_option linter.unusedVariables false
set_option maxRecDepth 100000
set_option linter.unusedSectionVars false
set_option linter.unusedSimpArgs false
open List renaming mem_reverse → Af, mem_map → Ak, length_map → Ax, mem_singleton → AP, all_eq_true → A0, getElem_mem → Bh, mem_append → Bl
open Go.IntKind renaming signed → Bm, bits → BI, min → BM, max → BW
open Bool renaming and_true → Bq
open And renaming intro → Bv
namespace Go.Proofs.YtdadkhcdoaeabaaGreatDoor
open Go.Av Go.Shelf Go.RowKit
open Rr.Pl (Pt Ad St Ch Bs Mv HT D5 KD)
open Rr (E6 Ar)
open Rr.Pl (CA AW)
def bk(F:List Ff.Fm)(k:Nat):List AV:=(F.reverse.take k).map Ff.Fm.v
theorem xI{F:List Ff.Fm}{k:Nat}(h:k<=F.length):(bk F k).length=k:=by unfold bk;simp;omega
theorem qL(F:List Ff.Fm)(k:Nat):∀e∈bk F k,closed e=true:=by
 intro e he;obtain⟨f,_,rfl⟩:=Ak.1 he;rfl
theorem Zbn{F:List Ff.Fm}{k:Nat}(h:k<F.length):bk F k++[(F[F.length-1-k]'(by omega)).v]=bk F (k+1):=by
 unfold bk;rw[List.take_succ_eq_append_getElem (by simpa using h),List.map_append,List.getElem_reverse]
 rfl
theorem UC(F:List Ff.Fm):∀e∈F.map Ff.Fm.v,closed e=true:=by
 intro e he;obtain⟨f,_,rfl⟩:=Ak.1 he;rfl
theorem pX(F:List Ff.Fm):∀e∈F.map Ff.Fm.v,Wu e=true:=by
 intro e he;obtain⟨f,_,rfl⟩:=Ak.1 he;rfl
theorem ZcP(x:Rs):oT x.v=true:=by
 have h:∀l:List Pt,(l.map Pt.v).all (λe=>e.cells.all OX)=true:=λl=>A0.2 λe he=>by
  obtain⟨p,_,rfl⟩:=Ak.1 he;rfl
 show([AV.int .i64 x.k,Tv x.ps,Tv x.ch,.int .i64 x.re].all Ud)=true
 simp only[List.all_cons,List.all_nil,Bq];show(true&&((x.ps.map Pt.v).all (λe=>e.cells.all OX)&&((x.ch.map Pt.v).all (λe=>e.cells.all OX)&&true)))=true
 rw[h,h];rfl
theorem ZN(F:List Ff.Fm)(k n:Nat)(r:List Ch)(l:List Od)(day:Int)(ls:List Bs)(m:Int)(x:Rs):(An [.own k 2 0 n,D5 r,Hr l,.int .i64 day,Ff.AQ ls,.int .i64 m]||BN x.v||(T3 [.own k 2 0 n,D5 r,Hr l,.int .i64 day,Ff.AQ ls,.int .i64 m] [Vc F,D5 r,Hr l,.int .i64 day,Ff.AQ ls,.int .i64 m]&&oT x.v))=true:=by
 have h:T3 [.own k 2 0 n,D5 r,Hr l,.int .i64 day,Ff.AQ ls,.int .i64 m] [Vc F,D5 r,Hr l,.int .i64 day,Ff.AQ ls,.int .i64 m]=true:=by
  show((F.map Ff.Fm.v).all Wu&&true)=true
  rw[A0.2 (pX F)];rfl
 rw[h,ZcP,Bq,Bool.or_true]
theorem nT(F:List Ff.Fm)(r:List Ch)(l:List Od)(day:Int)(ls:List Bs)(a:Int)(ha:DJ .u8 a):AO Tryz.prog 8 [Vc F,D5 r,Hr l,.int .i64 day,Ff.AQ ls,.int .u8 a] (λx=>x=.bool true):=by
 refine kB Tryz.func8 rfl ?_;refine kC (F1) ?_;refine kC (Ct F r l ls) ?_;refine⟨λh=>?_,λh=>?_⟩;rotate_left
 ·exact GA
 ·have h:FH F r l ls=true:=by simpa using h
  obtain⟨h1,h2,h3⟩:=FG h;obtain⟨a0,a1,w1,m0,m6⟩:=Ie ha;refine kW ?_;refine⟨λg7=>?_,λg7=>?_⟩;rotate_left
  ·exact GA
  have g7:F.length<=7:=by have:=of_decide_eq_false g7;rw[Ax]at this;omega
  refine kW ?_;refine⟨λg0=>?_,λg0=>?_⟩
  ·exact GA
  have g0:0<F.length:=by have:=of_decide_eq_false g0;rw[Ax]at this;omega
  refine kW ?_;refine Aa.Qc 14 45 2 rfl ?_;refine Aa.Aw (λk:Nat=>mk 88 [(0,Vc F),(1,D5 r),(2,Hr l),(3,.int .i64 day),(4,Ff.AQ ls),(5,.int .u8 a),(13,.bool true),(14,.own 0 2 0 k),(15,.int .i64 ((F.length:Int)-1-k))]) (λk=>[.arr 45 2 (bk F k)]) (λk=>k<=F.length) (λk=>F.length-k) (λk _=>⟨rfl,qL F k,trivial⟩) ⟨0,?_⟩ (λ_=>rfl) λk hk=>?_
  ·conv=>whnf
   repeat(refine Bv ?_ ?_;(focus (first|rfl|(simp;done)|((rw[Ax,DI _ _ (by unfold DJ BM BW BI Bm;simp;omega)];omega);done)));conv=>whnf)
   first|exact Nat.zero_le _|exact⟨rfl,Nat.zero_le _⟩
  ·refine kR ?_;refine⟨λg=>?_,λg=>?_⟩
   ·have g:k<F.length:=by have:=of_decide_eq_true g;omega
    have A7:Wr .i64 ((F.length:Int)-1-k-1)=(F.length:Int)-1-((k+1:Nat):Int):=by rw[DI _ _ (by unfold DJ BM BW BI Bm;simp;omega)];omega
    have hs:=Zbn g;have hlen:=xI hk;refine kW ?_;refine⟨by omega,(F[F.length-1-k]'(by omega)).v,by rw[show((F.length:Int)-1-k).toNat=F.length-1-k by omega];simp[show F.length-1-k<F.length by omega],?_⟩
    refine kW ?_;refine⟨rfl,?_⟩;conv=>whnf
    refine⟨⟨hlen.symm,by simp[hlen];omega⟩,?_⟩
    rw[show bk F k++[AV.agg [.str (F[F.length-1-k]'(by omega)).name,.sl 1 ((F[F.length-1-k]'(by omega)).lines.map Ff.CP)]]=bk F (k+1)from hs]
    refine kW ?_;refine⟨k+1,?_⟩;conv=>whnf
    repeat(refine Bv ?_ ?_;(focus (first|rfl|(simp;done)|(first|exact A7|(rw[xI g]);done)));conv=>whnf)
    exact⟨g,by omega⟩
   ·have g:k=F.length:=by have:=of_decide_eq_false g;omega
    subst g;have e1:bk F F.length=F.reverse.map Ff.Fm.v:=by unfold bk;rw[List.take_of_length_le (by simp)]
    rw[e1];have p1:=Q4 (G:=F.reverse) h2 (λf=>Af.symm) (by simp;omega) day ls m0 m6
    have p2:=Q4 (G:=F.reverse++[F[0]]) h2 (λf=>⟨λh=>List.mem_append_left _ (Af.2 h),λh=>(Bl.1 h).elim Af.1 λh=>by rw[AP.1 h];exact Bh _⟩) (by simp;omega) day ls m0 m6
    have f1:=bA (G:=F.reverse) h1 (λf=>Af.1) (by simp;omega)
    have f2:=bA (G:=F.reverse++[F[0]]) h1 (λf h=>(Bl.1 h).elim Af.1 λh=>by rw[AP.1 h];exact Bh _) (by simp;omega)
    refine kW ?_;refine⟨by decide,?_⟩
    rw[w1];generalize hm:Int.tmod a 7=m at*;refine kW ?_;refine kC (DR h1 day m) ?_;refine Aa.wS [0,1,2,3,4,5,6,7,8,9,10,11,12,13,14,15,16,17,18,20,21,22,23,24,19,25,26,27,28] [18] [19] [13,20,21,22,23,24] Ag mO (by kernel_rfl) ?_
    conv=>whnf
    refine Bv (λh=>?_) (λh=>absurd h (by simp))
    conv=>whnf
    refine⟨⟨by simp,UC _⟩,_,⟨DR f1 day m,ZN ..⟩,?_⟩
    conv=>whnf
    refine⟨_,⟨Hl (A5 h1).1 (A5 f1).1 r l l day ls m m,rfl⟩,?_⟩;conv=>whnf
    refine⟨λ_=>?_,λh=>absurd p1 (of_decide_eq_false h)⟩
    conv=>whnf
    refine⟨rfl,?_⟩;conv=>whnf
    refine⟨⟨rfl,rfl⟩,?_⟩;conv=>whnf
    refine⟨by decide,F[0].v,by simp[g0],?_⟩
    conv=>whnf
    refine⟨rfl,?_⟩;conv=>whnf
    refine⟨⟨rfl,rfl⟩,?_⟩;conv=>whnf
    refine⟨rfl,?_⟩;conv=>whnf
    refine⟨⟨rfl,rfl⟩,?_⟩;conv=>whnf
    refine⟨rfl,?_⟩;conv=>whnf
    refine⟨⟨rfl,rfl⟩,?_⟩;conv=>whnf
    refine⟨rfl,?_⟩;conv=>whnf
    refine⟨⟨rfl,rfl⟩,?_⟩;conv=>whnf
    refine⟨rfl,?_⟩;conv=>whnf
    refine⟨⟨rfl,rfl⟩,?_⟩;conv=>whnf
    refine⟨⟨by simp,by simp;omega⟩,?_⟩
    rw[show List.map Ff.Fm.v F.reverse++[AV.agg [.str F[0].name,.sl 1 (F[0].lines.map Ff.CP)]]=(F.reverse++[F[0]]).map Ff.Fm.v by simp[Ff.Fm.v]]
    conv=>whnf
    refine⟨⟨by simp,UC _⟩,_,⟨DR f2 day m,ZN ..⟩,?_⟩
    conv=>whnf
    refine⟨_,⟨Hl (A5 h1).1 (A5 f2).1 r l l day ls m m,rfl⟩,?_⟩;conv=>whnf
    refine⟨λ_=>?_,λh=>absurd p2 (of_decide_eq_false h)⟩
    exact GA
end Go.Proofs.YtdadkhcdoaeabaaGreatDoor