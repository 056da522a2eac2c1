/- The law of Order. -/
import Derived.Test.YtdadkhcdoaeabaaGreatDoorQy
set_option linter.unusedVariables false
set_option maxRecDepth 100000
open List renaming mem_reverse → Ah, mem_map → Ao, length_map → Aq, mem_singleton → AO, all_eq_true → AR, getElem_mem → AZ, mem_append → Ba
open Go.IntKind renaming signed → Bc, bits → Bu, min → Bv, max → BC
open Bool renaming and_true → Bh
open And renaming intro → Bq
namespace Go.Proofs.YtdadkhcdoaeabaaGreatDoor
open Go.Av Go.Shelf Go.RowKit
open Rr.Pl (Pt Ad St Ch Bs My Mw E6 Lq)
open Rr (JH AY)
open Rr.Pl (DD Bm)
def bk(F:List Ff.Fm)(k:Nat):List AV:=(F.reverse.take k).map Ff.Fm.v
theorem rN{F:List Ff.Fm}{k:Nat}(h:k≤F.length):(bk F k).length=k:=by unfold bk;simp;omega
theorem lB(F:List Ff.Fm)(k:Nat):∀e∈bk F k,closed e=true:=by
 intro e he;obtain⟨f,_,rfl⟩:=Ao.1 he;rfl
theorem wX{F:List Ff.Fm}{k:Nat}(h:k<F.length):bk F k++[(F[F.length-1-k]'(by omega)).v]=bk F (k+1):=by
 unfold bk;rw[List.take_succ_eq_append_getElem (by simpa using h),List.map_append,List.getElem_reverse]
 rfl
theorem SQ(F:List Ff.Fm):∀e∈F.map Ff.Fm.v,closed e=true:=by
 intro e he;obtain⟨f,_,rfl⟩:=Ao.1 he;rfl
theorem kR(F:List Ff.Fm):∀e∈F.map Ff.Fm.v,UJ e=true:=by
 intro e he;obtain⟨f,_,rfl⟩:=Ao.1 he;rfl
theorem zV(x:Rs):jQ x.v=true:=by
 have h:∀l:List Pt,(l.map Pt.v).all (λe=>e.cells.all Np)=true:=λl=>AR.2 λe he=>by
  obtain⟨p,_,rfl⟩:=Ao.1 he;rfl
 show([AV.int .i64 x.k,VD x.ps,VD x.ch,.int .i64 x.re].all Sk)=true
 simp only[List.all_cons,List.all_nil,Bh];show(true&&((x.ps.map Pt.v).all (λe=>e.cells.all Np)&&((x.ch.map Pt.v).all (λe=>e.cells.all Np)&&true)))=true
 rw[h,h];rfl
theorem XR(F:List Ff.Fm)(k n:Nat)(r:List Ch)(l:List Od)(day:Int)(ls:List Bs)(m:Int)(x:Rs):(Ap [.own k 2 0 n,E6 r,H7 l,.int .i64 day,Ff.A3 ls,.int .i64 m]||Bi x.v||(Sc [.own k 2 0 n,E6 r,H7 l,.int .i64 day,Ff.A3 ls,.int .i64 m] [Zc F,E6 r,H7 l,.int .i64 day,Ff.A3 ls,.int .i64 m]&&jQ x.v))=true:=by
 have h:Sc [.own k 2 0 n,E6 r,H7 l,.int .i64 day,Ff.A3 ls,.int .i64 m] [Zc F,E6 r,H7 l,.int .i64 day,Ff.A3 ls,.int .i64 m]=true:=by
  show((F.map Ff.Fm.v).all UJ&&true)=true
  rw[AR.2 (kR F)];rfl
 rw[h,zV,Bh,Bool.or_true]
theorem iT(F:List Ff.Fm)(r:List Ch)(l:List Od)(day:Int)(ls:List Bs)(a:Int)(ha:DF .u8 a):Aw Tryz.prog 8 [Zc F,E6 r,H7 l,.int .i64 day,Ff.A3 ls,.int .u8 a] (λx=>x=.bool true):=by
 refine Aw.Ai Tryz.func8 rfl Ae (by kernel_rfl) ?_
 conv=>whnf
 repeat(refine sT rfl ?_;conv=>whnf)
 refine cS (Iw) rfl ?_;conv=>whnf
 repeat(refine sT rfl ?_;conv=>whnf)
 refine cS (Dg F r l ls) rfl ?_;conv=>whnf
 repeat(refine sT rfl ?_;conv=>whnf)
 refine⟨λh=>?_,λh=>?_⟩;rotate_left
 ·conv=>whnf
  repeat(refine sT rfl ?_;conv=>whnf)
 ·have h:F7 F r l ls=true:=by simpa using h
  obtain⟨h1,h2,h3⟩:=GN h;obtain⟨a0,a1,w1,m0,m6⟩:=QS ha;conv=>whnf
  repeat(refine sT rfl ?_;conv=>whnf)
  refine⟨λg7=>?_,λg7=>?_⟩;rotate_left
  ·conv=>whnf
   repeat(refine sT rfl ?_;conv=>whnf)
  have g7:F.length≤7:=by have:=of_decide_eq_false g7;rw[Aq]at this;omega
  conv=>whnf
  repeat(refine sT rfl ?_;conv=>whnf)
  refine⟨λg0=>?_,λg0=>?_⟩
  ·conv=>whnf
   repeat(refine sT rfl ?_;conv=>whnf)
  have g0:0<F.length:=by have:=of_decide_eq_false g0;rw[Aq]at this;omega
  conv=>whnf
  repeat(refine sT rfl ?_;conv=>whnf)
  refine Ac.OD 14 45 2 rfl ?_;refine Ac.AJ (λk:Nat=>mk 88 [(0,Zc F),(1,E6 r),(2,H7 l),(3,.int .i64 day),(4,Ff.A3 ls),(5,.int .u8 a),(13,.bool true),(14,.own 0 2 0 k),(15,.int .i64 ((F.length:Int)-1-k))]) (λk=>[.arr 45 2 (bk F k)]) (λk=>k≤F.length) (λk=>F.length-k) (λk _=>⟨rfl,lB F k,trivial⟩) ⟨0,?_⟩ (λ_=>rfl) λk hk=>?_
  ·conv=>whnf
   repeat(refine Bq ?_ ?_;(focus (first|rfl|(simp;done)|((rw[Aq,Cy _ _ (by unfold DF Bv BC Bu Bc;simp;omega)];omega);done)));conv=>whnf)
   first|exact Nat.zero_le _|exact⟨rfl,Nat.zero_le _⟩
  ·repeat(refine sT rfl ?_;conv=>whnf)
   refine⟨λg=>?_,λg=>?_⟩
   ·have g:k<F.length:=by have:=of_decide_eq_true g;omega
    have Bj:Wr .i64 ((F.length:Int)-1-k-1)=(F.length:Int)-1-((k+1:Nat):Int):=by rw[Cy _ _ (by unfold DF Bv BC Bu Bc;simp;omega)];omega
    have hs:=wX g;have hlen:=rN hk;conv=>whnf
    repeat(refine sT rfl ?_;conv=>whnf)
    refine⟨by omega,(F[F.length-1-k]'(by omega)).v,by rw[show((F.length:Int)-1-k).toNat=F.length-1-k by omega];simp[show F.length-1-k<F.length by omega],?_⟩
    conv=>whnf
    repeat(refine sT rfl ?_;conv=>whnf)
    refine⟨rfl,?_⟩;conv=>whnf
    refine⟨⟨hlen.symm,by simp[hlen];omega⟩,?_⟩
    rw[show bk F k++[AV.agg [.str (F[F.length-1-k]'(by omega)).name,.sl 1 ((F[F.length-1-k]'(by omega)).lines.map Ff.D2)]]=bk F (k+1)from hs]
    conv=>whnf
    repeat(refine sT rfl ?_;conv=>whnf)
    refine⟨k+1,?_⟩;conv=>whnf
    repeat(refine Bq ?_ ?_;(focus (first|rfl|(simp;done)|(first|exact Bj|(rw[rN g]);done)));conv=>whnf)
    exact⟨g,by omega⟩
   ·have g:k=F.length:=by have:=of_decide_eq_false g;omega
    subst g;have e1:bk F F.length=F.reverse.map Ff.Fm.v:=by unfold bk;rw[List.take_of_length_le (by simp)]
    rw[e1];have p1:=Ps (G:=F.reverse) h2 (λf=>Ah.symm) (by simp;omega) day ls m0 m6
    have p2:=Ps (G:=F.reverse++[F[0]]) h2 (λf=>⟨λh=>List.mem_append_left _ (Ah.2 h),λh=>(Ba.1 h).elim Ah.1 λh=>by rw[AO.1 h];exact AZ _⟩) (by simp;omega) day ls m0 m6
    have f1:=YF (G:=F.reverse) h1 (λf=>Ah.1) (by simp;omega)
    have f2:=YF (G:=F.reverse++[F[0]]) h1 (λf h=>(Ba.1 h).elim Ah.1 λh=>by rw[AO.1 h];exact AZ _) (by simp;omega)
    conv=>whnf
    repeat(refine sT rfl ?_;conv=>whnf)
    refine⟨by decide,?_⟩
    rw[w1];generalize hm:Int.tmod a 7=m at*;conv=>whnf
    repeat(refine sT rfl ?_;conv=>whnf)
    refine cS (Em h1 day m) rfl ?_;conv=>whnf
    repeat(refine sT rfl ?_;conv=>whnf)
    refine Ac.yT [0,1,2,3,4,5,6,7,8,9,10,11,12,13,14,15,16,17,18,20,21,22,23,24,19,25,26,27,28] [18] [19] [13,20,21,22,23,24] Ae mO (by kernel_rfl) ?_
    conv=>whnf
    refine Bq (λh=>?_) (λh=>absurd h (by simp))
    conv=>whnf
    refine⟨⟨by simp,SQ _⟩,_,⟨Em f1 day m,XR ..⟩,?_⟩
    conv=>whnf
    refine⟨_,⟨GZ (Bp h1).1 (Bp f1).1 r l l day ls m m,rfl⟩,?_⟩;conv=>whnf
    refine⟨λ_=>?_,λh=>absurd p1 (of_decide_eq_false h)⟩
    conv=>whnf
    refine⟨rfl,?_⟩;conv=>whnf
    refine⟨⟨rfl,rfl⟩,?_⟩;conv=>whnf
    refine⟨by decide,F[0].v,by simp[g0],?_⟩
    conv=>whnf
    refine⟨rfl,?_⟩;conv=>whnf
    refine⟨⟨rfl,rfl⟩,?_⟩;conv=>whnf
    refine⟨rfl,?_⟩;conv=>whnf
    refine⟨⟨rfl,rfl⟩,?_⟩;conv=>whnf
    refine⟨rfl,?_⟩;conv=>whnf
    refine⟨⟨rfl,rfl⟩,?_⟩;conv=>whnf
    refine⟨rfl,?_⟩;conv=>whnf
    refine⟨⟨rfl,rfl⟩,?_⟩;conv=>whnf
    refine⟨rfl,?_⟩;conv=>whnf
    refine⟨⟨rfl,rfl⟩,?_⟩;conv=>whnf
    refine⟨⟨by simp,by simp;omega⟩,?_⟩
    rw[show List.map Ff.Fm.v F.reverse++[AV.agg [.str F[0].name,.sl 1 (F[0].lines.map Ff.D2)]]=(F.reverse++[F[0]]).map Ff.Fm.v by simp[Ff.Fm.v]]
    conv=>whnf
    refine⟨⟨by simp,SQ _⟩,_,⟨Em f2 day m,XR ..⟩,?_⟩
    conv=>whnf
    refine⟨_,⟨GZ (Bp h1).1 (Bp f2).1 r l l day ls m m,rfl⟩,?_⟩;conv=>whnf
    refine⟨λ_=>?_,λh=>absurd p2 (of_decide_eq_false h)⟩
    conv=>whnf
    repeat(refine sT rfl ?_;conv=>whnf)
end Go.Proofs.YtdadkhcdoaeabaaGreatDoor