/- The law of Renamed. -/
import Derived.Test.YtdadkhcdoaeabaaGreatDoorLh
import Derived.Test.YtdadkhcdoaeabaaGreatDoorLf
set_option linter.unusedVariables false
set_option maxRecDepth 100000
set_option linter.unusedSectionVars false
set_option linter.unusedSimpArgs false
open List renaming length_map → Ak, getElem_mem → AP
open And renaming intro → Ax
namespace Go.Proofs.YtdadkhcdoaeabaaGreatDoor
open Go.Av Go.Shelf Go.RowKit
open Rr.Pl (Pt Ad St Ch Bs Mv HT D5 KD Has bV BC Be)
open Rr (E6 Ar)
open Rr.Pl (CA AW)
def ZaR(r:List Ch)(day:Int)(p:Pt)(t na:Bs):List Ch:=r++[R9 day p.s t,Zbs day p.s na]
theorem ZaY{F:List Ff.Fm}{r:List Ch}(h:Good F r []){day:Int}(hd:-1000000<=day)(X1:day<=1000000){p:Pt}{s:St}(hs:Has (E6 r day) p s){t:Bs}(hm:Ar (ZaR r day p t s.na)=true)(O:List Of):
  ∃s2:St,s2.na=t/\s2.sh=s.sh/\s2.co=s.co/\AW (ZaR r day p t s.na) day p=(bV s2 p,0)/\Yc O (ZaR r day p t s.na) day p=Yc O r day p/\
   ∀(f:Ff.Fm)(x:Ff.Ad),f∈F->(x.st=t\/x.st=s.na)->x.nu=p.n+s.sh->x.co=s.co->wrote f x=true->∀m:Int,0<=m->m<=6->Zcr p (Ai F (ZaR r day p t s.na) [] day (Ff.B4 f x).1 m):=by
 have h2:=renamed h.r hs hm;refine⟨{s with na:=t,al:=s.al++[s.na]},rfl,rfl,rfl,H8 hm h2,?_,λf x hf Af hnu hco hw m m0 m6=>?_⟩
 ·rw[QF (H8 hm h2),QF (H8 h.r hs)];rfl
 ·refine xM (MK ⟨h.f,h.n,hm,h.o⟩ hd X1 hf h2 ?_ hnu hco hw m0 m6) (UA day p);rcases Af with e|e;·rw[e];exact Rr.Pl.TM _
  ·rw[e];exact Rr.Pl.ZbI (by simp)
set_option maxHeartbeats 4000000 in
theorem Zbv(F:List Ff.Fm)(r:List Ch)(n:Nt)(p:Pt)(t:Bs)(a b:Int)(ha:DJ .u8 a)(hb:DJ .u8 b)(hn:n.O.length<=9223372036854775807):AO Tryz.prog 4 [Vc F,D5 r,n.v,p.v,.str t,.int .u8 a,.int .u8 b] (λx=>x=.bool true):=by
 refine kB Tryz.func4 rfl ?_;refine kC (fH) ?_;refine Aj.args (args':=[Vc F,D5 r,Hr [],Ff.AQ []]) ⟨rfl,rfl,trivial,trivial,trivial⟩ ?_;refine kC (Il F r [] []) ?_;refine⟨λh=>?_,λh=>?_⟩;rotate_left
 ·exact GA
 have h:Im F r [] []=true:=by simpa using h
 obtain⟨hfa,h2,h3,h0⟩:=aV h;clear h;refine kR ?_;refine⟨λMP=>?_,λh=>?_⟩;rotate_left
 ·exact GA
 refine kR ?_;refine⟨λZg8=>?_,λh=>?_⟩;rotate_left
 ·exact GA
 refine kR ?_;refine kC (XA n hn) ?_;refine⟨λho=>?_,λh=>?_⟩;rotate_left
 ·exact GA
 refine kR ?_;refine⟨λh=>?_,λht=>?_⟩
 ·exact GA
 have MP:0<r.length:=by have:=of_decide_eq_false MP;rw[Ak]at this;omega
 have Zg8:r.length<=58:=by have:=of_decide_eq_false Zg8;rw[Ak]at this;omega
 have ho:Ja n.O=true:=by simpa using ho
 have vO:Wr .i64 ((r.length:Int)-1)=((r.length-1:Nat):Int):=by
  rw[Em (by omega)]
  omega
 have hgl:(r.map Ch.v)[((r.length-1:Nat):Int).toNat]?=some (r[r.length-1]'(by omega)).v:=by simp[show r.length-1<r.length by omega]
 obtain⟨hdb,_⟩:=Rr.Pl.Zer h2.r (AP (show r.length-1<r.length by omega))
 generalize r[r.length-1]'(by omega)=c at*
 obtain⟨Qt,X1⟩:=Rr.Pl.Zhm.1 hdb;have hR:=λ(s:St) hs hm=>ZaY h2 Qt X1 (p:=p) (s:=s) hs (t:=t) hm n.O
 refine kW ?_;rw[Ak,vO];refine⟨by omega,_,hgl,?_⟩
 refine kW ?_;generalize c.da=day at*;refine kC (Rr.Dx r day p) ?_;by_cases hnm:(AW r day p).2=0;rotate_left
 ·refine⟨λ_=>?_,λh=>absurd h (by simp[hnm])⟩
  exact GA
 obtain⟨s,hs,Um⟩:=TO h2.r hnm;rw[Um];refine Ax (λh=>absurd h (by simp)) (λh=>?_)
 conv=>whnf
 refine kW ?_;have hR:=hR s hs;refine Aa.wS [0,1,3,4,5,6,7,8,9,10,11,12,13,14,2,15,16] [14] [2,15] [3,4,5,6,7,8,9,10,11,12,13,14] Ag mO (by kernel_rfl) ?_
 conv=>whnf
 repeat(first|(refine⟨rfl,?_⟩;(conv=>whnf);refine⟨⟨rfl,rfl⟩,?_⟩;(conv=>whnf)))
 refine⟨⟨rfl,by simp;omega⟩,?_⟩
 conv=>whnf
 refine⟨⟨rfl,by simp;omega⟩,?_⟩
 conv=>whnf
 have em:[]++List.map Ch.v r++[AV.agg [.int .i64 day,.int .i64 2,.int .i64 p.s,.str [],.str [],.str t,.int .i64 0,.int .i64 0,.int .i64 0],AV.agg [.int .i64 day,.int .i64 5,.int .i64 p.s,.str [],.str [],.str (bV s p,(0:Int)).fst.st,.int .i64 0,.int .i64 0,.int .i64 0]]=List.map Ch.v (ZaR r day p t s.na):=by simp[ZaR,R9,Zbs,Ch.v,bV]
 refine Aa.freeze 3 ?_;conv=>whnf
 refine⟨Zed em,?_⟩;conv=>whnf
 repeat(refine⟨(by first|rfl|(simp;done):(_:Nat)=_),?_⟩;conv=>whnf)
 rw[em];clear em;generalize ZaR r day p t s.na=more at hR⊢;refine kR ?_;refine kC (Rr.J5 more) ?_;refine⟨λh1=>?_,λh1=>?_⟩
 ·exact GA
 have hm:Ar more=true:=by
  have h1:(Rr.Pl.Ca more&&Ar more)=true:=by simpa using h1
  rw[Bool.and_eq_true]at h1;exact h1.2
 obtain⟨s2,q1,q2,q3,q4,q5,q6⟩:=hR hm;refine kW ?_;refine kC (Rr.Dx more day p) ?_;rw[q4]
 obtain⟨o1,o2⟩:n.O.length<=20/\∀o∈n.O,o.co.length<=20:=by
  unfold Ja at ho;simpa using ho
 have hdv:=λR=>G5 n R day p (by omega) (λo h=>by have:=o2 o h;omega)
 have hdm:=hdv more;rw[q5]at hdm;have yK:(bV s2 p).st=t:=q1;have yJ:(bV s2 p).nu=(bV s p).nu:=by show p.n+s2.sh=p.n+s.sh;rw[q2]
 have hco:(bV s p).co.length<=8:=aK h2.r hs;have ZkP:(bV s2 p).co.length<=8:=by show s2.co.length<=8;rw[q3];exact hco
 have hA:(bV s p).st=s.na:=rfl;have hB:(bV s p).nu=p.n+s.sh:=rfl;have hC:(bV s p).co=s.co:=rfl;have hC2:(bV s2 p).co=s.co:=q3;generalize bV s p=A at*;generalize bV s2 p=A2 at*;refine Aa.draw [] Ag mO (by kernel_rfl) ?_
 conv=>whnf
 refine Ax (λh=>absurd h (by simp)) (λh=>?_)
 conv=>whnf
 refine⟨λh=>absurd h (by simp[yK]),λ_=>?_⟩
 conv=>whnf
 refine⟨λh=>absurd h (by simp[yJ]),λ_=>?_⟩
 conv=>whnf
 refine⟨_,⟨hdm,rfl⟩,?_⟩;conv=>whnf
 refine⟨_,⟨hdv r,rfl⟩,?_⟩;conv=>whnf
 refine Ax (λh=>absurd h (by simp)) (λh=>?_)
 conv=>whnf
 refine kW ?_;obtain⟨e1,e2,e3,e4⟩:=A5 hfa;obtain⟨a0,a1,w1,_,_⟩:=Ie ha;obtain⟨b0,b1,w2,m0,m6⟩:=Ie hb;obtain⟨k,hk,pA⟩:=Zc5 a0 h0;have CM:(F.map Ff.Fm.v)[((k:Nat):Int).toNat]?=some F[k].v:=by simp[hk]
 have Sh:=AP hk;rw[w1,Ak];refine⟨by omega,?_⟩
 rw[pA];conv=>whnf
 refine⟨by omega,_,CM,?_⟩
 refine kW ?_;have hw:=λA h=>W7 F[k] A (e4 F[k] Sh) h
 have Lj:=λA=>I4 F[k] (HY F[k] A) (by have:=(Da (e4 F[k] Sh)).2.2.2.1;omega)
 have go:=λ(A:Ad) (Af:A.st=t\/A.st=s.na) (hnu:A.nu=p.n+s.sh) (hco:A.co=s.co) (h:(Gd F[k] A).2=true)=>Ax (W6 h).1 (q6 F[k] (HY F[k] A) Sh Af hnu hco (W6 h).2 (b.tmod 7) m0 m6)
 have g1:=go A (.inr hA) hB hC;have g2:=go A2 (.inl yK) (yJ.trans hB) hC2;refine kC (hw A hco) ?_;refine kC (hw A2 ZkP) ?_
 have Gt:=λ(ls:List Bs) (l1:ls.length<=1000) (l2:∀s∈ls,s.length<=1000)=>
   (Fw ⟨F,more,[],day,ls,b.tmod 7⟩ ⟨λf hf=>(Da (e4 f hf)).1,by show F.length<=1000;omega,by show 0<=100000;decide,λ_ _=>l1,λ_ _=>l2⟩)
 have hlx:=λls=>(GU e1 more [] day ls (b.tmod 7)).1
 have yH:=(Lj A);have KG:=(Lj A2);clear Lj go hw hR q6 hdm hdv;generalize Gd F[k] A=W at*;generalize Gd F[k] A2=W2 at*;obtain⟨ls1,one⟩:=W;obtain⟨ls2,two⟩:=W2;refine Aa.draw [] Ag mO (by kernel_rfl) ?_
 conv=>whnf
 refine⟨λh1=>?_,λh1=>?_⟩
 have h1:one=true:=h1;subst h1;obtain⟨f1,f2⟩:=g1 rfl;have f1:ls1=(Ff.B4 F[k] (HY F[k] A)).1:=f1;rw[<-f1]at f2 yH;conv=>whnf
 refine⟨by decide,?_⟩
 rw[w2];conv=>whnf
 refine⟨6,?_⟩;conv=>whnf
 refine⟨_,⟨Gt ls1 yH.1 yH.2,rfl⟩,?_⟩;conv=>whnf
 refine⟨_,⟨jC f2 (hlx ls1),rfl⟩,?_⟩;conv=>whnf
 refine Ax (λh=>?_) (λh=>absurd h (by simp))
 conv=>whnf
 refine kW ?_;rotate_left
 refine kW ?_
 all_goals
  refine Aa.draw [] Ag mO (by kernel_rfl) ?_
  conv=>whnf
  refine Ax (λh=>?_) (λh=>absurd h (by simp))
  conv=>whnf
  refine⟨λh2=>?_,λh2=>?_⟩
  ·have h2:two=true:=h2;subst h2;obtain⟨f1,f2⟩:=g2 rfl;have f1:ls2=(Ff.B4 F[k] (HY F[k] A2)).1:=f1;rw[<-f1]at f2 KG;conv=>whnf
   refine⟨by decide,?_⟩
   rw[w2];conv=>whnf
   refine⟨6,?_⟩;conv=>whnf
   refine⟨_,⟨Gt ls2 KG.1 KG.2,rfl⟩,?_⟩;conv=>whnf
   refine⟨_,⟨jC f2 (hlx ls2),rfl⟩,?_⟩;conv=>whnf
   refine Ax (λh=>?_) (λh=>absurd h (by simp))
   conv=>whnf
   exact GA
  ·exact GA
end Go.Proofs.YtdadkhcdoaeabaaGreatDoor