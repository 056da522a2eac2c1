/- The law of Forwarded. -/
import Derived.Test.YtdadkhcdoaeabaaGreatDoorQu
set_option linter.unusedVariables false
set_option maxRecDepth 100000
set_option linter.unusedSectionVars false
set_option linter.unusedSimpArgs false
open Int renaming tmod_eq_emod_of_nonneg → Ak, emod_nonneg → AP
open And renaming intro → Ax
open List renaming length_map → A0
namespace Go.Proofs.YtdadkhcdoaeabaaGreatDoor
open Go.Av Go.Shelf Go.RowKit
open Rr.Pl (Pt Ad St Ch Bs Mv HT D5 KD Has bV BC Be)
open Rr (E6 Ar)
open Rr.Pl (CA AW)
theorem xM{l:List Od}{day:Int}{p:Pt}{x:Rs}(h:xU l day p x)(hf:AN l day p=([p],0)):Zcr p x:=by
 cases h with
 |found q i t h1 h2 h3=>
  obtain⟨rfl,rfl,rfl⟩:=h3 hf;exact .inl rfl
 |E8 M h1 h2=>exact .inr ⟨M,rfl,h1⟩
 |refused e h1 h2=>exact absurd hf h2
theorem Zc5{a:Int}(a0:0<=a){n:Nat}(h0:0<n):∃k:Nat,k<n/\a.tmod (n:Int)=(k:Int):=⟨(a.tmod (n:Int)).toNat,by
  rw[Ak a0];have q1:=AP a (show(n:Int)≠0 by omega)
  have q2:=Int.emod_lt_of_pos a (show(0:Int)<n by omega)
  omega,by
  rw[Ak a0];have q1:=AP a (show(n:Int)≠0 by omega)
  omega⟩
set_option maxHeartbeats 4000000 in
theorem VG(F:List Ff.Fm)(r:List Ch)(l:List Od)(day:Int)(ls:List Bs)(a b:Int)(ha:DJ .u8 a)(hb:DJ .u8 b):AO Tryz.prog 3 [Vc F,D5 r,Hr l,.int .i64 day,Ff.AQ ls,.int .u8 a,.int .u8 b] (λx=>x=.bool true):=by
 refine kB Tryz.func3 rfl ?_;refine kC (fH) ?_;refine kC (Il F r l ls) ?_;refine⟨λh=>?_,λh=>?_⟩
 ·exact GA
 have h:Im F r l ls=true:=by simpa using h
 obtain⟨h1,h2,h3,h0⟩:=aV h;obtain⟨a0,a1,w1,_,_⟩:=Ie ha;obtain⟨b0,b1,w2,m0,m6⟩:=Ie hb;clear h;refine kW ?_;refine⟨by decide,?_⟩
 rw[w2];generalize hm:Int.tmod b 7=m at*;refine kW ?_;refine kC (DR h1 day m) ?_;have Af:=gU h2 (day:=day) (ls:=ls) m0 m6;generalize Ai F r l day ls m=x at*;refine⟨λh=>?_,λh=>?_⟩
 ·exact GA
 have hk:x.k=1:=by simpa using h
 obtain⟨q,c,rfl,hc,hf,hn,Qt,X1⟩:=Af hk;clear h Af hk;refine kW ?_;refine Ax (λh=>?_) (λh=>absurd h (by simp))
 conv=>whnf
 refine kR ?_;refine⟨λh=>absurd (of_decide_eq_true h) (by rw[A0];show ¬5<(c.length:Int);omega),λ_=>?_⟩
 refine kW ?_;refine⟨by decide,q.v,rfl,?_⟩
 refine kW ?_;obtain⟨e1,e2,e3,e4⟩:=A5 h1;refine kC (NH l day q ⟨-1,0⟩ (by omega)) ?_
 rw[hZ hf];obtain⟨s,hs,Um⟩:=TO h2.r hn;refine kC (Rr.Dx r day q) ?_;rw[Um];refine Ax (λh=>?_) (λh=>absurd h (by simp))
 conv=>whnf
 refine kR ?_;refine Ax (λh=>?_) (λh=>absurd h (by simp))
 conv=>whnf
 refine kR ?_;refine Ax (λh=>absurd h (by simp)) (λh=>?_)
 conv=>whnf
 refine kW ?_;obtain⟨k,hk,pA⟩:=Zc5 a0 h0;have CM:(F.map Ff.Fm.v)[((k:Nat):Int).toNat]?=some F[k].v:=by simp[hk]
 have Sh:=List.getElem_mem hk;have hco:(bV s q).co.length<=8:=aK h2.r hs;have hwr:=W7 F[k] (bV s q) (e4 F[k] Sh) hco;have vC:=W6 (f:=F[k]) (a:=bV s q);have Lj:=I4 F[k] (HY F[k] (bV s q)) (by have:=(Da (e4 F[k] Sh)).2.2.2.1;omega)
 have Z8:=λ(hw:wrote F[k] (HY F[k] (bV s q))=true)=>MK h2 Qt X1 Sh (x:=HY F[k] (bV s q)) hs (Rr.Pl.TM s) rfl rfl hw m0 m6
 generalize bV s q=A at*;generalize Gd F[k] A=W at*;obtain⟨ls2,ok⟩:=W;refine Aa.draw [] Ag mO (by kernel_rfl) ?_
 conv=>whnf
 rw[w1,A0];refine⟨by omega,?_⟩
 rw[pA];conv=>whnf
 refine⟨by omega,_,CM,?_⟩
 conv=>whnf
 refine⟨_,⟨hwr,rfl⟩,?_⟩;conv=>whnf
 refine kR ?_;refine⟨λFj=>?_,λFj=>?_⟩
 ·have Fj:ok=true:=Fj;subst Fj;obtain⟨e5,e6⟩:=vC rfl;have hp:=xM (Z8 e6) hf;have e5:ls2=(Ff.B4 F[k] (HY F[k] A)).1:=e5;rw[<-e5]at hp Lj;have Gt:=Fw ⟨F,r,l,day,ls2,m⟩ ⟨λf hf=>(Da (e4 f hf)).1,by show F.length<=1000;omega,by show l.length<=100000;omega,λ_ _=>Lj.1,λ_ _=>Lj.2⟩
  have hlx:(Ai F r l day ls2 m).ps.length<=100000:=(GU e1 r l day ls2 m).1;have Gt:AO Tryz.prog 14 [Vc F,D5 r,Hr l,.int .i64 day,Ff.AQ ls2,.int .i64 m] (λx=>x=(Ai F r l day ls2 m).v):=Gt
  generalize Ai F r l day ls2 m=x at*;refine kW ?_;refine Aa.draw [] Ag mO (by kernel_rfl) ?_
  conv=>whnf
  refine Ax (λh=>?_) (λh=>absurd h (by simp))
  conv=>whnf
  refine⟨by decide,?_⟩
  rw[w2,hm];conv=>whnf
  refine⟨_,⟨Gt,rfl⟩,?_⟩;conv=>whnf
  refine⟨_,⟨jC hp hlx,rfl⟩,?_⟩;conv=>whnf
  refine Ax (λh=>?_) (λh=>absurd h (by simp))
  conv=>whnf
  exact GA
 ·have Fj:ok=false:=Fj;subst Fj;refine kW ?_;refine Aa.draw [] Ag mO (by kernel_rfl) ?_
  conv=>whnf
  refine Ax (λh=>?_) (λh=>absurd h (by simp))
  conv=>whnf
  trace_state
  exact GA
end Go.Proofs.YtdadkhcdoaeabaaGreatDoor