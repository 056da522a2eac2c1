/- The law of Orders: plain. -/
import Derived.Test.YtdadkhcdoaeabaaGreatDoorQv
set_option linter.unusedVariables false
set_option maxRecDepth 100000
set_option linter.unusedSectionVars false
set_option linter.unusedSimpArgs false
open List renaming cons → Af
namespace Go.Proofs.YtdadkhcdoaeabaaGreatDoor
open Go.Av Go.Shelf Go.RowKit
open Rr.Pl (Pt Ad St Ch Bs Mv HT D5 KD)
open Rr (E6 Ar)
open Rr.Pl (CA AW)
inductive xW(r:List Ch)(l:List Od)(day:Int)(p:Pt):Rs->Prop where
 |found (q:Pt) (i t:List Pt):i++[q]=p::t->(i++[q]).length<=5->xW r l day p ⟨1,[q],i++[q],0⟩
 |back (e:Int):(e=70\/e=2)->JY l day p p=(p,true)->xW r l day p (ID e)
 |gone (q:Pt):JY l day p p=(q,false)->(AW r day q).2=3->xW r l day p (ID 3)
theorem iF{r:List Ch}{l:List Od}(hr:Ar r=true)(hl:B1 l=true)(day:Int)(M:List Pt)(hn:∀p∈M,(AW r day p).2=0):
  ((Dv r [] day M).k≠1/\Dv r [] day M=Dv r l day M)\/∃p,Dv r [] day M=⟨1,[p],[p],0⟩/\xW r l day p (Dv r l day M):=by
 match M with
 |[]=>exact .inl ⟨by show(3:Int)≠1;decide,rfl⟩
 |p::q::t=>
  left;unfold Dv;rw[if_neg (by simp),if_pos (by simp),if_neg (by simp),if_pos (by simp)]
  exact⟨by show(2:Int)≠1;decide,rfl⟩
 |[p]=>
  right;refine⟨p,?_,?_⟩
  ·rw[bD,UA];unfold ZcY;have hp:=hn p (by simp)
   rw[if_neg (by simp)]
   simp only;rw[show Gr [p]=p from rfl,if_neg (by rw[hp];simp)]
  ·have hc:=F4 hr hl day [p];generalize Dv r l day [p]=y at hc;cases hc with
   |none h=>cases h
   |E8 h=>simp at h
   |LA p' e h1 h2 h3=>
    obtain rfl:p=p':=(Af.inj h1).1;refine .back e h2 ?_;unfold JY;rw[h3,if_neg (by rcases h2 with rfl|rfl<;>decide)]
   |gone p' q i h1 h2 h3=>
    obtain rfl:p=p':=(Af.inj h1).1;refine .gone q ?_ (by rw[h3])
    unfold JY;rw[h2,if_pos rfl];simp
   |found p' q i t h1 h2 h3 h4 h5 h6=>
    obtain rfl:p=p':=(Af.inj h1).1;exact .found q i t h3 h4
theorem Xv{F:List Ff.Fm}{r:List Ch}{l:List Od}(h:Good F r l)(day:Int)(ls:List Bs){m:Int}(h0:0<=m)(h6:m<=6):
  ((Ai F r [] day ls m).k≠1/\Ai F r [] day ls m=Ai F r l day ls m)\/∃p,Ai F r [] day ls m=⟨1,[p],[p],0⟩/\xW r l day p (Ai F r l day ls m):=by
 rw[Cv h day ls h0 h6,Cv (aP h) day ls h0 h6];split;·exact .inl ⟨by show(3:Int)≠1;decide,rfl⟩
 ·exact iF h.r h.o day _ (Rb h.r)
theorem eQ(F:List Ff.Fm)(r:List Ch)(l:List Od)(day:Int)(ls:List Bs)(a:Int)(ha:DJ .u8 a):AO Tryz.prog 10 [Vc F,D5 r,Hr l,.int .i64 day,Ff.AQ ls,.int .u8 a] (λx=>x=.bool true):=by
 refine kB Tryz.func10 rfl ?_;refine kC (F1) ?_;refine kC (Ct F r l ls) ?_;refine⟨λh=>?_,λh=>?_⟩
 ·exact GA
 ·have h:FH F r l ls=true:=by simpa using h
  obtain⟨h1,h2,h3⟩:=FG h;obtain⟨a0,a1,w1,m0,m6⟩:=Ie ha;refine kW ?_;refine⟨by decide,?_⟩
  rw[w1];generalize hm:Int.tmod a 7=m at*;refine kW ?_;refine Aj.args (args':=[Vc F,D5 r,Hr [],.int .i64 day,Ff.AQ ls,.int .i64 m]) ⟨rfl,rfl,trivial,rfl,rfl,rfl,trivial⟩ ?_;refine kC (DR (kK h1) day m) ?_;refine⟨by decide,?_⟩
  rw[w1,hm];refine kW ?_;refine kC (DR h1 day m) ?_;have hp:=Xv h2 day ls m0 m6;have Kf:=Hl (A5 h1).1 (A5 h1).1 r [] l day ls m m;have hlx:=GU (A5 h1).1 r [] day ls m;generalize Ai F r [] day ls m=x at*;generalize Ai F r l day ls m=y at*;rcases hp with⟨hk,rfl⟩|⟨p,rfl,ho⟩
  ·refine⟨λ_=>?_,λh=>absurd (by simpa using h) hk⟩
   refine kW ?_;refine⟨λ_=>?_,λh=>absurd h (by decide)⟩
   refine kW ?_;refine kC (Kf) ?_;rw[decide_eq_true rfl]
  ·refine⟨λh=>absurd h (show ¬(!decide ((1:Int)=1))=true by decide),λ_=>?_⟩
   refine kW ?_;refine Aa.draw [] Ag mO (by kernel_rfl) ?_
   conv=>whnf
   refine⟨λh=>absurd h (show ¬(!decide ((1:Int)=1))=true by decide),λ_=>?_⟩
   conv=>whnf
   refine⟨λh=>absurd h (show ¬(!decide ((1:Int)=1))=true by decide),λ_=>?_⟩
   conv=>whnf
   refine⟨by decide,p.v,rfl,?_⟩
   conv=>whnf
   refine⟨by decide,p.v,rfl,?_⟩
   conv=>whnf
   refine⟨λh=>absurd h (by simp),λ_=>?_⟩
   refine kW ?_;cases ho with
   |found q i t hit hle=>
    refine⟨λ_=>?_,λh=>absurd h (show ¬decide ((1:Int)=1)=false by decide)⟩
    refine kW ?_;rw[hit]at hle ⊢;refine Aa.draw [] Ag mO (by kernel_rfl) ?_
    conv=>whnf
    refine kD ?_;refine⟨λ_=>?_,λh=>absurd (of_decide_eq_false h) (by simp)⟩
    conv=>whnf
    refine⟨by decide,p.v,rfl,?_⟩
    conv=>whnf
    refine⟨by decide,p.v,rfl,?_⟩
    conv=>whnf
    refine⟨λ_=>?_,λh=>absurd h (by simp)⟩
    exact GA
   |back e he hf=>
    refine⟨λh=>absurd h (show ¬decide ((3:Int)=1)=true by decide),λ_=>?_⟩
    refine kW ?_;refine Aa.Pe [15] Ag mO (by kernel_rfl) ?_
    conv=>whnf
    refine⟨by decide,p.v,rfl,?_⟩
    conv=>whnf
    refine⟨by decide,p.v,rfl,?_⟩
    conv=>whnf
    refine⟨_,⟨NH l day p p (by have:=(A5 h1).2.2.1;omega),rfl⟩,?_⟩
    conv=>whnf
    rw[hf];refine kW ?_;refine⟨λ_=>?_,λh=>(by cases h)⟩
    refine kW ?_;refine kC (Rr.Dx r day p) ?_;rcases he with rfl|rfl;·exact kDe
    ·exact kDe
   |gone q hf hn=>
    refine⟨λh=>absurd h (show ¬decide ((3:Int)=1)=true by decide),λ_=>?_⟩
    refine kW ?_;refine Aa.Pe [15] Ag mO (by kernel_rfl) ?_
    conv=>whnf
    refine⟨by decide,p.v,rfl,?_⟩
    conv=>whnf
    refine⟨by decide,p.v,rfl,?_⟩
    conv=>whnf
    refine⟨_,⟨NH l day p p (by have:=(A5 h1).2.2.1;omega),rfl⟩,?_⟩
    conv=>whnf
    rw[hf];refine kW ?_;refine⟨λh=>(by cases h),λ_=>?_⟩
    refine kW ?_;refine kC (Rr.Dx r day q) ?_;rw[hn];refine kD ?_;rfl
end Go.Proofs.YtdadkhcdoaeabaaGreatDoor