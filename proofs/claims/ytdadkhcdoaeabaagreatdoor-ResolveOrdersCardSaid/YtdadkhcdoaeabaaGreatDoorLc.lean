/- The law of Orders: plain. -/
import Derived.Test.YtdadkhcdoaeabaaGreatDoorQw
set_option linter.unusedVariables false
set_option maxRecDepth 100000
open List renaming cons → Ah
namespace Go.Proofs.YtdadkhcdoaeabaaGreatDoor
open Go.Av Go.Shelf Go.RowKit
open Rr.Pl (Pt Ad St Ch Bs My Mw E6 Lq)
open Rr (JH AY)
open Rr.Pl (DD Bm)
inductive rY(r:List Ch)(l:List Od)(day:Int)(p:Pt):Rs→Prop where
 |found (q:Pt) (i t:List Pt):i++[q]=p::t→(i++[q]).length≤5→rY r l day p ⟨1,[q],i++[q],0⟩
 |back (e:Int):(e=70∨e=2)→Mr l day p p=(p,true)→rY r l day p (Ii e)
 |gone (q:Pt):Mr l day p p=(q,false)→(Bm r day q).2=3→rY r l day p (Ii 3)
theorem cI{r:List Ch}{l:List Od}(hr:AY r=true)(hl:CC l=true)(day:Int)(M:List Pt)(hn:∀p∈M,(Bm r day p).2=0):
  ((DS r [] day M).k≠1∧DS r [] day M=DS r l day M)∨∃p,DS r [] day M=⟨1,[p],[p],0⟩∧rY r l day p (DS r l day M):=by
 match M with
 |[]=>exact .inl ⟨by show(3:Int)≠1;decide,rfl⟩
 |p::q::t=>
  left;unfold DS;rw[if_neg (by simp),if_pos (by simp),if_neg (by simp),if_pos (by simp)]
  exact⟨by show(2:Int)≠1;decide,rfl⟩
 |[p]=>
  right;refine⟨p,?_,?_⟩
  ·rw[YI,bX];unfold Zaf;have hp:=hn p (by simp)
   rw[if_neg (by simp)]
   simp only;rw[show FX [p]=p from rfl,if_neg (by rw[hp];simp)]
  ·have hc:=Jd hr hl day [p];generalize DS r l day [p]=y at hc;cases hc with
   |none h=>cases h
   |MR h=>simp at h
   |O4 p' e h1 h2 h3=>
    obtain rfl:p=p':=(Ah.inj h1).1;refine .back e h2 ?_;unfold Mr;rw[h3,if_neg (by rcases h2 with rfl|rfl<;>decide)]
   |gone p' q i h1 h2 h3=>
    obtain rfl:p=p':=(Ah.inj h1).1;refine .gone q ?_ (by rw[h3])
    unfold Mr;rw[h2,if_pos rfl];simp
   |found p' q i t h1 h2 h3 h4 h5 h6=>
    obtain rfl:p=p':=(Ah.inj h1).1;exact .found q i t h3 h4
theorem VH{F:List Ff.Fm}{r:List Ch}{l:List Od}(h:Good F r l)(day:Int)(ls:List Bs){m:Int}(h0:0≤m)(h6:m≤6):
  ((An F r [] day ls m).k≠1∧An F r [] day ls m=An F r l day ls m)∨∃p,An F r [] day ls m=⟨1,[p],[p],0⟩∧rY r l day p (An F r l day ls m):=by
 rw[Dh h day ls h0 h6,Dh (Yx h) day ls h0 h6];split;·exact .inl ⟨by show(3:Int)≠1;decide,rfl⟩
 ·exact cI h.r h.o day _ (PA h.r)
theorem Z9(F:List Ff.Fm)(r:List Ch)(l:List Od)(day:Int)(ls:List Bs)(a:Int)(ha:DF .u8 a):Aw Tryz.prog 10 [Zc F,E6 r,H7 l,.int .i64 day,Ff.A3 ls,.int .u8 a] (λx=>x=.bool true):=by
 refine Aw.Ai Tryz.func10 rfl Ae (by kernel_rfl) ?_
 conv=>whnf
 repeat(refine sT rfl ?_;conv=>whnf)
 refine cS (Iw) rfl ?_;conv=>whnf
 repeat(refine sT rfl ?_;conv=>whnf)
 refine cS (Dg F r l ls) rfl ?_;conv=>whnf
 repeat(refine sT rfl ?_;conv=>whnf)
 refine⟨λh=>?_,λh=>?_⟩
 ·conv=>whnf
  repeat(refine sT rfl ?_;conv=>whnf)
 ·have h:F7 F r l ls=true:=by simpa using h
  obtain⟨h1,h2,h3⟩:=GN h;obtain⟨a0,a1,w1,m0,m6⟩:=QS ha;conv=>whnf
  repeat(refine sT rfl ?_;conv=>whnf)
  refine⟨by decide,?_⟩
  rw[w1];generalize hm:Int.tmod a 7=m at*;conv=>whnf
  repeat(refine sT rfl ?_;conv=>whnf)
  refine Ak.args (args':=[Zc F,E6 r,H7 [],.int .i64 day,Ff.A3 ls,.int .i64 m]) ⟨rfl,rfl,trivial,rfl,rfl,rfl,trivial⟩ ?_;refine cS (Em (eL h1) day m) rfl ?_;conv=>whnf
  repeat(refine sT rfl ?_;conv=>whnf)
  refine⟨by decide,?_⟩
  rw[w1,hm];conv=>whnf
  repeat(refine sT rfl ?_;conv=>whnf)
  refine cS (Em h1 day m) rfl ?_;conv=>whnf
  repeat(refine sT rfl ?_;conv=>whnf)
  have hp:=VH h2 day ls m0 m6;have Ju:=GZ (Bp h1).1 (Bp h1).1 r [] l day ls m m;have hlx:=IV (Bp h1).1 r [] day ls m;generalize An F r [] day ls m=x at*;generalize An F r l day ls m=y at*;rcases hp with⟨hk,rfl⟩|⟨p,rfl,ho⟩
  ·refine⟨λ_=>?_,λh=>absurd (by simpa using h) hk⟩
   conv=>whnf
   repeat(refine sT rfl ?_;conv=>whnf)
   refine⟨λ_=>?_,λh=>absurd h (by decide)⟩
   conv=>whnf
   repeat(refine sT rfl ?_;conv=>whnf)
   refine cS (Ju) rfl ?_;conv=>whnf
   repeat(refine sT rfl ?_;conv=>whnf)
   rw[decide_eq_true rfl]
  ·refine⟨λh=>absurd h (show ¬(!decide ((1:Int)=1))=true by decide),λ_=>?_⟩
   conv=>whnf
   repeat(refine sT rfl ?_;conv=>whnf)
   refine Ac.draw [] Ae mO (by kernel_rfl) ?_
   conv=>whnf
   refine⟨λh=>absurd h (show ¬(!decide ((1:Int)=1))=true by decide),λ_=>?_⟩
   conv=>whnf
   refine⟨λh=>absurd h (show ¬(!decide ((1:Int)=1))=true by decide),λ_=>?_⟩
   conv=>whnf
   refine⟨by decide,p.v,rfl,?_⟩
   conv=>whnf
   refine⟨by decide,p.v,rfl,?_⟩
   conv=>whnf
   refine⟨λh=>absurd h (by simp),λ_=>?_⟩
   conv=>whnf
   repeat(refine sT rfl ?_;conv=>whnf)
   cases ho with
   |found q i t hit hle=>
    refine⟨λ_=>?_,λh=>absurd h (show ¬decide ((1:Int)=1)=false by decide)⟩
    conv=>whnf
    repeat(refine sT rfl ?_;conv=>whnf)
    rw[hit]at hle ⊢;refine Ac.draw [] Ae mO (by kernel_rfl) ?_
    conv=>whnf
    repeat(first|((first|refine⟨λ_=>?_,λh=>absurd h (by decide +kernel)⟩|refine⟨λh=>absurd h (by decide +kernel),λ_=>?_⟩|refine⟨by decide,_,rfl,?_⟩);conv=>whnf)|(refine sT rfl ?_;conv=>whnf))
    refine⟨λ_=>?_,λh=>absurd (of_decide_eq_false h) (by simp)⟩
    conv=>whnf
    refine⟨by decide,p.v,rfl,?_⟩
    conv=>whnf
    refine⟨by decide,p.v,rfl,?_⟩
    conv=>whnf
    refine⟨λ_=>?_,λh=>absurd h (by simp)⟩
    conv=>whnf
    repeat(refine sT rfl ?_;conv=>whnf)
   |back e he hf=>
    refine⟨λh=>absurd h (show ¬decide ((3:Int)=1)=true by decide),λ_=>?_⟩
    conv=>whnf
    repeat(refine sT rfl ?_;conv=>whnf)
    refine Ac.NH [15] Ae mO (by kernel_rfl) ?_
    conv=>whnf
    refine⟨by decide,p.v,rfl,?_⟩
    conv=>whnf
    refine⟨by decide,p.v,rfl,?_⟩
    conv=>whnf
    refine⟨_,⟨SX l day p p (by have:=(Bp h1).2.2.1;omega),rfl⟩,?_⟩
    conv=>whnf
    rw[hf];conv=>whnf
    repeat(refine sT rfl ?_;conv=>whnf)
    refine⟨λ_=>?_,λh=>(by cases h)⟩
    conv=>whnf
    repeat(refine sT rfl ?_;conv=>whnf)
    refine cS (Rr.FD r day p) rfl ?_;conv=>whnf
    repeat(refine sT rfl ?_;conv=>whnf)
    rcases he with rfl|rfl;·repeat(first|((first|refine⟨λ_=>?_,λh=>absurd h (by decide +kernel)⟩|refine⟨λh=>absurd h (by decide +kernel),λ_=>?_⟩|refine⟨by decide,_,rfl,?_⟩);conv=>whnf)|(refine sT rfl ?_;conv=>whnf))
    ·repeat(first|((first|refine⟨λ_=>?_,λh=>absurd h (by decide +kernel)⟩|refine⟨λh=>absurd h (by decide +kernel),λ_=>?_⟩|refine⟨by decide,_,rfl,?_⟩);conv=>whnf)|(refine sT rfl ?_;conv=>whnf))
   |gone q hf hn=>
    refine⟨λh=>absurd h (show ¬decide ((3:Int)=1)=true by decide),λ_=>?_⟩
    conv=>whnf
    repeat(refine sT rfl ?_;conv=>whnf)
    refine Ac.NH [15] Ae mO (by kernel_rfl) ?_
    conv=>whnf
    refine⟨by decide,p.v,rfl,?_⟩
    conv=>whnf
    refine⟨by decide,p.v,rfl,?_⟩
    conv=>whnf
    refine⟨_,⟨SX l day p p (by have:=(Bp h1).2.2.1;omega),rfl⟩,?_⟩
    conv=>whnf
    rw[hf];conv=>whnf
    repeat(refine sT rfl ?_;conv=>whnf)
    refine⟨λh=>(by cases h),λ_=>?_⟩
    conv=>whnf
    repeat(refine sT rfl ?_;conv=>whnf)
    refine cS (Rr.FD r day q) rfl ?_;conv=>whnf
    repeat(refine sT rfl ?_;conv=>whnf)
    rw[hn];repeat(first|((first|refine⟨λ_=>?_,λh=>absurd h (by decide +kernel)⟩|refine⟨λh=>absurd h (by decide +kernel),λ_=>?_⟩|refine⟨by decide,_,rfl,?_⟩);conv=>whnf)|(refine sT rfl ?_;conv=>whnf))
    rfl
end Go.Proofs.YtdadkhcdoaeabaaGreatDoor