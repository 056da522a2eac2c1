/- What the statements of order. -/
import Derived.Test.YtdadkhcdoaeabaaGreatDoorQw
set_option linter.unusedVariables false
set_option maxRecDepth 100000
open List renaming getElem?_set_self → Ah
namespace Go.Proofs.YtdadkhcdoaeabaaGreatDoor
open Go.Av Go.Shelf Go.RowKit
open Rr.Pl (Pt Ad St Ch Bs My Mw E6 Lq Has adS Dd Cr)
open Rr (JH AY)
open Rr.Pl (DD Bm)
theorem YF{F G:List Ff.Fm}{r:List Ch}{l:List Od}{ls:List Bs}(h:IE F r l ls=true)(hm:∀f∈G,f∈F)(hG:G.length≤10):IE G r l ls=true:=by
 obtain⟨h1,h2,h3,h4⟩:=Bp h;unfold IE;rw[decide_eq_true hG,h2,decide_eq_true h3,List.all_eq_true.2 λf hf=>h4 f (hm f hf)]
 rfl
theorem qK{F G:List Ff.Fm}{r:List Ch}{l:List Od}(h:Good F r l)(hm:∀f∈G,f∈F)(hG:G.length≤8):Good G r l:=⟨λf hf=>h.f f (hm f hf),hG,h.r,h.o⟩
theorem Ps{F G:List Ff.Fm}{r:List Ch}{l:List Od}(h:Good F r l)(hm:∀f,f∈F↔f∈G)(hG:G.length≤8)(day:Int)(ls:List Bs){m:Int}(h0:0≤m)(h6:m≤6):
  An F r l day ls m=An G r l day ls m:=Qb hm h (qK h (λf hf=>(hm f).2 hf) hG) day ls h0 h6
theorem Zbz{r:List Ch}(hr:AY r=true){day:Int}{p:Pt}{s:St}(hs:Has (JH r day) p s){c d:Ch}(hc:c.da=day∧c.sr=p.s∧c.ki≠1)(hd:d.da=day∧d.sr=p.s∧d.ki≠1)(hm:AY (r++[c,d])=true):
  ∃s1 s2,Dd s c=.ok s1∧Dd s1 d=.ok s2∧(JH (r++[c,d]) day)[p.s.toNat]?=some s2:=by
 obtain⟨L,hL⟩:=Rr.Pl.ZaX.1 hm;have Zh7:=hL.sorted.2
 have hle:∀x∈r,x.da≤day:=λx hx=>by
  have:=(List.pairwise_append.1 Zh7).2.2 x hx c (by simp)
  rw[hc.1]at this;exact this
 have Zfq:∀x∈r++[c,d],x.da≤day:=λx hx=>by
  rcases List.mem_append.1 hx with hx|hx;·exact hle x hx
  ·simp only[List.mem_cons,List.not_mem_nil,or_false]at hx;rcases hx with rfl|rfl;·rw[hc.1];exact Int.le_refl _
   ·rw[hd.1];exact Int.le_refl _
 have h1:=Rr.Pl.ZaY hr hle;have h2:=Rr.Pl.ZaY hm Zfq;obtain⟨m,h3,l1,h4,l2,h5,h6⟩:=Rr.Pl.ZaL.1 h2
 have V8:m=JH r day:=by
  have e1:=Rr.Pl.ZaJ h3;rw[Rr.Pl.ZaJ h1]at e1;exact((Prod.mk.inj e1).1).symm
 subst V8;have h6:JH (r++[c,d]) day=l2:=h6;obtain⟨_,_,_,_,n1,e1,_⟩:=Rr.dQ h4;obtain⟨_,_,_,_,n2,e2,_⟩:=Rr.dQ h5;have Mo:=hs.pos;have AR:p.s.toNat<(JH r day).length:=(List.getElem?_eq_some_iff.1 hs.at_).1;rcases (Rr.Pl.Za8 e1).2.2 with⟨hk,_⟩|⟨_,hn,s0,s1,q1,_,q2,q3⟩;·exact absurd hk hc.2.2
 obtain rfl:n1=p.s.toNat:=by have:=hc.2.1;omega
 rw[hs.at_]at q1;cases q1;rcases (Rr.Pl.Za8 e2).2.2 with⟨hk,_⟩|⟨_,vG,s0,s2,q4,_,q5,q6⟩;·exact absurd hk hd.2.2
 obtain rfl:n2=p.s.toNat:=by have:=hd.2.1;omega
 rw[q3,Ah AR]at q4;cases q4;refine⟨s1,s2,q2,q5,?_⟩;rw[h6,q6,q3,Ah (by rw[List.length_set];exact AR)]
def Za6(day:Int)(n:Int)(t:Bs):Ch:=⟨day,2,n,[],[],t,0,0,0⟩
def Za5(day:Int)(n:Int)(k:Int):Ch:=⟨day,4,n,[],[],[],0,0,k⟩
theorem ZbP{r:List Ch}(hr:AY r=true){day:Int}{p:Pt}{s:St}(hs:Has (JH r day) p s){t:Bs}{k:Int}(hm:AY (r++[Za6 day p.s t,Za5 day p.s k])=true):
  ∃s2,Has (JH (r++[Za6 day p.s t,Za5 day p.s k]) day) p s2∧s2.co=s.co:=by
 obtain⟨s1,s2,h1,h2,h3⟩:=Zbz hr hs ⟨rfl,rfl,by show(2:Int)≠1;decide⟩ ⟨rfl,rfl,by show(4:Int)≠1;decide⟩ hm
 have e1:Dd s (Za6 day p.s t)=.ok {s with na:=t}:=rfl
 rw[e1]at h1;cases h1;have e2:Dd {s with na:=t} (Za5 day p.s k)=if Rr.Pl.G7 (s.lo+k)&&Rr.Pl.G7 (s.hi+k)then .ok {s with na:=t,lo:=s.lo+k,hi:=s.hi+k,sh:=s.sh+k} else .error 1:=rfl
 rw[e2]at h2;split at h2
 ·cases h2;exact⟨_,⟨hs.pos,h3,hs.op,by have:=hs.lo;show s.lo+k-(s.sh+k)≤p.n;omega,by have:=hs.hi;show p.n≤s.hi+k-(s.sh+k);omega⟩,rfl⟩
 ·cases h2
theorem ZbK{r:List Ch}(hr:AY r=true){day:Int}{p:Pt}(h:(Bm r day p).2=0):∃s,Has (JH r day) p s∧Bm r day p=(adS s p,0):=by
 rw[Rr.Pl.XF hr]at h ⊢;obtain⟨s,hs,e⟩:=Rr.Pl.ZbQ (a:=(Rr.Pl.Js (JH r day) p).1) (Prod.ext rfl h);exact⟨s,hs,Rr.Pl.oL hs⟩
def ZcG(t:Bs)(o:Of):Bool:=o.co.any λx=>decide (x=t)
theorem ZaR{O:List Of}{r:List Ch}{day:Int}{p:Pt}{a:Ad}(h:Bm r day p=(a,0)):ZdU O r day p=V4 (ZcG a.co) O:=by
 unfold ZdU;rw[h,if_neg (by simp)]
 rfl
theorem Zbh{α:Type}(f:α→Bool)(l:List α):(V4 f l=-1∧∀x∈l,f x=false)∨∃(k:Nat) (h:k<l.length),V4 f l=k∧f l[k]=true∧∀(j:Nat)(hj:j<l.length),j<k→f l[j]=false:=by
 unfold V4;cases hi:l.findIdx? f with
 |none=>exact .inl ⟨rfl,λx hx=>by rw[List.findIdx?_eq_none_iff]at hi;exact hi x hx⟩
 |some k=>
  obtain⟨h1,h2,h3⟩:=List.findIdx?_eq_some_iff_getElem.1 hi;exact .inr ⟨k,h1,rfl,h2,λj hj PL=>by have:=h3 j PL;simpa using this⟩
theorem ZaW(O:List Of){r:List Ch}(hr:AY r=true){day:Int}{p:Pt}(hp:(Bm r day p).2=0){t:Bs}{k:Int}(hm:AY (r++[Za6 day p.s t,Za5 day p.s k])=true):
  ZdU O (r++[Za6 day p.s t,Za5 day p.s k]) day p=ZdU O r day p:=by
 obtain⟨s,hs,e⟩:=ZbK hr hp;obtain⟨s2,h2,hco⟩:=ZbP hr hs hm;rw[ZaR e,ZaR (Pz hm h2)];show V4 (ZcG s2.co) O=_
 rw[hco];rfl
end Go.Proofs.YtdadkhcdoaeabaaGreatDoor