/- What the statements of order. -/
import Derived.Test.YtdadkhcdoaeabaaGreatDoorQv
set_option linter.unusedVariables false
set_option maxRecDepth 100000
set_option linter.unusedSectionVars false
set_option linter.unusedSimpArgs false
open Bool renaming and_eq_true → Af
open List renaming getElem?_set_self → Ak, all_eq_true → Ax, length_map → A0
namespace Go.Proofs.YtdadkhcdoaeabaaGreatDoor
open Go.Av Go.Shelf Go.RowKit
open Rr.Pl (Pt Ad St Ch Bs Mv HT D5 KD Has bV BC Be)
open Rr (E6 Ar)
open Rr.Pl (CA AW)
theorem bA{F G:List Ff.Fm}{r:List Ch}{l:List Od}{ls:List Bs}(h:G4 F r l ls=true)(hm:∀f∈G,f∈F)(hG:G.length<=10):G4 G r l ls=true:=by
 obtain⟨h1,h2,h3,h4⟩:=A5 h;unfold G4;rw[decide_eq_true hG,h2,decide_eq_true h3,Ax.2 λf hf=>h4 f (hm f hf)]
 rfl
theorem wC{F G:List Ff.Fm}{r:List Ch}{l:List Od}(h:Good F r l)(hm:∀f∈G,f∈F)(hG:G.length<=8):Good G r l:=⟨λf hf=>h.f f (hm f hf),hG,h.r,h.o⟩
theorem Q4{F G:List Ff.Fm}{r:List Ch}{l:List Od}(h:Good F r l)(hm:∀f,f∈F↔f∈G)(hG:G.length<=8)(day:Int)(ls:List Bs){m:Int}(h0:0<=m)(h6:m<=6):
  Ai F r l day ls m=Ai G r l day ls m:=RU hm h (wC h (λf hf=>(hm f).2 hf) hG) day ls h0 h6
theorem YN{r:List Ch}(hr:Ar r=true){day:Int}{p:Pt}{s:St}(hs:Has (E6 r day) p s){c d:Ch}(hc:c.da=day/\c.sr=p.s/\c.ki≠1)(hd:d.da=day/\d.sr=p.s/\d.ki≠1)(hm:Ar (r++[c,d])=true):
  ∃s1 s2,BC s c=.ok s1/\BC s1 d=.ok s2/\(E6 (r++[c,d]) day)[p.s.toNat]?=some s2:=by
 obtain⟨L,hL⟩:=Rr.Pl.PJ.1 hm;have Zje:=hL.sorted.2
 have hle:∀x∈r,x.da<=day:=λx hx=>by
  have:=(List.pairwise_append.1 Zje).2.2 x hx c (by simp)
  rw[hc.1]at this;exact this
 have Zdz:∀x∈r++[c,d],x.da<=day:=λx hx=>by
  rcases List.mem_append.1 hx with hx|hx;·exact hle x hx
  ·simp only[List.mem_cons,List.not_mem_nil,or_false]at hx;rcases hx with rfl|rfl;·rw[hc.1];exact Int.le_refl _
   ·rw[hd.1];exact Int.le_refl _
 have h1:=Rr.Pl.V9 hr hle;have h2:=Rr.Pl.V9 hm Zdz;obtain⟨m,h3,l1,h4,l2,h5,h6⟩:=Rr.Pl.Oe.1 h2
 have VD:m=E6 r day:=by
  have e1:=Rr.Pl.Oc h3;rw[Rr.Pl.Oc h1]at e1;exact((Prod.mk.inj e1).1).symm
 subst VD;have h6:E6 (r++[c,d]) day=l2:=h6;obtain⟨_,_,_,_,n1,e1,_⟩:=Rr.HZ h4;obtain⟨_,_,_,_,n2,e2,_⟩:=Rr.HZ h5;have Mx:=hs.pos;have AP:p.s.toNat<(E6 r day).length:=(List.getElem?_eq_some_iff.1 hs.at_).1;rcases (Rr.Pl.OK e1).2.2 with⟨hk,_⟩|⟨_,hn,s0,s1,q1,_,q2,q3⟩;·exact absurd hk hc.2.2
 obtain rfl:n1=p.s.toNat:=by have:=hc.2.1;omega
 rw[hs.at_]at q1;cases q1;rcases (Rr.Pl.OK e2).2.2 with⟨hk,_⟩|⟨_,yJ,s0,s2,q4,_,q5,q6⟩;·exact absurd hk hd.2.2
 obtain rfl:n2=p.s.toNat:=by have:=hd.2.1;omega
 rw[q3,Ak AP]at q4;cases q4;refine⟨s1,s2,q2,q5,?_⟩;rw[h6,q6,q3,Ak (by rw[List.length_set];exact AP)]
def R9(day:Int)(n:Int)(t:Bs):Ch:=⟨day,2,n,[],[],t,0,0,0⟩
def Y2(day:Int)(n:Int)(k:Int):Ch:=⟨day,4,n,[],[],[],0,0,k⟩
def Zbs(day:Int)(n:Int)(t:Bs):Ch:=⟨day,5,n,[],[],t,0,0,0⟩
theorem zM{r:List Ch}(hr:Ar r=true){day:Int}{p:Pt}{s:St}(hs:Has (E6 r day) p s){t:Bs}{k:Int}(hm:Ar (r++[R9 day p.s t,Y2 day p.s k])=true):
  ∃s2,Has (E6 (r++[R9 day p.s t,Y2 day p.s k]) day) p s2/\s2.co=s.co:=by
 obtain⟨s1,s2,h1,h2,h3⟩:=YN hr hs ⟨rfl,rfl,by show(2:Int)≠1;decide⟩ ⟨rfl,rfl,by show(4:Int)≠1;decide⟩ hm
 have e1:BC s (R9 day p.s t)=.ok {s with na:=t}:=rfl
 rw[e1]at h1;cases h1;have e2:BC {s with na:=t} (Y2 day p.s k)=if Rr.Pl.Fc (s.lo+k)&&Rr.Pl.Fc (s.hi+k)then .ok {s with na:=t,lo:=s.lo+k,hi:=s.hi+k,sh:=s.sh+k} else .error 1:=rfl
 rw[e2]at h2;split at h2
 ·cases h2;exact⟨_,⟨hs.pos,h3,hs.op,by have:=hs.lo;show s.lo+k-(s.sh+k)<=p.n;omega,by have:=hs.hi;show p.n<=s.hi+k-(s.sh+k);omega⟩,rfl⟩
 ·cases h2
theorem renamed{r:List Ch}(hr:Ar r=true){day:Int}{p:Pt}{s:St}(hs:Has (E6 r day) p s){t:Bs}(hm:Ar (r++[R9 day p.s t,Zbs day p.s s.na])=true):
  Has (E6 (r++[R9 day p.s t,Zbs day p.s s.na]) day) p {s with na:=t,al:=s.al++[s.na]}:=by
 obtain⟨s1,s2,h1,h2,h3⟩:=YN hr hs ⟨rfl,rfl,by show(2:Int)≠1;decide⟩ ⟨rfl,rfl,by show(5:Int)≠1;decide⟩ hm
 have e1:BC s (R9 day p.s t)=.ok {s with na:=t}:=rfl
 rw[e1]at h1;cases h1;have e2:BC {s with na:=t} (Zbs day p.s s.na)=if Be {s with na:=t} s.na then .error 4 else .ok {s with na:=t,al:=s.al++[s.na]}:=rfl
 rw[e2]at h2;split at h2;·cases h2
 ·cases h2;exact⟨hs.pos,h3,hs.op,hs.lo,hs.hi⟩
theorem TO{r:List Ch}(hr:Ar r=true){day:Int}{p:Pt}(h:(AW r day p).2=0):∃s,Has (E6 r day) p s/\AW r day p=(bV s p,0):=by
 rw[Rr.Pl.TP hr]at h ⊢;obtain⟨s,hs,e⟩:=Rr.Pl.Zap (a:=(Rr.Pl.Ht (E6 r day) p).1) (Prod.ext rfl h);exact⟨s,hs,Rr.Pl.ZB hs⟩
def ZdS(t:Bs)(o:Of):Bool:=o.co.any λx=>decide (x=t)
theorem QF{O:List Of}{r:List Ch}{day:Int}{p:Pt}{a:Ad}(h:AW r day p=(a,0)):Yc O r day p=OY (ZdS a.co) O:=by
 unfold Yc;rw[h,if_neg (by simp)]
 rfl
theorem fV{α:Type}(f:α->Bool)(l:List α):(OY f l=-1/\∀x∈l,f x=false)\/∃(k:Nat) (h:k<l.length),OY f l=k/\f l[k]=true/\∀(j:Nat)(hj:j<l.length),j<k->f l[j]=false:=by
 unfold OY;cases hi:l.findIdx? f with
 |none=>exact .inl ⟨rfl,λx hx=>by rw[List.findIdx?_eq_none_iff]at hi;exact hi x hx⟩
 |some k=>
  obtain⟨h1,h2,h3⟩:=List.findIdx?_eq_some_iff_getElem.1 hi;exact .inr ⟨k,h1,rfl,h2,λj hj O1=>by have:=h3 j O1;simpa using this⟩
theorem UN(O:List Of){r:List Ch}(hr:Ar r=true){day:Int}{p:Pt}(hp:(AW r day p).2=0){t:Bs}{k:Int}(hm:Ar (r++[R9 day p.s t,Y2 day p.s k])=true):
  Yc O (r++[R9 day p.s t,Y2 day p.s k]) day p=Yc O r day p:=by
 obtain⟨s,hs,e⟩:=TO hr hp;obtain⟨s2,h2,hco⟩:=zM hr hs hm;rw[QF e,QF (H8 hm h2)];show OY (ZdS s2.co) O=_
 rw[hco];rfl
theorem Zq{f:Ff.Fm}{x:Ff.Ad}(hv:Ff.A1 f=true)(hx:Ff.Iq f x=true):∀s∈Ff.IF f x,s.length<=1000:=by
 intro s hs;obtain⟨l,hl,rfl⟩:=List.mem_map.1 hs;have qX:=Ff.UH (Ff.MW hv).2.2 hx;have hp:=Ff.HW hv l hl;have hfp:=Ff.UI hx l hl
 have hl8:l.length<=8:=by
  rw[Ff.Hd]at hv;simp only[Af]at hv;have:=Ax.1 hv.1.2 l hl;unfold Ff.FE at this;simp only[Af,decide_eq_true_eq]at this;exact this.2
 unfold Ff.Lg
 have hj:=Ff.OU [32] 84 (l.map λp=>Ff.Bn p x) λy hy=>by
  obtain⟨p,Lj,rfl⟩:=List.mem_map.1 hy;have h1:=hp p Lj;have h2:=hfp p Lj;rcases Ff.C6 h1 with hk|hk|hk|hk|hk|hk
  ·unfold Ff.BV at h1;rw[if_pos hk]at h1;unfold Ff.DL at h1;simp only[Af,decide_eq_true_eq]at h1;unfold Ff.Bn;rw[if_pos hk];omega
  ·unfold Ff.Dz at h2;rw[if_pos hk]at h2;simp only[Af,decide_eq_true_eq]at h2;unfold Ff.Bn;rw[if_neg (by omega),if_pos hk]
   have:=Ff.T9 (n:=x.nu) (by omega) (by omega)
   omega
  all_goals (unfold Ff.Bn;simp[hk];omega)
 rw[A0]at hj;have e:84+([32]:Bs).length=85:=rfl;rw[e]at hj;have:=Nat.mul_le_mul_right 85 hl8;omega
def wrote(f:Ff.Fm)(x:Ff.Ad):Bool:=decide ((Ff.B4 f x).2=0)&&decide ((Ff.Br f (Ff.B4 f x).1).2=0)&&decide (0<(Ff.Br f (Ff.B4 f x).1).1.length)
theorem I4(f:Ff.Fm)(x:Ff.Ad)(hl:f.lines.length<=1000):(Ff.B4 f x).1.length<=1000/\∀s∈(Ff.B4 f x).1,s.length<=1000:=by
 unfold Ff.B4;split
 ·rename_i h;rw[Af]at h;refine⟨?_,Zq h.1 h.2⟩;show(Ff.IF f x).length<=1000
  unfold Ff.IF;rw[A0];exact hl
 ·exact⟨Nat.zero_le _,λs hs=>by cases hs⟩
theorem rL{f:Ff.Fm}{x:Ff.Ad}(h:wrote f x=true):(Ff.Br f (Ff.B4 f x).1).2=0/\x∈(Ff.Br f (Ff.B4 f x).1).1:=by
 unfold wrote at h;simp only[Af,decide_eq_true_eq]at h;obtain⟨⟨h1,h2⟩,h3⟩:=h;refine⟨h2,?_⟩;unfold Ff.B4 at h1 h2 h3⊢;split at h1
 ·rename_i hv;rw[if_pos hv]at h2 h3 ⊢;simp only at h2 h3⊢;rw[Af]at hv;obtain⟨BW,MA⟩:=Ff.eM hv.1 hv.2;have hlen:(Ff.IF f x).length=f.lines.length:=by unfold Ff.IF;simp
  unfold Ff.Br at h2⊢;rw[if_pos hv.1]at h2 ⊢;by_cases hc:Ff.EK (Ff.IF f x)<=40
  ·rw[if_pos hc,if_pos ⟨hlen,BW⟩];exact MA
  ·rw[if_neg hc]at h2;cases h2
 ·cases h1
inductive xU(l:List Od)(day:Int)(p:Pt):Rs->Prop
 |found (q:Pt) (i t:List Pt):i++[q]=p::t->(i++[q]).length<=5->(AN l day p=([p],0)->q=p/\i=[]/\t=[])->xU l day p ⟨1,[q],i++[q],0⟩
 |E8 (M:List Pt):p∈M->1<M.length->xU l day p ⟨2,M,[],81⟩
 |refused (e:Int):(e=70\/e=2\/e=3)->AN l day p≠([p],0)->xU l day p (ID e)
theorem MK{F:List Ff.Fm}{r:List Ch}{l:List Od}(h:Good F r l){day:Int}(hd:-1000000<=day)(X1:day<=1000000){f:Ff.Fm}(hf:f∈F){x:Ff.Ad}{p:Pt}{s:St}(hs:Has (E6 r day) p s)(hnm:Be s x.st=true)(hnu:x.nu=p.n+s.sh)(hco:x.co=s.co)(hw:wrote f x=true){m:Int}(h0:0<=m)(h6:m<=6):
  xU l day p (Ai F r l day (Ff.B4 f x).1 m):=by
 obtain⟨w1,w2⟩:=rL hw;have ha:adR x∈readAll F (Ff.B4 f x).1:=Ia.2 ⟨f,hf,w1,x,w2,rfl⟩
 have ZgS:CA r day (adR x)=(p,0):=by
  have:=aX h.r hs hnm (pe:=x.pe) (tw:=x.to);unfold adR;rw[hnu,hco];exact this
 obtain⟨M,hp,hM,e⟩:=dW h hd X1 h0 h6 ha ZgS;rw[e];have hn:=F4 h.r h.o day M;generalize Dv r l day M=y at hn;have one:∀q,M=[q]->q=p:=λq hq=>by rw[hq]at hp;exact(List.mem_singleton.1 hp).symm
 cases hn with
 |none h=>rw[h]at hp;cases hp
 |E8 h=>exact .E8 M hp h
 |LA q e h1 h2 h3=>
  obtain rfl:=one q h1;refine .refused e (by rcases h2 with h2|h2<;>simp[h2]) λh4=>?_
  rw[h4]at h3;cases h3
 |gone q z i h1 h2 h3=>
  obtain rfl:=one q h1;refine .refused 3 (by simp) λh4=>?_
  rw[h4]at h2;have h5:i++[z]=[q]:=((Prod.mk.inj h2).1).symm
  have h6:z=q:=by
   cases i with
   |nil=>simpa using h5
   |cons a i=>simp at h5
  subst h6;have:=hM z hp;rw[h3]at this;cases this
 |found q z i t h1 h2 h3 h4 h5 h6=>
  obtain rfl:=one q h1;refine .found z i t h3 h4 λh7=>?_
  rw[h7]at h2;have h5:i++[z]=[q]:=((Prod.mk.inj h2).1).symm;cases i with
  |nil=>
   refine⟨by simpa using h5,rfl,?_⟩
   rw[h5]at h3;simpa using h3.symm
  |cons a i=>simp at h5
theorem hZ{l:List Od}{day:Int}{q s:Pt}(h:AN l day q=([q],0)):JY l day q s=(q,false):=by
 unfold JY;rw[h,if_pos rfl];rfl
theorem gU{F:List Ff.Fm}{r:List Ch}{l:List Od}(h:Good F r l){day:Int}{ls:List Bs}{m:Int}(h0:0<=m)(h6:m<=6)(hk:(Ai F r l day ls m).k=1):
  ∃q c,Ai F r l day ls m=⟨1,[q],c,0⟩/\c.length<=5/\AN l day q=([q],0)/\(AW r day q).2=0/\-1000000<=day/\day<=1000000:=by
 rw[Cv h day ls h0 h6]at hk ⊢;by_cases hb:J3 F day ls=true
 ·rw[if_pos hb]at hk;exact absurd hk (show ¬(3:Int)=1 by decide)
 ·rw[if_neg hb]at hk ⊢
  have hd:-1000000<=day/\day<=1000000:=by
   unfold J3 at hb;simp only[Bool.or_eq_true,decide_eq_true_eq,not_or]at hb;omega
  have hn:=F4 h.r h.o day (Bw r day (readAll F ls) m);generalize Dv r l day (Bw r day (readAll F ls) m)=y at hn hk;cases hn with
  |none h=>exact absurd hk (show ¬(3:Int)=1 by decide)
  |E8 h=>exact absurd hk (show ¬(2:Int)=1 by decide)
  |LA p e' h1 h2 h3|gone p q i h1 h2 h3=>exact absurd hk (show ¬(3:Int)=1 by decide)
  |found p q i t h1 h2 h3 h4 h5 h6=>exact⟨q,i++[q],rfl,h4,h5,h6,hd.1,hd.2⟩
end Go.Proofs.YtdadkhcdoaeabaaGreatDoor