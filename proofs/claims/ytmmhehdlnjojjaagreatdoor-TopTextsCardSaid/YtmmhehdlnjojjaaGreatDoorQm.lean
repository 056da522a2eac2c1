/- A part of the proof. -/
import Derived.Test.YtmmhehdlnjojjaaGreatDoorQn
set_option linter.unusedVariables false
set_option maxRecDepth 100000
set_option linter.unusedSectionVars false
set_option linter.unusedSimpArgs false
open Go.Proofs.Tryz
open Go.Proofs.Tryz renaming prog → Pg
open List renaming append_assoc → Ai, all_eq_true → Ax, length_append → A0, length_cons → A2, singleton_append → A3, nil_append → A4, cons_append → A5, length_drop → A6, foldl_cons → A9, take_append_of_le_length → BG, length_singleton → BQ, flatMap_cons → BR, take_succ_cons → BU, not_mem_nil → Cb, mem_cons → Cc, length_nil → Cz, map_cons → CJ, drop_succ_cons → CL, isPrefixOf → CT, append_nil → C0, drop_drop → C1, take_of_length_le → C3, zipWith_cons_cons → C4, headD_cons → C5, zipWith → De, mem_map → Dj, length_map → Dk, drop_zero → Dp, take_left → Dv, filter_eq_self → Dy, mem_cons_self → DL, mem_singleton → DT, flatten_cons → D0, filter_cons → D6, flatMap_nil → D7, of_mem_zip → ET, take_zero → EU, take_take → EV, foldl_nil → EW, find? → E0
open Bool renaming and_eq_true → AA, false_and → Dx, and_self → DW, or_eq_true → D9
open Nat renaming add_assoc → A1, lt_irrefl → DP, strongRecOn → EA
open Int renaming toNat_of_nonneg → Ce
open Option renaming some → C2
namespace Go.Proofs.YtmmhehdlnjojjaaGreatDoor
theorem YaM{P:Prop}(e:P:=by have h3:decide (b.toNat=37)=false:=decide_eq_false λe=>h2 (UInt8.toNat_inj.1 e);simp only[A5];unfold F6;rw[h1,h3];rfl):P:=e
end Go.Proofs.YtmmhehdlnjojjaaGreatDoor
namespace Go.Proofs.YtmmhehdlnjojjaaGreatDoor.Np.Pl
open Go.Av Go.Av.Net
def ZD{σ:Type}(b:Bool)(k:Int)(x:Bs)(B:σ->List KT->Nat->PR σ)(ts:List KT):Nat->σ->Nat->PR σ
 |0,s,i=>.ok s i
 |f+1,s,i=>bif (AW ts k x i == b)then (B s ts i).bind λs i=>ZD b k x B ts f s i else .ok s i
theorem PR.xM{α β γ:Type}(x:PR α)(f:α->Nat->PR β)(g:β->Nat->PR γ):(x.bind f).bind g=x.bind λa i=>(f a i).bind g:=by cases x<;>rfl
theorem PR.Ze1{α:Type}(x:PR α):(x.bind λa i=>.ok a i)=x:=by cases x<;>rfl
theorem PR.bind_congr{α β:Type}{x:PR α}{f g:α->Nat->PR β}(h:∀a i,x=.ok a i->f a i=g a i):x.bind f=x.bind g:=by
 cases x with
 |ok a i=>exact h a i rfl
 |fail e k=>rfl
def Zg2(l:List Int)(ts:List KT)(i:Nat):PR (List Int):=(AD ts 1 Ba i).bind λ_ i=>(NQ ts i).bind λn i=>(AD ts 3 Aw i).bind λ_ i=>.ok (l++[n]) i
theorem pQ(ts:List KT):∀(f:Nat)(l:List Int)(i:Nat),ZD true 1 Ba Zg2 ts f l i=(Ie ts f i).bind λr i=>.ok (l++r) i
 |0,l,i=>by simp[ZD,Ie,PR.bind]
 |f+1,l,i=>by
  unfold ZD Ie;cases AW ts 1 Ba i with
  |false=>simp[PR.bind]
  |true=>
   simp only[beq_self_eq_true,cond_true,Zg2,PR.xM];refine PR.bind_congr λ_ i _=>PR.bind_congr λn i _=>PR.bind_congr λ_ i _=>?_;simp only[PR.bind];rw[pQ ts f];refine PR.bind_congr λr i _=>?_;simp[PR.bind]
def Ze0(n:Nw)(ts:List KT)(i:Nat):PR Nw:=(Zr ts i).bind λc i=>.ok {n with Aq:=n.Aq++[c.2],names:=n.names++[c.1]} i
def oN(n:Nw)(ts:List KT)(i:Nat):PR Nw:=(PA ts i).bind λc i=>.ok {n with opers:=n.opers++[c]} i
def ZdK(n:Nw)(ts:List KT)(i:Nat):PR Nw:=(VT ts n i).bind λc i=>.ok {n with Ag:=n.Ag++[c]} i
def ZdZ(n:Nw)(ts:List KT)(i:Nat):PR Nw:=(VZ ts n i).bind λc i=>.ok {n with Am:=n.Am++[c]} i
def ZeZ(n:Nw)(ts:List KT)(i:Nat):PR Nw:=(Zo ts i).bind λc i=>.ok {n with Ao:=n.Ao++[c]} i
theorem qX(ts:List KT):∀(f:Nat)(n:Nw)(i:Nat),GS ts f n i=ZD true 1 AL Ze0 ts f n i
 |0,n,i=>rfl
 |f+1,n,i=>by
  unfold ZD GS;cases AW ts 1 AL i with
  |false=>rfl
  |true=>simp only[beq_self_eq_true,cond_true,Ze0,PR.xM];exact PR.bind_congr λc i _=>qX ts f _ i
theorem bM(ts:List KT):∀(f:Nat)(n:Nw)(i:Nat),EM ts f n i=ZD true 1 AO oN ts f n i
 |0,n,i=>rfl
 |f+1,n,i=>by
  unfold ZD EM;cases AW ts 1 AO i with
  |false=>rfl
  |true=>simp only[beq_self_eq_true,cond_true,oN,PR.xM];exact PR.bind_congr λc i _=>bM ts f _ i
theorem oO(ts:List KT):∀(f:Nat)(n:Nw)(i:Nat),GA ts f n i=ZD true 1 Ct ZdK ts f n i
 |0,n,i=>rfl
 |f+1,n,i=>by
  unfold ZD GA;cases AW ts 1 Ct i with
  |false=>rfl
  |true=>simp only[beq_self_eq_true,cond_true,ZdK,PR.xM];exact PR.bind_congr λc i _=>oO ts f _ i
theorem oV(ts:List KT):∀(f:Nat)(n:Nw)(i:Nat),FE ts f n i=ZD true 1 DA ZdZ ts f n i
 |0,n,i=>rfl
 |f+1,n,i=>by
  unfold ZD FE;cases AW ts 1 DA i with
  |false=>rfl
  |true=>simp only[beq_self_eq_true,cond_true,ZdZ,PR.xM];exact PR.bind_congr λc i _=>oV ts f _ i
theorem qU(ts:List KT):∀(f:Nat)(n:Nw)(i:Nat),FN ts f n i=ZD true 1 CD ZeZ ts f n i
 |0,n,i=>rfl
 |f+1,n,i=>by
  unfold ZD FN;cases AW ts 1 CD i with
  |false=>rfl
  |true=>simp only[beq_self_eq_true,cond_true,ZeZ,PR.xM];exact PR.bind_congr λc i _=>qU ts f _ i
def sec(k:Bs)(B:Nw->List KT->Nat->PR Nw)(n:Nw)(ts:List KT)(i:Nat):PR Nw:=ZD true 1 k B ts ts.length n i
def ZkY(n:Nw)(ts:List KT)(i:Nat):PR Nw:=bif decide (i<ts.length)then .fail 90 i else .ok n i
def ZgH(ts:List KT)(i:Nat):PR Nw:=
 (sec AL Ze0 dW ts i).bind λn i=>(sec AO oN n ts i).bind λn i=>(sec Ct ZdK n ts i).bind λn i=>(sec DA ZdZ n ts i).bind λn i=>(sec CD ZeZ n ts i).bind λn i=>ZkY n ts i
theorem ZdQ(ts:List KT):PG ts=ZgH ts 0:=by
 unfold PG ZgH sec;simp only[qX,bM,oO,oV,qU];rfl
def Mh(k:Int)(t:Bs):Bs:=bif decide (k=4)then 34::(t++[34])else t
theorem Po:∀(a r:Bs),(∀b∈a,Dt b=true)->(∀c,r.head?=some c->Dt c=false)->Bz (a++r)=(a.length,(a.filter DG).length)
 |[],r,_,hr=>by
  cases r with
  |nil=>rfl
  |cons c r=>simp only[A4,Bz];rw[hr c rfl];rfl
 |b::a,r,ha,hr=>by simp only[A5,Bz];rw[ha b (DL ..),Po a r (λx hx=>ha x (List.mem_cons_of_mem _ hx)) hr];simp only[cond_true,A2,D6];cases DG b<;>simp
theorem QC:∀(s:Bs),(∀b∈s.take (Bz s).1,Dt b=true)/\(∀c,(s.drop (Bz s).1).head?=some c->Dt c=false)/\(Bz s).1<=s.length/\(Bz s).2=((s.take (Bz s).1).filter DG).length
 |[]=>by simp[Bz]
 |b::r=>by
  obtain⟨h1,h2,h3,h4⟩:=QC r;unfold Bz;cases hw:Dt b with
  |false=>simp only[cond_false,EU,Dp,List.head?_cons,C2.injEq];simp[hw]
  |true=>
   simp only[cond_true,BU,CL,A2];refine⟨λx hx=>?_,h2,by omega,?_⟩
   ·rcases Cc.1 hx with rfl|hx;·exact hw
    exact h1 x hx
   rw[D6,h4];cases DG b<;>simp
theorem ZU:Dt 34=false/\Dt 32=false/\Dt 9=false/\Dt 10=false/\Dt 13=false/\Dt 37=false/\Dt 62=false:=by decide
theorem Wz(s r':Bs)(n:Nat)(hn:n=(Bz s).1)(hr:∀c,r'.head?=some c->Dt c=false):Bz (s.take n++r')=Bz s:=by
 obtain⟨h1,h2,h3,h4⟩:=QC s;subst hn;rw[Po _ _ h1 hr,<-h4];refine Prod.ext ?_ rfl;simp;omega
theorem Yb:∀(f i:Nat)(r:Bs),0<KP f i r->i+1<=KP f i r/\KP f i r<=i+r.length
 |0,i,r,h=>by simp[KP]at h
 |f+1,i,[],h=>by simp[KP]at h
 |f+1,i,b::r,h=>by
  unfold KP at h⊢;by_cases h1:b.toNat=34;rw[decide_eq_true h1,cond_true]at *;simp only[A2];omega;rw[decide_eq_false h1,cond_false]at *;cases q:(decide (b.toNat<32)||decide (126<b.toNat))with
  |true=>rw[q]at h;simp at h
  |false=>
   rw[q]at h;simp only[cond_false]at h ⊢;have:=Yb f (i+1) r h;simp only[A2];omega
theorem ZY:∀(f i:Nat)(r r':Bs),0<KP f i r->KP f i (r.take (KP f i r-i)++r')=KP f i r/\r.take (KP f i r-i)=r.take (KP f i r-i-1)++[34]
 |0,i,r,r',h=>by simp[KP]at h
 |f+1,i,[],r',h=>by simp[KP]at h
 |f+1,i,b::r,r',h=>by
  have hb:=Yb (f+1) i (b::r) h;by_cases h1:b.toNat=34;·(have e:KP (f+1) i (b::r)=i+1:=by unfold KP;rw[decide_eq_true h1,cond_true]);rw[e];have eb:b=34:=UInt8.toNat_inj.1 h1;rw[show i+1-i=1 by omega];simp only[BU,EU,A5,A4];refine⟨?_,by simp[eb]⟩;unfold KP;rw[decide_eq_true h1,cond_true]
  cases q:(decide (b.toNat<32)||decide (126<b.toNat))with
  |true=>unfold KP at h;rw[decide_eq_false h1,q]at h;simp at h
  |false=>
   (have e:∀x,KP (f+1) i (b::x)=KP f (i+1) x:=λx=>by rw[show KP (f+1) i (b::x)=bif decide (b.toNat=34)then i+1 else bif decide (b.toNat<32)||decide (126<b.toNat)then 0 else KP f (i+1) x from rfl,decide_eq_false h1,q];rfl);rw[e]at h hb ⊢;have OJ:=Yb f (i+1) r h;obtain⟨i1,i2⟩:=ZY f (i+1) r r' h;generalize KP f (i+1) r=n at*;obtain⟨m,rfl⟩:∃m,n=i+1+m+1:=⟨n-i-2,by omega⟩;rw[show i+1+m+1-i=m+1+1 by omega,show m+1+1-1=m+1 by omega];rw[show i+1+m+1-(i+1)=m+1 by omega]at i1 i2;rw[show m+1-1=m by omega]at i2;simp only[BU,A5,e];exact⟨i1,by rw[i2]⟩
theorem ZgA(s:Bs)(h:0<BS s):BS s=(Bz s).1:=by
 unfold BS at*;cases q:(!decide ((Bz s).2=(Bz s).1)||decide (8<(Bz s).1))with
 |true=>rw[q]at h;simp at h
 |false=>rfl
theorem ZdR(s:Bs)(h:0<BA s):BA s=(Bz s).1:=by
 unfold BA at*;cases q:(decide ((Bz s).2=(Bz s).1)||decide (20<(Bz s).1)||decide (s.headD 0=95))with
 |true=>rw[q]at h;simp at h
 |false=>rfl
theorem ZaQ{s s':Bs}(h:Bz s'=Bz s):BS s'=BS s:=by unfold BS;rw[h]
theorem ZdS{s s':Bs}(h:Bz s'=Bz s)(hh:s'.headD 0=s.headD 0):BA s'=BA s:=by unfold BA;rw[h,hh]
theorem headD_take{s r':Bs}{n:Nat}(h:0<n)(hs:n<=s.length):(s.take n++r').headD 0=s.headD 0:=by
 cases s with
 |nil=>simp at hs;omega
 |cons b s=>cases n with
  |zero=>omega
  |succ n=>rfl
theorem Nn{s:Bs}(h:∀c,s.head?=some c->Dt c=false):Bz s=(0,0):=by
 cases s with
 |nil=>rfl
 |cons c s=>unfold Bz;rw[h c rfl];rfl
theorem F1{s:Bs}(h:Bz s=(0,0)):BS s=0/\BA s=0:=by
 unfold BS BA;rw[h];simp
theorem zP(s r':Bs)(hs:0<BJ s)(hr:∀c,r'.head?=some c->c≠62\/(s.drop (BJ s)).head?=some c):
  BJ (s.take (BJ s)++r')=BJ s/\BJ s<=s.length/\∃x∈syms,s.take (BJ s)=x:=by
 cases hq:syms.find? (λx=>x.isPrefixOf s)with
 |none=>unfold BJ at hs;rw[hq]at hs;simp at hs
 |some x=>
  have hl:BJ s=x.length:=by unfold BJ;rw[hq]
  have hp:=List.find?_some hq;have hm:=List.mem_of_find?_eq_some hq;rw[List.isPrefixOf_iff_prefix]at hp;obtain⟨r,rfl⟩:=hp;rw[hl]at hr ⊢;simp only[Dv,List.drop_left]at *;refine⟨?_,by simp,x,hm,rfl⟩;clear hl hs;by_cases hd:x=[45]
  ·subst hd
   have h1:∀c,r'.head?=some c->c≠62:=by
    intro c hc;rcases hr c hc with h|h;exact h;intro e;subst e;cases r with
    |nil=>simp at h
    |cons d r=>
     simp at h;subst h;simp[syms,E0]at hq
   unfold BJ;cases r' with
   |nil=>decide
   |cons c r'=>
    have:=h1 c rfl;(have h2:((62:UInt8) == c)=false:=by simpa using λe=>this e.symm);simp[syms,E0,CT,h2]
  simp only[syms,Cc,Cb,or_false]at hm;unfold BJ;rcases hm with rfl|rfl|rfl|rfl|rfl|rfl|rfl|rfl|rfl|rfl|rfl|rfl|rfl;all_goals first|(exact absurd rfl hd)|simp[syms,E0,CT]
theorem Ng{s:Bs}{n:Nat}{k:Int}{t:Bs}(h:ES s=some (n,k,t))(r':Bs)(hr:∀c,r'.head?=some c->(Dt c=false/\c≠62)\/(s.drop n).head?=some c):
  ES (s.take n++r')=some (n,k,t)/\s.take n=Mh k t/\1<=n/\n<=s.length:=by
 obtain⟨w1,w2,w3,w4⟩:=QC s;unfold ES at h;by_cases c1:0<BS s
 ·rw[decide_eq_true c1,cond_true]at h;simp only[C2.injEq,Prod.mk.injEq]at h;obtain⟨rfl,rfl,rfl⟩:=h;have e:=ZgA s c1;have Ll:Bz (s.take (BS s)++r')=Bz s:=Wz s r' _ e λc hc=>by rcases hr c hc with h|h;exact h.1;exact w2 c (by rw[<-e];exact h)
  refine⟨?_,rfl,c1,by omega⟩;unfold ES;rw[ZaQ Ll,decide_eq_true c1,cond_true,BG (by simp;omega),EV,Nat.min_self]
 rw[decide_eq_false c1,cond_false]at h;by_cases c2:0<BA s
 ·rw[decide_eq_true c2,cond_true]at h;simp only[C2.injEq,Prod.mk.injEq]at h;obtain⟨rfl,rfl,rfl⟩:=h;have e:=ZdR s c2;have Ll:Bz (s.take (BA s)++r')=Bz s:=Wz s r' _ e λc hc=>by rcases hr c hc with h|h;exact h.1;exact w2 c (by rw[<-e];exact h)
  refine⟨?_,rfl,c2,by omega⟩;unfold ES;rw[ZaQ Ll,decide_eq_false c1,cond_false,ZdS Ll (headD_take c2 (by omega)),decide_eq_true c2,cond_true,BG (by simp;omega),EV,Nat.min_self]
 rw[decide_eq_false c2,cond_false]at h;by_cases c3:0<B9 s
 ·rw[decide_eq_true c3,cond_true]at h;simp only[C2.injEq,Prod.mk.injEq]at h;obtain⟨hn,rfl,rfl⟩:=h;cases s with
  |nil=>simp[B9]at c3
  |cons b s=>
   (have e:∀x,B9 (b::x)=bif decide (b.toNat=34)then KP 201 1 x else 0:=λx=>rfl);by_cases hb:b.toNat=34
   ·rw[decide_eq_true hb]at e;simp only[cond_true]at e;have eb:b=34:=UInt8.toNat_inj.1 hb;rw[e]at c3 hn;obtain⟨t1,t2⟩:=ZY 201 1 s r' c3;have t3:=Yb 201 1 s c3;subst hn;rw[e]at *;generalize hm:KP 201 1 s=m at*;obtain⟨m,rfl⟩:∃m',m=m'+2:=⟨m-2,by omega⟩;rw[show m+2-1=m+1 by omega]at t1 t2 ⊢;rw[show m+1-1=m by omega]at t2;(have hw:∀x,Bz (b::x)=(0,0):=λx=>Nn λc hc=>by cases hc;rw[eb];exact ZU.1);have hz:=λx=>F1 (hw x);refine⟨?_,?_,by omega,by simp;omega⟩;·rw[show(b::s).take (m+2)++r'=b::(s.take (m+1)++r')from rfl];unfold ES;rw[(hz _).1,(hz _).2,e];have e2:KP 201 1 (s.take (m+1)++r')=m+2:=t1;(have e3:List.take (m+1) s++r'=(s.take m++[34])++r':=by rw[t2]);rw[e2];(have hlen:(s.take m).length=m:=by simp;omega);simp only[DP,decide_false,cond_false,Nat.zero_lt_succ,decide_true,cond_true,Nat.add_sub_cancel,show m+2-1=m+1 by omega,BU,CL,Dp];rw[e3,Ai,BG (by omega),C3 (by omega)]
    simp only[BU,CL,Dp,Mh,decide_true,cond_true];rw[t2,eb]
   rw[decide_eq_false hb]at e;rw[e]at c3;simp at c3
 rw[decide_eq_false c3,cond_false]at h;by_cases c4:0<BJ s
 ·rw[decide_eq_true c4,cond_true]at h;simp only[C2.injEq,Prod.mk.injEq]at h;obtain⟨rfl,rfl,rfl⟩:=h;obtain⟨s1,s2,x,s3,s4⟩:=zP s r' c4 λc hc=>(hr c hc).imp (·.2) id;refine⟨?_,rfl,c4,s2⟩;have hx:∀x∈syms,∀r,(∀c,(x++r).head?=some c->Dt c=false)/\B9 (x++r)=0:=by intro x hx r;simp only[syms,Cc,Cb,or_false]at hx;rcases hx with rfl|rfl|rfl|rfl|rfl|rfl|rfl|rfl|rfl|rfl|rfl|rfl|rfl;all_goals exact⟨λc hc=>by cases hc;decide,rfl⟩
  obtain⟨x1,x2⟩:=hx x s3 r';have hz:=F1 (Nn x1);unfold ES;rw[s4]at s1 ⊢;rw[hz.1,hz.2,x2,s1];have hlen:x.length=BJ s:=by rw[<-s4];simp;omega
  simp only[DP,decide_false,cond_false,c4,decide_true,cond_true];rw[BG (by omega),C3 (by omega)]
 rw[decide_eq_false c4,cond_false]at h;cases h
def Bnd(r:Bs):Prop:=∀c,r.head?=some c->Dt c=false/\c≠62
def Good(k:Int)(t:Bs):Prop:=∀r,Bnd r->ES (Mh k t++r)=some ((Mh k t).length,k,t)
theorem dV{k:Int}{t:Bs}(h:Good k t):1<=(Mh k t).length:=by
 have:=h [] (λc hc=>by simp at hc);obtain⟨_,h1,h2,h3⟩:=Ng this [] λc hc=>by simp at hc
 exact h2
theorem Wq{b:UInt8}{r:Bs}{x:Nat×Int×Bs}(h:ES (b::r)=some x):Fx b=false/\b≠37:=by
 have key:∀b:UInt8,(b=32\/b=9\/b=10\/b=13\/b=37)->ES (b::r)=none:=by
  intro b hb;have hw:Bz (b::r)=(0,0):=Nn λc hc=>by cases hc;rcases hb with rfl|rfl|rfl|rfl|rfl<;>decide
  have hz:=F1 hw;unfold ES;rw[hz.1,hz.2];rcases hb with rfl|rfl|rfl|rfl|rfl<;>rfl
 have hn:∀b':UInt8,(b'=32\/b'=9\/b'=10\/b'=13\/b'=37)->b≠b':=λb' dT e=>by rw[e,key b' dT]at h;cases h
 refine⟨?_,hn 37 (by simp)⟩;have e:∀(m:UInt8),b≠m->decide (b.toNat=m.toNat)=false:=λm hm=>decide_eq_false λq=>hm (UInt8.toNat_inj.1 q);have e1:=e 32 (hn 32 (by simp));have e2:=e 9 (hn 9 (by simp));have e3:=e 10 (hn 10 (by simp));have e4:=e 13 (hn 13 (by simp));unfold Fx;rw[show(32:UInt8).toNat=32 from rfl]at e1;rw[show(9:UInt8).toNat=9 from rfl]at e2;rw[show(10:UInt8).toNat=10 from rfl]at e3;rw[show(13:UInt8).toNat=13 from rfl]at e4;rw[e1,e2,e3,e4];rfl
inductive Fh:Bs->Nat->List Go.Av.Net.Tok->Prop
 |nil {r p}:F6 false r=r.length->Fh r p []
 |cons {r p n k t l}:F6 false r<r.length->ES (r.drop (F6 false r))=some (n,k,t)->Fh (r.drop (F6 false r+n)) (p+F6 false r+n) l->Fh r p (⟨k,t,p+F6 false r⟩::l)
theorem Lm:∀(b:Bool)(s:Bs),F6 b s<=s.length
 |_,[]=>by simp[F6]
 |false,b::r=>by
  have h1:=Lm false r;have h2:=Lm true r;unfold F6;cases Fx b<;>simp;·cases decide (b.toNat=37)<;>simp<;>omega
  omega
 |true,b::r=>by have h1:=Lm false r;have h2:=Lm true r;unfold F6;cases decide (b.toNat=10)<;>simp<;>omega
theorem oX(s:Bs):∀(f p c:Nat)(l:List Go.Av.Net.Tok),p<=s.length->s.length<p+f->c<=3000->G7 s f p c=.ok l->Fh (s.drop p) p l/\c+l.length<=3000
 |0,p,c,l,h1,h2,h3,h=>by omega
 |f+1,p,c,l,h1,h2,h3,h=>by
  have hg:=Lm false (s.drop p);simp only[A6]at hg;unfold G7 at h;by_cases c1:p+F6 false (s.drop p)=s.length;rw[decide_eq_true c1,cond_true]at h;cases h;exact⟨.nil (by simp;omega),by simpa using h3⟩;rw[decide_eq_false c1,cond_false]at h;by_cases c2:c=3000;rw[decide_eq_true c2,cond_true]at h;cases h;rw[decide_eq_false c2,cond_false]at h;cases ht:ES (s.drop (p+F6 false (s.drop p)))with
  |none=>rw[ht]at h;cases h
  |some x=>
   obtain⟨n,k,t⟩:=x;rw[ht]at h;simp only at h;(obtain⟨_,t1,t2,t3⟩:=Ng ht [] λc hc=>by simp at hc);simp only[A6]at t3;cases hr:G7 s f (p+F6 false (s.drop p)+n) (c+1)with
   |err e q=>rw[hr]at h;cases h
   |ok r=>
    rw[hr]at h;cases h;obtain⟨i1,i2⟩:=oX s f _ (c+1) r (by omega) (by omega) (by omega) hr;refine⟨.cons (by simp;omega) (by rw[C1];exact ht) ?_,by simp only[A2];omega⟩;rw[C1,<-A1];exact i1
theorem rG(s:Bs):∀(f p c:Nat)(l:List Go.Av.Net.Tok),p<=s.length->s.length<p+f->c+l.length<=3000->Fh (s.drop p) p l->G7 s f p c=.ok l
 |0,p,c,l,h1,h2,h3,h=>by omega
 |f+1,p,c,l,h1,h2,h3,h=>by
  have hg:=Lm false (s.drop p);simp only[A6]at hg;unfold G7;cases h with
  |nil q=>
   rw[A6]at q;rw[decide_eq_true (by omega),cond_true]
  |cons q1 q2 q3=>
   rename_i n k t l;rw[A6]at q1;simp only[A2]at h3;rw[decide_eq_false (by omega),cond_false,decide_eq_false (by omega),cond_false];rw[C1]at q2 q3;rw[q2];simp only;(obtain⟨_,t1,t2,t3⟩:=Ng q2 [] λc hc=>by simp at hc);simp only[A6]at t3;rw[rG s f (p+F6 false (s.drop p)+n) (c+1) l (by omega) (by omega) (by omega) (by rw[A1];rw[A1]at q3;exact q3)];rfl
theorem Za6{s:Bs}{l:List Go.Av.Net.Tok}:NP s=.ok l↔s.length<=8000/\l.length<=3000/\Fh s 0 l:=by
 unfold NP;constructor;intro h;by_cases c:8000<s.length;rw[decide_eq_true c]at h;cases h;rw[decide_eq_false c,cond_false]at h;obtain⟨h1,h2⟩:=oX s (s.length+1) 0 0 l (by omega) (by omega) (by omega) h;exact⟨by omega,by omega,h1⟩;intro⟨h1,h2,h3⟩;rw[decide_eq_false (by omega),cond_false];exact rG s _ 0 0 l (by omega) (by omega) (by omega) h3
def XZ(G:Bs):Prop:=(∀x,F6 false (G++x)=G.length+F6 false x)/\Bnd G/\G≠[]
theorem Fh.Zc{G:Bs}(hG:XZ G){r:Bs}{p:Nat}{l:List Go.Av.Net.Tok}(h:Fh r (p+G.length) l):Fh (G++r) p l:=by
 have e:=hG.1 r;cases h with
 |nil q=>exact .nil (by rw[e,q];simp)
 |@cons r p n k t l q1 q2 q3=>
  have d:∀k,(G++r).drop (G.length+k)=r.drop k:=λk=>by rw[List.drop_append,List.drop_eq_nil_of_le (by omega)];simp
  rw[A1 p,<-e]at q3 ⊢;refine .cons (by rw[e];simp;omega) (by rw[e,d];exact q2) ?_;rw[e,A1,d];rw[e]at q3;exact q3
theorem ZeH{k:Int}{t r:Bs}(h:Good k t)(hr:Bnd r):F6 false (Mh k t++r)=0:=by
 have:=h r hr;have hp:=dV h;cases hs:Mh k t with
 |nil=>rw[hs]at hp;simp at hp
 |cons b s=>
  rw[hs]at this;obtain⟨h1,h2⟩:=Wq (b:=b) (r:=s++r) this;exact YaM
theorem Fh.tok{k:Int}{t r:Bs}(h:Good k t)(hr:Bnd r){p:Nat}{l:List Go.Av.Net.Tok}(hl:Fh r (p+(Mh k t).length) l):Fh (Mh k t++r) p (⟨k,t,p⟩::l):=by
 have e:=ZeH h hr;have hp:=dV h;have:=Fh.cons (r:=Mh k t++r) (p:=p) (n:=(Mh k t).length) (k:=k) (t:=t) (l:=l) (by rw[e];simp;omega) (by rw[e];exact h r hr) (by rw[e];simpa using hl);rw[e]at this;exact this
theorem Q7{x:Bs}(h1:∀b∈x,Dt b=true)(h2:∃b∈x,DG b=false)(h3:x.length<=20)(h4:x.headD 0≠95):Good 1 x:=by
 intro r hr;have e:=Po x r h1 λc hc=>(hr c hc).1;have hx:1<=x.length:=by obtain⟨b,hb,_⟩:=h2;exact List.length_pos_of_mem hb
 have hf:(x.filter DG).length≠x.length:=by intro q;obtain⟨b,hb,hd⟩:=h2;have:=Dy.1 (List.Sublist.eq_of_length (List.filter_sublist) q) b hb;rw[hd]at this;cases this
 have hn:BS (x++r)=0:=by unfold BS;rw[e];simp[hf]
 have hm:BA (x++r)=x.length:=by
  unfold BA;rw[e]
  have hh:(x++r).headD 0=x.headD 0:=by cases x with
   |nil=>simp at hx
   |cons=>rfl
  simp only[hf,hh,h4,decide_false,Bool.false_or,Bool.or_false,show ¬20<x.length by omega];rfl
 unfold ES Mh;simp only[show ¬(1:Int)=4 by decide,decide_false,cond_false,hn,hm,DP,hx,show 0<x.length by omega,decide_true,cond_true,Dv]
theorem UY{x:Bs}(h1:∀b∈x,DG b=true)(h2:1<=x.length)(h3:x.length<=8):Good 2 x:=by
 intro r hr;have e:=Po x r (λb hb=>by unfold Dt;rw[h1 b hb];simp) λc hc=>(hr c hc).1;rw[Dy.2 h1]at e;have hn:BS (x++r)=x.length:=by unfold BS;rw[e];simp[show ¬8<x.length by omega]
 unfold ES Mh;simp only[show ¬(2:Int)=4 by decide,decide_false,cond_false,hn,show 0<x.length by omega,decide_true,cond_true,Dv]
theorem ZaU{b:UInt8}(h:(BM b||DG b||decide (b.toNat=95))=true):Dt b=true:=by
 unfold Dt BM at*;simp only[D9]at h ⊢;rcases h with (h|h)|h;exact .inl (.inl (.inr h));exact .inr h;exact .inl (.inr h)
theorem Hr{x:Bs}(h:An x=true):Good 1 x:=by
 unfold An at h;simp only[AA,decide_eq_true_eq,Ax]at h;obtain⟨⟨⟨⟨h1,h2⟩,h3⟩,h4⟩,h5⟩:=h;cases x with
 |nil=>simp at h1
 |cons b x=>
  simp only[C5]at h3;refine Q7 (λc hc=>ZaU (h4 c hc)) ⟨b,DL ..,?_⟩ (by omega) ?_;unfold BM at h3;unfold DG;simp only[AA,decide_eq_true_eq]at h3;simp;omega;simp only[C5];intro e;subst e;exact absurd h3 (by decide)
theorem ZbZ{x:Bs}(h:x∈[HV,D2,Aw,Ek]):∀r,ES (x++r)=some (x.length,3,x):=by
 intro r;simp only[Cc,Cb,or_false]at h;have key:∀c:UInt8,Dt c=false->Bz (c::r)=(0,0):=λc hc=>Nn λd hd=>by cases hd;exact hc
 rcases h with rfl|rfl|rfl|rfl
 all_goals
  unfold ES;first
  |rw[show HV++r=123::r from rfl,(F1 (key 123 (by decide))).1,(F1 (key 123 (by decide))).2]
  |rw[show D2++r=125::r from rfl,(F1 (key 125 (by decide))).1,(F1 (key 125 (by decide))).2]
  |rw[show Aw++r=59::r from rfl,(F1 (key 59 (by decide))).1,(F1 (key 59 (by decide))).2]
  |rw[show Ek++r=58::r from rfl,(F1 (key 58 (by decide))).1,(F1 (key 58 (by decide))).2]
  rfl
theorem Zb6:XZ [32]:=⟨λx=>by simp[F6,Fx];omega,λc hc=>by cases hc;decide,by simp⟩
def Jh:Nat->Bs:=λn=>if h:n<10 then [48+n.toUInt8]else Jh (n/10)++[48+(n%10).toUInt8]
termination_by n=>n
theorem JD(n:Nat):Jh n=if n<10 then [48+n.toUInt8]else Jh (n/10)++[48+(n%10).toUInt8]:=by
 rw[Jh];split<;>rfl
theorem P9{n:Nat}(h:n<10):((48:UInt8)+n.toUInt8).toNat=48+n:=by
 have hc:n=0\/n=1\/n=2\/n=3\/n=4\/n=5\/n=6\/n=7\/n=8\/n=9:=by omega
 rcases hc with h|h|h|h|h|h|h|h|h|h<;>subst h<;>rfl
theorem eV{n:Nat}(h:n<10):DG ((48:UInt8)+n.toUInt8)=true:=by
 unfold DG;rw[P9 h];simp;omega
theorem eW:∀(n:Nat),∀b∈Jh n,DG b=true:=by
 intro n
 induction n using EA with
 |ind n ih=>
  intro b hb;rw[JD]at hb;split at hb;·rename_i h;rw[DT.1 hb];exact eV h
  rename_i h;rcases List.mem_append.1 hb with hb|hb;exact ih (n/10) (by omega) b hb;rw[DT.1 hb];exact eV (by omega)
theorem KF(k:Nat):∀n:Nat,n<10^(k+1)->1<=(Jh n).length/\(Jh n).length<=k+1:=by
 induction k with
 |zero=>intro n h;rw[JD,if_pos (by simpa using h)];simp
 |succ k ih=>
  intro n h;rw[JD];split;simp;have:=ih (n/10) (by rw[Nat.pow_succ]at h;omega);simp only[A0,BQ];omega
theorem Zcn:∀n:Nat,Vg (Jh n)=n:=by
 intro n
 induction n using EA with
 |ind n ih=>
  rw[JD];split;·rename_i h;simp only[Vg,A9,EW,P9 h];omega
  rename_i h;have:=ih (n/10) (by omega);unfold Vg at this⊢;rw[List.foldl_append,this];simp only[A9,EW,P9 (show n%10<10 by omega)];omega
theorem Xw{n:Nat}(h:n<100000000):Good 2 (Jh n):=UY (eW n) (KF 7 n (by omega)).1 (KF 7 n (by omega)).2
theorem Jz:∀x∈Bh,Good 1 x:=by
 intro x hx;have:∀x∈Bh,(∀b∈x,Dt b=true)/\(∃b∈x,DG b=false)/\x.length<=20/\x.headD 0≠95:=by decide
 obtain⟨h1,h2,h3,h4⟩:=this x hx;exact Q7 h1 h2 h3 h4
theorem Fh.sym{x r:Bs}(hx:x∈[HV,D2,Aw,Ek]){p:Nat}{l:List Go.Av.Net.Tok}(hl:Fh r (p+x.length) l):Fh (x++r) p (⟨3,x,p⟩::l):=by
 have h:=ZbZ hx r;have hp:1<=x.length:=by simp only[Cc,Cb,or_false]at hx;rcases hx with rfl|rfl|rfl|rfl<;>decide
 have e:F6 false (x++r)=0:=by
  cases x with
  |nil=>simp at hp
  |cons b s=>
   obtain⟨h1,h2⟩:=Wq (b:=b) (r:=s++r) h;exact YaM
 have:=Fh.cons (r:=x++r) (p:=p) (n:=x.length) (k:=3) (t:=x) (l:=l) (by rw[e];simp;omega) (by rw[e];exact h) (by rw[e];simpa using hl);rw[e]at this;exact this
theorem Zla(r:Bs):Bnd (32::r):=λc hc=>by cases hc;decide
theorem Fh.Zmv{k:Int}{t r:Bs}(hk:k≠4)(h:Good k t){p:Nat}{l:List Go.Av.Net.Tok}(hl:Fh r (p+t.length+1) l):Fh (t++32::r) p (⟨k,t,p⟩::l):=by
 have e:Mh k t=t:=by unfold Mh;rw[decide_eq_false hk];rfl
 have:=Fh.tok h (Zla r) (p:=p) (l:=l) (by rw[e];exact Fh.Zc (G:=[32]) Zb6 hl);rw[e]at this;exact this
structure JV where
 name:Bs
 oper:Int
 Gs:Int
 Bg:Int
 As:Int
 Ap:Int
 AK:List Bs
structure Na where
 name:Bs
 from_:Int
 VJ:Int
 at_:Int
 Bb:Int
 load:Int
structure G3 where
 Aq:List Dm
 names:List Bs
 opers:List Bs
 Ag:List JV
 Am:List Na
 Ao:List Io
def Hh(l:List Bs)(i:Int):Bool:=decide (0<=i)&&(match l[i.toNat]? with|some x=>decide (idxOf x l=some i.toNat)|none=>false)
def E7(n:Int):Bool:=decide (0<=n)&&decide (n<=99999999)
def Jf(n:Int):Bool:=decide (-99999999<=n)&&decide (n<=99999999)
def CX(c:Dm):Bool:=decide (c.Bw.length=7)&&Jf c.Bc&&c.AZ.all Jf
def HH(n:G3)(o:JV):Bool:=Hh n.opers o.oper&&Hh n.names o.Gs&&E7 o.Bg&&E7 o.As&&E7 o.Ap&&o.AK.all Bt
def PJ(n:G3)(l:Na):Bool:=Hh (n.Ag.map (·.name)) l.from_&&Hh (n.Ag.map (·.name)) l.VJ&&E7 l.at_&&E7 l.Bb&&E7 l.load
def MY(c:Io):Bool:=E7 c.cut&&E7 c.Be
def IP(n:G3):Bool:=n.names.all An&&n.opers.all An&&(n.Ag.all λo=>An o.name)&&(n.Am.all λl=>An l.name)&&n.Ao.all λc=>An c.name
def By(n:G3):Bool:=decide (n.names.length=n.Aq.length)&&IP n&&n.Aq.all CX&&n.Ag.all (HH n)&&n.Am.all (PJ n)&&n.Ao.all MY
def D8(n:Int):Bs:=if n<0 then 45::Jh (-n).toNat else Jh n.toNat
def nameAt(l:List Bs)(i:Int):Bs:=l.getD i.toNat []
def Cs(k v:Bs):Bs:=[32,32]++(k++[32])++(v++[59,10])
def Ku(k name:Bs):Bs:=(k++[32])++(name++[32])++[123,10]
def V8:Bs:=[125,10]
def DH(w:List Bool):Bs:=w.map λb=>if b then 49 else 48
def NW(name:Bs)(c:Dm):Bs:=Ku AL name++Cs Hc (D8 c.Bc)++Cs HU (DH c.Bw)++c.AZ.flatMap (λd=>Cs Ba (D8 d))++V8
def Ju(name:Bs):Bs:=(AO++[32])++(name++[59,10])
def Ls:List Bs->Bs
 |[]=>[]
 |c::r=>[32,32]++CC++((c::r).flatMap λx=>32::x)++[59,10]
def OB(n:G3)(o:JV):Bs:=Ku Ct o.name++Cs AO (nameAt n.opers o.oper)++Cs AL (nameAt n.names o.Gs)++Cs EF (D8 o.Bg)++Cs Fy (D8 o.As)++Cs EG (D8 o.Ap)++Ls o.AK++V8
def PI(n:G3)(l:Na):Bs:=(DA++[32])++(l.name++[58,32])++(nameAt (n.Ag.map (·.name)) l.from_++[32])++[45,62,32]++(nameAt (n.Ag.map (·.name)) l.VJ++[32])++(Qs++[32])++(D8 l.at_++[32])++(Ec++[32])++(D8 l.Bb++[32])++(Hd++[32])++(D8 l.load++[59,10])
def MX(c:Io):Bs:=Ku CD c.name++Cs LH (D8 c.cut)++Cs DR (D8 c.Be)++V8
def fP(names:List Bs)(Aq:List Dm):Bs:=(De NW names Aq).flatten
def El(n:G3):Bs:=fP n.names n.Aq++n.opers.flatMap Ju++n.Ag.flatMap (OB n)++n.Am.flatMap (PI n)++n.Ao.flatMap MX
def TP(n:G3):Bs:=if By n then El n else []
def Ef(n:Int):List KT:=if n<0 then [(3,Fl),(2,Jh (-n).toNat)]else [(2,Jh n.toNat)]
def BH(k:Bs)(v:List KT):List KT:=[(1,k)]++(v++[(3,Aw)])
def UT(k name:Bs):List KT:=[(1,k),(1,name),(3,HV)]
def SJ(name:Bs)(c:Dm):List KT:=UT AL name++BH Hc (Ef c.Bc)++BH HU [(2,DH c.Bw)]++c.AZ.flatMap (λd=>BH Ba (Ef d))++[(3,D2)]
def TW(name:Bs):List KT:=[(1,AO),(1,name),(3,Aw)]
def Ei(c:Bs):KT:=(if c.all DG then 2 else 1,c)
def OU:List Bs->List KT
 |[]=>[]
 |c::r=>(1,CC)::((c::r).map Ei++[(3,Aw)])
def YA(n:G3)(o:JV):List KT:=UT Ct o.name++BH AO [(1,nameAt n.opers o.oper)]++BH AL [(1,nameAt n.names o.Gs)]++BH EF (Ef o.Bg)++BH Fy (Ef o.As)++BH EG (Ef o.Ap)++OU o.AK++[(3,D2)]
def Up(n:G3)(l:Na):List KT:=[(1,DA),(1,l.name),(3,Ek),(1,nameAt (n.Ag.map (·.name)) l.from_),(3,FP),(1,nameAt (n.Ag.map (·.name)) l.VJ),(1,Qs)]++Ef l.at_++[(1,Ec)]++Ef l.Bb++[(1,Hd)]++Ef l.load++[(3,Aw)]
def Qc(c:Io):List KT:=UT CD c.name++BH LH (Ef c.cut)++BH DR (Ef c.Be)++[(3,D2)]
def TQ(n:G3):List KT:=(De SJ n.names n.Aq).flatten++n.opers.flatMap TW++n.Ag.flatMap (YA n)++n.Am.flatMap (Up n)++n.Ao.flatMap Qc
def Em(s:Bs)(xs:List KT):Prop:=∀(r:Bs)(p:Nat)(l:List Go.Av.Net.Tok),Fh r (p+s.length) l->∃l',BE l'=xs/\Fh (s++r) p (l'++l)
theorem Em.nil:Em [] []:=λr p l h=>⟨[],rfl,h⟩
theorem Em.app{s t:Bs}{xs ys:List KT}(h:Em s xs)(g:Em t ys):Em (s++t) (xs++ys):=λr p l hl=>by
 obtain⟨l2,e2,h2⟩:=g r (p+s.length) l (by rw[A0,<-A1]at hl;exact hl);obtain⟨l1,e1,h1⟩:=h (t++r) p (l2++l) h2;exact⟨l1++l2,by rw[<-e1,<-e2];simp[BE],by rw[Ai,Ai];exact h1⟩
theorem Em.flat{α:Type}{f:α->Bs}{g:α->List KT}:∀{l:List α},(∀x∈l,Em (f x) (g x))->Em (l.flatMap f) (l.flatMap g)
 |[],_=>Em.nil
 |x::l,h=>by simp only[BR];exact(h x (by simp)).app (Em.flat λy hy=>h y (by simp[hy]))
theorem Xz:XZ [10]:=⟨λx=>by simp[F6,Fx];omega,λc hc=>by cases hc;decide,by simp⟩
theorem ZhG:XZ [32,32]:=⟨λx=>by simp[F6,Fx];omega,λc hc=>by cases hc;decide,by simp⟩
theorem Em.ZkV:Em [32,32] []:=λr p l h=>⟨[],rfl,Fh.Zc ZhG h⟩
theorem Em.word{k:Int}{t:Bs}(hk:k≠4)(h:Good k t):Em (t++[32]) [(k,t)]:=λr p l hl=>
 ⟨[⟨k,t,p⟩],rfl,by
  rw[Ai]
  exact Fh.Zmv hk h (by simpa[A1]using hl)⟩
theorem Em.sym{x:Bs}(hx:x∈[HV,D2,Aw,Ek]){G:Bs}(hG:XZ G):Em (x++G) [(3,x)]:=λr p l hl=>
 ⟨[⟨3,x,p⟩],rfl,by
  rw[Ai]
  exact Fh.sym hx (Fh.Zc hG (by simpa[A1]using hl))⟩
theorem Em.ZT{k:Int}{t x:Bs}(hk:k≠4)(h:Good k t)(hx:x∈[Aw,Ek]){G:Bs}(hG:XZ G):Em (t++(x++G)) [(k,t),(3,x)]:=λr p l hl=>by
 have e:Mh k t=t:=by unfold Mh;rw[decide_eq_false hk];rfl
 have Oe:x∈[HV,D2,Aw,Ek]:=by simp only[Cc,Cb,or_false]at hx ⊢;rcases hx with rfl|rfl<;>simp
 have hb:Bnd (x++(G++r)):=by simp only[Cc,Cb,or_false]at hx;rcases hx with rfl|rfl<;>(intro c hc;cases hc;decide)
 obtain⟨l1,e1,h1⟩:=Em.sym Oe hG r (p+t.length) l (by rw[A0,<-A1]at hl;exact hl);refine⟨⟨k,t,p⟩::l1,by simp[BE,<-e1],?_⟩;rw[Ai,Ai];rw[Ai]at h1;have:=Fh.tok h hb (p:=p) (l:=l1++l) (by rw[e];exact h1);rw[e]at this;exact this
theorem uC{r:Bs}(hr:∀c,r.head?=some c->DG c=true)(BK:r≠[]):ES (45::r)=some (1,3,Fl):=by
 have key:Bz (45::r)=(0,0):=Nn λd hd=>by cases hd;decide
 unfold ES;rw[(F1 key).1,(F1 key).2];cases r with
 |nil=>exact absurd rfl BK
 |cons c r=>
  have hc:=hr c rfl;have h62:c≠62:=λe=>by subst e;revert hc;decide
  have hs:BJ (45::c::r)=1:=by unfold BJ syms;simp only[List.find?_cons];(have h1:CT [45,62] (45::c::r)=false:=by simp[CT,Ne.symm h62]);rw[h1];rfl
  rw[hs];rfl
theorem Em.minus{t:Bs}(ht:∀b∈t,DG b=true)(BK:t≠[]){s:Bs}{xs:List KT}(h:Em (t++s) xs):Em (45::(t++s)) ((3,Fl)::xs):=λr p l hl=>by
 obtain⟨l1,e1,h1⟩:=h r (p+1) l (by simp only[A2]at hl;rw[show p+1+(t++s).length=p+((t++s).length+1) by omega];exact hl);refine⟨⟨3,Fl,p⟩::l1,by simp[BE,<-e1],?_⟩
 have hm:=uC (r:=t++s++r) (λc hc=>by
  cases t with
  |nil=>exact absurd rfl BK
  |cons b t=>simp at hc;exact ht c (by simp[hc])) (by cases t with
  |nil=>exact absurd rfl BK
  |cons b t=>simp)
 have hg:F6 false (45::(t++s++r))=0:=rfl;have:=Fh.cons (r:=45::(t++s++r)) (p:=p) (n:=1) (k:=3) (t:=Fl) (l:=l1++l) (by rw[hg];simp) (by rw[hg];exact hm) (by rw[hg];exact h1);rw[hg]at this;exact this
theorem ZeR(n:Nat):Jh n≠[]:=by
 rw[JD];split<;>simp
theorem Em.dec{n:Int}(h:Pl.Jf n=true){s:Bs}{ys:List KT}(hs:∀m:Nat,m<100000000->Em (Jh m++s) ((2,Jh m)::ys)):Em (D8 n++s) (Ef n++ys):=by
 unfold Pl.Jf at h;simp only[AA,decide_eq_true_eq]at h;unfold D8 Ef;split;exact Em.minus (eW _) (ZeR _) (hs _ (by omega));exact hs _ (by omega)
theorem Em.fA{n:Int}(h:Pl.Jf n=true):Em (D8 n++[59,10]) (Ef n++[(3,Aw)]):=Em.dec h λm hm=>Em.ZT (x:=Aw) (by decide) (Xw hm) (by simp) Xz
theorem Em.Zk7{n:Int}(h:Pl.Jf n=true):Em (D8 n++[32]) (Ef n):=by
 have:=Em.dec h (s:=[32]) (ys:=[]) λm hm=>Em.word (by decide) (Xw hm);rwa [C0]at this
theorem Ck{n:Int}(h:Pl.E7 n=true):Pl.Jf n=true:=by
 unfold Pl.E7 at h;unfold Pl.Jf;simp only[AA,decide_eq_true_eq]at h ⊢;omega
theorem Em.field{k:Bs}(hk:k∈Bh){v:Bs}{xs:List KT}(h:Em (v++[59,10]) (xs++[(3,Aw)])):Em (Cs k v) (BH k xs):=
 (Em.ZkV.app (Em.word (by decide) (Jz k hk))).app h
theorem Em.lU{k:Bs}(hk:k∈Bh){c:Int}{v:Bs}(hc:c≠4)(h:Good c v):Em (Cs k v) (BH k [(c,v)]):=Em.field hk (Em.ZT (x:=Aw) hc h (by simp) Xz)
theorem Em.head{k name:Bs}(hk:k∈Bh)(hn:An name=true):Em (Ku k name) (UT k name):=
 ((Em.word (by decide) (Jz k hk)).app (Em.word (by decide) (Hr hn))).app (Em.sym (x:=HV) (by simp) Xz)
theorem Em.end_:Em V8 [(3,D2)]:=Em.sym (x:=D2) (by simp) Xz
theorem yX(w:List Bool):∀b∈DH w,DG b=true:=by
 intro b hb;obtain⟨x,_,rfl⟩:=Dj.1 hb;cases x<;>rfl
theorem Em.Gs{name:Bs}{c:Dm}(hn:An name=true)(hc:CX c=true):Em (NW name c) (SJ name c):=by
 unfold CX at hc;simp only[AA,decide_eq_true_eq]at hc;obtain⟨⟨h1,h2⟩,h3⟩:=hc;refine((((Em.head (by decide) hn).app (Em.field (by decide) (Em.fA h2))).app (Em.lU (by decide) (by decide) (UY (yX _) ?_ ?_))).app (Em.flat λd hd=>Em.field (by decide) (Em.fA (Ax.1 h3 d hd)))).app Em.end_;simp[DH,h1];simp[DH,h1]
theorem Em.oper{name:Bs}(hn:An name=true):Em (Ju name) (TW name):=
 (Em.word (by decide) (Jz _ (by decide))).app (Em.ZT (x:=Aw) (by decide) (Hr hn) (by simp) Xz)
theorem Xx{c:Bs}(h:Bt c=true):Good (Ei c).1 c/\(Ei c).1≠4:=by
 have hh:=h;unfold Bt at h;simp only[AA,decide_eq_true_eq]at h;obtain⟨⟨h1,h2⟩,h3⟩:=h;unfold Ei;split;·rename_i hd;exact⟨UY (λb hb=>Ax.1 hd b hb) h1 (by omega),by simp⟩
 rename_i hd;have hw:∀b∈c,Dt b=true:=λb hb=>by have:=Ax.1 h3 b hb;unfold Dt;simp only[D9]at this ⊢;rcases this with h|h;exact .inr h;exact .inl (.inl (.inl h))
 refine⟨Q7 hw ?_ (by omega) ?_,by simp⟩
 ·have hd:c.all DG=false:=by simpa using hd
  obtain⟨b,hb,hbd⟩:=List.all_eq_false.1 hd;exact⟨b,hb,by simpa using hbd⟩
 cases c with
 |nil=>simp
 |cons b c=>
  have:=Ax.1 h3 b (by simp);simp only[C5];rintro rfl;revert this;decide
theorem Em.AK:∀{l:List Bs},(∀c∈l,Bt c=true)->l≠[]->∀{t:Bs}{k:KT},Good k.1 k.2->k.1≠4->t=k.2->Em (t++(l.flatMap (λx=>32::x)++[59,10])) (k::(l.map Ei++[(3,Aw)]))
 |[],_,h,_,_,_,_,_=>absurd rfl h
 |[c],hc,_,t,k,hk,h4,e=>by subst e;obtain⟨g1,g2⟩:=Xx (hc c (by simp));have h2:=Em.ZT g2 g1 (x:=Aw) (by simp) Xz;have h1:Em (k.2++[32]++(c++(Aw++[10]))) ([k]++[Ei c,(3,Aw)]):=(Em.word h4 hk).app h2;simp only[BR,D7,C0,CJ,List.map_nil]at h1 ⊢;simpa[Ai,Aw]using h1
 |c::d::l,hc,_,t,k,hk,h4,e=>by subst e;obtain⟨g1,g2⟩:=Xx (hc c (by simp));have ih:=Em.AK (l:=d::l) (λx hx=>hc x (by simp[hx])) (by simp) (t:=c) (k:=Ei c) g1 g2 rfl;have h1:=(Em.word h4 hk).app ih;simp only[BR,CJ]at h1 ⊢;simpa[Ai]using h1
theorem Em.ZhS{l:List Bs}(hc:l.all Bt=true):Em (Ls l) (OU l):=by
 cases l with
 |nil=>exact Em.nil
 |cons c r=>
  have:=Em.ZkV.app (Em.AK (l:=c::r) (λx hx=>Ax.1 hc x hx) (by simp) (t:=CC) (k:=(1,CC)) (Jz _ (by decide)) (by decide) rfl);unfold Ls OU;simpa[Ai]using this
theorem QH{l:List Bs}{i:Int}(h:Hh l i=true):∃x,l[i.toNat]?=some x/\nameAt l i=x/\x∈l/\idxOf x l=some i.toNat/\0<=i:=by
 unfold Hh at h;simp only[AA,decide_eq_true_eq]at h;obtain⟨h0,h1⟩:=h;split at h1;·rename_i x hx;exact⟨x,hx,by unfold nameAt;rw[List.getD_eq_getElem?_getD,hx];rfl,List.mem_of_getElem? hx,by simpa using h1,h0⟩
 cases h1
theorem Pr{l:List Bs}{i:Int}(h:Hh l i=true)(hl:∀x∈l,An x=true):An (nameAt l i)=true:=by
 obtain⟨x,_,e,hx,_⟩:=QH h;rw[e];exact hl x hx
theorem Em.off{n:G3}{o:JV}(h1:An o.name=true)(h2:∀x∈n.opers,An x=true)(h3:∀x∈n.names,An x=true)(h:HH n o=true):Em (OB n o) (YA n o):=by
 unfold HH at h;simp only[AA]at h;obtain⟨⟨⟨⟨⟨q1,q2⟩,q3⟩,q4⟩,q5⟩,q6⟩:=h;exact(((((((Em.head (by decide) h1).app (Em.lU (by decide) (by decide) (Hr (Pr q1 h2)))).app (Em.lU (by decide) (by decide) (Hr (Pr q2 h3)))).app (Em.field (by decide) (Em.fA (Ck q3)))).app (Em.field (by decide) (Em.fA (Ck q4)))).app (Em.field (by decide) (Em.fA (Ck q5)))).app (Em.ZhS q6)).app Em.end_
theorem Em.arrow:Em [45,62,32] [(3,FP)]:=λr p l hl=>
 ⟨[⟨3,FP,p⟩],rfl,by
  have key:Bz (45::62::32::r)=(0,0):=Nn λd hd=>by cases hd;decide
  have ht:ES (45::62::32::r)=some (2,3,FP):=by
   unfold ES;rw[(F1 key).1,(F1 key).2]
   rfl
  have hg:F6 false (45::62::32::r)=0:=rfl
  have:=Fh.cons (r:=45::62::32::r) (p:=p) (n:=2) (k:=3) (t:=FP) (l:=l) (by rw[hg];simp) (by rw[hg];exact ht) (by rw[hg];exact Fh.Zc (G:=[32]) Zb6 hl)
  rw[hg]at this
  exact this⟩
theorem Em.lin{n:G3}{x:Na}(h1:An x.name=true)(h2:∀o∈n.Ag,An o.name=true)(h:PJ n x=true):Em (PI n x) (Up n x):=by
 unfold PJ at h;simp only[AA]at h;obtain⟨⟨⟨⟨q1,q2⟩,q3⟩,q4⟩,q5⟩:=h;have hm:∀y∈n.Ag.map (·.name),An y=true:=λy hy=>by obtain⟨o,ho,rfl⟩:=Dj.1 hy;exact h2 o ho
 have e:Up n x=[(1,DA)]++[(1,x.name),(3,Ek)]++[(1,nameAt (n.Ag.map (·.name)) x.from_)]++[(3,FP)]++[(1,nameAt (n.Ag.map (·.name)) x.VJ)]++[(1,Qs)]++Ef x.at_++[(1,Ec)]++Ef x.Bb++[(1,Hd)]++(Ef x.load++[(3,Aw)]):=by unfold Up;simp[Ai]
 rw[e];exact((((((((((Em.word (by decide) (Jz _ (by decide))).app (Em.ZT (by decide) (Hr h1) (x:=Ek) (by simp) Zb6)).app (Em.word (by decide) (Hr (Pr q1 hm)))).app Em.arrow).app (Em.word (by decide) (Hr (Pr q2 hm)))).app (Em.word (by decide) (Jz _ (by decide)))).app (Em.Zk7 (Ck q3))).app (Em.word (by decide) (Jz _ (by decide)))).app (Em.Zk7 (Ck q4))).app (Em.word (by decide) (Jz _ (by decide)))).app (Em.fA (Ck q5))
theorem Em.cls{c:Io}(h1:An c.name=true)(h:MY c=true):Em (MX c) (Qc c):=by
 unfold MY at h;simp only[AA]at h;exact(((Em.head (by decide) h1).app (Em.field (by decide) (Em.fA (Ck h.1)))).app (Em.field (by decide) (Em.fA (Ck h.2)))).app Em.end_
theorem Em.Aq:∀{names:List Bs}{Aq:List Dm},(∀x∈names,An x=true)->(∀c∈Aq,CX c=true)->Em (fP names Aq) ((De SJ names Aq).flatten)
 |[],_,_,_=>Em.nil
 |_::_,[],_,_=>Em.nil
 |x::names,c::Aq,h1,h2=>by unfold fP;simp only[C4,D0];exact(Em.Gs (h1 x (by simp)) (h2 c (by simp))).app (Em.Aq (λy hy=>h1 y (by simp[hy])) λy hy=>h2 y (by simp[hy]))
theorem Em.print{n:G3}(h:By n=true):Em (El n) (TQ n):=by
 unfold By IP at h;simp only[AA,decide_eq_true_eq]at h;obtain⟨⟨⟨⟨⟨q0,⟨⟨⟨⟨q1,q2⟩,q3⟩,q4⟩,q5⟩⟩,q6⟩,q7⟩,q8⟩,q9⟩:=h;have a1:=Ax.1 q1;have a2:=Ax.1 q2;have a3:=Ax.1 q3;have a4:=Ax.1 q4;have a5:=Ax.1 q5;have a6:=Ax.1 q6;have a7:=Ax.1 q7;have a8:=Ax.1 q8;have a9:=Ax.1 q9;exact((((Em.Aq a1 a6).app (Em.flat λx hx=>Em.oper (a2 x hx))).app (Em.flat λo ho=>Em.off (a3 o ho) a2 a1 (a7 o ho))).app (Em.flat λx hx=>Em.lin (a4 x hx) a3 (a8 x hx))).app (Em.flat λc hc=>Em.cls (a5 c hc) (a9 c hc))
theorem tE{n:G3}(h:By n=true):∃l,BE l=TQ n/\Fh (El n) 0 l:=by
 obtain⟨l,e,hl⟩:=Em.print h [] 0 [] (Fh.nil rfl);exact⟨l,e,by simpa using hl⟩
def Pz{α:Type}(P:List KT->Nat->PR α)(xs:List KT)(a:α):Prop:=∀us vs:List KT,P (us++(xs++vs)) us.length=.ok a (us.length+xs.length)
theorem Pz.bind{α β:Type}{P:List KT->Nat->PR α}{f:α->List KT->Nat->PR β}{xs ys:List KT}{a:α}{b:β}(h:Pz P xs a)(g:Pz (f a) ys b):Pz (λts i=>(P ts i).bind λa i=>f a ts i) (xs++ys) b:=λus vs=>by
 have h1:=h us (ys++vs);have h2:=g (us++xs) vs;simp only[Ai,A0]at h1 h2 ⊢;rw[h1];show f a _ _=_;rw[h2,A1]
theorem Pz.ok{α:Type}(a:α):Pz (λ_ i=>PR.ok a i) [] a:=λus vs=>by simp
theorem Pz.last{α β:Type}{P:List KT->Nat->PR α}{g:α->β}{xs:List KT}{a:α}(h:Pz P xs a):Pz (λts i=>(P ts i).bind λa i=>.ok (g a) i) xs (g a):=by
 have:=h.bind (f:=λa _ i=>.ok (g a) i) (Pz.ok (g a));rwa [C0]at this
theorem get_at(us vs:List KT)(t:KT):(us++([t]++vs))[us.length]?=some t:=by simp
theorem Pz.expect(k:Int)(x:Bs):Pz (λts i=>AD ts k x i) [(k,x)] ():=λus vs=>by
 have h:=get_at us vs (k,x);dsimp only;unfold AD AW;rw[h];simp
theorem Pz.name{x:Bs}(h:An x=true):Pz E8 [(1,x)] x:=λus vs=>by
 have h1:=get_at us vs (1,x);unfold E8;rw[h1];simp[h]
theorem Pz.number(n:Nat):Pz Ca [(2,Jh n)] n:=λus vs=>by
 have h1:=get_at us vs (2,Jh n);unfold Ca;rw[h1];simp[Zcn]
theorem Pz.int(n:Int):Pz NQ (Ef n) n:=λus vs=>by
 unfold Ef;split
 ·rename_i hn;have h0:(us++([(3,Fl),(2,Jh (-n).toNat)]++vs))[us.length]?=some (3,Fl):=by simp
  have h1:=Pz.number (-n).toNat (us++[(3,Fl)]) vs;unfold NQ AW;rw[h0];simp only[decide_true,DW,cond_true];simp only[Ai,A0,BQ,A3,A5,A4]at h1 ⊢;rw[h1];have e:-((-n).toNat:Int)=n:=by omega
  simp only[PR.bind,e,A2,Cz]
 rename_i hn;have h0:=get_at us vs (2,Jh n.toNat);have h1:=Pz.number n.toNat us vs;unfold NQ AW;rw[h0];simp only[show decide ((2:Int)=3)=false from rfl,Dx,cond_false];rw[h1];rw[show(n.toNat:Int)=n by omega]
theorem Pz.nat{n:Int}(h:Pl.E7 n=true):Pz Ca (Ef n) n:=λus vs=>by
 unfold Pl.E7 at h;simp only[AA,decide_eq_true_eq]at h;unfold Ef;rw[if_neg (by omega),Pz.number n.toNat us vs,show(n.toNat:Int)=n by omega]
theorem Pz.field{k:Bs}{n:Int}(h:Pl.E7 n=true):Pz (λts i=>Gb ts k i) (BH k (Ef n)) n:=
 (Pz.expect 1 k).bind ((Pz.nat h).bind ((Pz.expect 3 Aw).last (g:=λ_=>n)))
theorem Pz.Bw{w:List Bool}(h:w.length=7):Pz J0 [(2,DH w)] w:=λus vs=>by
 have h1:=get_at us vs (2,DH w);have h2:HA (DH w)=true:=by unfold HA DH;simp only[Dk,h,decide_true,Bool.true_and,List.all_map,Ax,Function.comp_def];intro b _;cases b<;>rfl
 have h3:(DH w).map (λb=>decide (b.toNat=49))=w:=by
  unfold DH;rw[List.map_map];conv=>rhs;rw[<-List.map_id w]
  refine List.map_congr_left λb _=>?_;cases b<;>rfl
 unfold J0;rw[h1];simp[h2,h3]
theorem Pz.ref{names:List Bs}{x:Bs}{k:Nat}(h:An x=true)(hk:idxOf x names=some k):Pz (λts i=>FY ts names i) [(1,x)] k:=λus vs=>by
 dsimp only;unfold FY;rw[Pz.name h us vs];simp only[PR.bind,hk]
theorem Ni(us vs:List KT)(t:KT)(k:Int)(x:Bs):AW (us++(t::vs)) k x us.length=(decide (t.1=k)&&decide (t.2=x)):=by
 unfold AW;simp
theorem zZ{t:KT}{vs:List KT}{k:Int}{x:Bs}(us:List KT)(h:AW (t::vs) k x 0=false):AW (us++(t::vs)) k x us.length=false:=by
 rw[Ni];unfold AW at h;simpa using h
theorem sJ(us:List KT)(k:Int)(x:Bs):AW us k x us.length=false:=by
 unfold AW;simp
theorem Lj{σ A:Type}{key:Bs}{B:σ->List KT->Nat->PR σ}{K:A->List KT}{add:σ->A->σ}{G:σ->Prop}(hK:∀x,∃r,K x=(1,key)::r):
  ∀(l:List A),(∀s x,G s->x∈l->Pz (B s) (K x) (add s x)/\G (add s x))->∀(s:σ),G s->∀(f:Nat)(us vs:List KT),l.length<=f->AW vs 1 key 0=false->
   ZD true 1 key B (us++(l.flatMap K++vs)) f s us.length=.ok (l.foldl add s) (us.length+(l.flatMap K).length)/\G (l.foldl add s)
 |[],hB,s,hG,f,us,vs,hf,hv=>by
  refine⟨?_,hG⟩;cases f with
  |zero=>rfl
  |succ f=>
   unfold ZD;simp only[D7,A4]
   have:AW (us++vs) 1 key us.length=false:=by
    cases vs with
    |nil=>rw[C0];exact sJ us 1 key
    |cons t vs=>exact zZ us hv
   rw[this];rfl
 |x::l,hB,s,hG,0,us,vs,hf,hv=>by simp at hf
 |x::l,hB,s,hG,f+1,us,vs,hf,hv=>by
  obtain⟨h1,h2⟩:=hB s x hG (by simp);obtain⟨ih,ih2⟩:=Lj hK l (λs y hs hy=>hB s y hs (by simp[hy])) (add s x) h2 f (us++K x) vs (by simpa using hf) hv;refine⟨?_,ih2⟩;have h3:=h1 us (l.flatMap K++vs);unfold ZD;simp only[BR,Ai,A0,A9]at ih h3 ⊢;have hs:AW (us++(K x++(l.flatMap K++vs))) 1 key us.length=true:=by obtain⟨r,hr⟩:=hK x;rw[hr,A5,Ni];simp
  rw[hs,h3];simp only[beq_self_eq_true,cond_true,PR.bind];rw[ih,A1]
theorem eK(k:Bs)(v:List KT):∃r,BH k v=(1,k)::r:=⟨_,rfl⟩
theorem U4{α β:Type}(f:α->β):∀(l:List α)(a:List β),l.foldl (λs x=>s++[f x]) a=a++l.map f
 |[],a=>by simp
 |x::l,a=>by rw[A9,U4 f l];simp
theorem Zei{t:KT}(ht:t.1≠1)(l:List Int)(f:Nat)(us vs:List KT)(h:l.length<=f):Ie (us++(l.flatMap (λd=>BH Ba (Ef d))++(t::vs))) f us.length=.ok l (us.length+(l.flatMap λd=>BH Ba (Ef d)).length):=by
 have h1:=(Lj (key:=Ba) (B:=Zg2) (K:=λd:Int=>BH Ba (Ef d)) (add:=λs x=>s++[x]) (G:=λ_=>True) (λx=>eK _ _) l (λs x _ _=>⟨by have:Pz (λts i=>(AD ts 1 Ba i).bind λ_ i=>(NQ ts i).bind λn i=>(AD ts 3 Aw i).bind λ_ i=>.ok (s++[n]) i) (BH Ba (Ef x)) (s++[x]):=(Pz.expect 1 Ba).bind ((Pz.int x).bind ((Pz.expect 3 Aw).last (g:=λ_=>s++[x])));exact this,trivial⟩) [] trivial f us (t::vs) h (by unfold AW;simp[ht])).1;rw[pQ]at h1;have e:=U4 (λx:Int=>x) l [];rw[e]at h1;simp only[A4,List.map_id']at h1;rw[PR.Ze1]at h1;exact h1
theorem ME{A:Type}{K:A->List KT}(hK:∀x,1<=(K x).length):∀l:List A,l.length<=(l.flatMap K).length
 |[]=>by simp
 |x::l=>by have:=ME hK l;have:=hK x;simp only[BR,A0,A2];omega
theorem Pz.Gs{name:Bs}{c:Dm}(hn:An name=true)(hc:CX c=true):Pz Zr (SJ name c) (name,c):=by
 have hc0:=hc;unfold CX at hc;simp only[AA,decide_eq_true_eq]at hc;obtain⟨⟨h1,h2⟩,h3⟩:=hc;have hh:Pz (λts i=>(Ie ts ts.length i).bind λAZ i=>(AD ts 3 D2 i).bind λ_ i=>.ok (name,(⟨c.Bc,c.Bw,AZ⟩:Dm)) i) (c.AZ.flatMap (λd=>BH Ba (Ef d))++[(3,D2)]) (name,c):=λus vs=>by have l1:=ME (K:=λd:Int=>BH Ba (Ef d)) (λd=>by unfold BH;simp) c.AZ;have g:=Zei (t:=(3,D2)) (by decide) c.AZ (us++(c.AZ.flatMap (λd=>BH Ba (Ef d))++[(3,D2)]++vs)).length us vs (by simp only[A0];omega);dsimp only;simp only[Ai,A3]at g ⊢;rw[g];have g2:=Pz.expect 3 D2 (us++c.AZ.flatMap (λd=>BH Ba (Ef d))) vs;simp only[Ai,A3,A0]at g2;simp only[PR.bind];rw[g2];simp[A1]
 have e:SJ name c=[(1,AL)]++([(1,name)]++([(3,HV)]++([(1,Hc)]++(Ef c.Bc++([(3,Aw)]++([(1,HU)]++([(2,DH c.Bw)]++([(3,Aw)]++(c.AZ.flatMap (λd=>BH Ba (Ef d))++[(3,D2)]))))))))):=by unfold SJ UT BH;simp[Ai]
 rw[e];exact(Pz.expect 1 AL).bind ((Pz.name hn).bind ((Pz.expect 3 HV).bind ((Pz.expect 1 Hc).bind ((Pz.int c.Bc).bind ((Pz.expect 3 Aw).bind ((Pz.expect 1 HU).bind ((Pz.Bw h1).bind ((Pz.expect 3 Aw).bind hh))))))))
theorem Pz.oper{name:Bs}(hn:An name=true):Pz PA (TW name) name:=
 (Pz.expect 1 AO).bind ((Pz.name hn).bind ((Pz.expect 3 Aw).last (g:=λ_=>name)))
theorem Pz.code{c:Bs}(h:Bt c=true):Pz G9 [Ei c] c:=λus vs=>by
 have h1:=get_at us vs (Ei c);have h2:(Ei c).2=c:=rfl;have h3:(decide ((Ei c).1=1)||decide ((Ei c).1=2))=true:=by unfold Ei;split<;>simp
 unfold G9;rw[h1];simp only[h2,h3,h,DW,cond_true,BQ]
theorem fK:∀(l:List Bs),(∀c∈l,Bt c=true)->∀(f:Nat)(us vs:List KT),l.length<f->GM (us++(l.map Ei++((3,Aw)::vs))) f us.length=.ok l (us.length+l.length)
 |[],_,0,us,vs,h=>by simp at h
 |[],_,f+1,us,vs,_=>by unfold GM;simp only[List.map_nil,A4];rw[Ni];simp
 |c::l,hc,0,us,vs,h=>by simp at h
 |c::l,hc,f+1,us,vs,h=>by
  have ih:=fK l (λx hx=>hc x (by simp[hx])) f (us++[Ei c]) vs (by simpa using h);have h1:=Pz.code (hc c (by simp)) us (l.map Ei++((3,Aw)::vs));have h2:¬((Ei c).1=3):=by unfold Ei;split<;>simp
  unfold GM;simp only[CJ,A5,Ai,A3,A0,BQ,A4]at ih h1 ⊢;rw[Ni,decide_eq_false h2];simp only[Dx,cond_false];rw[h1];simp only[PR.bind];rw[ih];simp only[A2];congr 1;omega
theorem Pz.AK{α:Type}{l:List Bs}(hc:l.all Bt=true)(g:List Bs->α):Pz (λts i=>(Ee ts i).bind λAK i=>(AD ts 3 D2 i).bind λ_ i=>.ok (g AK) i) (OU l++[(3,D2)]) (g l):=λus vs=>by
 have yK:∀c∈l,Bt c=true:=λc h=>Ax.1 hc c h;cases l with
 |nil=>
  dsimp only;unfold Ee OU;simp only[A4,A3];rw[Ni];have h1:=Pz.expect 3 D2 us vs;simp only[A3]at h1;simp only[show decide ((3:Int)=1)=false from rfl,Dx,cond_false,PR.bind];rw[h1]
 |cons c l=>
  dsimp only;unfold Ee OU;have h1:=Pz.expect 1 CC us ((c::l).map Ei++[(3,Aw)]++[(3,D2)]++vs);have h2:=Pz.code (yK c (by simp)) (us++[(1,CC)]) (l.map Ei++[(3,Aw)]++[(3,D2)]++vs);have h3:=fK l (λx hx=>yK x (by simp[hx])) ((us++((1,CC)::((c::l).map Ei++[(3,Aw)])++[(3,D2)]++vs)).length+1) (us++[(1,CC),Ei c]) ((3,D2)::vs) (by simp only[A0,A2,Dk];omega);have h4:=Pz.expect 3 Aw (us++[(1,CC),Ei c]++l.map Ei) ([(3,D2)]++vs);have h5:=Pz.expect 3 D2 (us++[(1,CC),Ei c]++l.map Ei++[(3,Aw)]) vs;simp only[CJ,A5,Ai,A3,A4,A0,BQ,A2,Cz,Dk]at h1 h2 h3 h4 h5 ⊢;rw[Ni];simp only[decide_true,DW,cond_true];rw[h1];simp only[PR.bind];rw[h2];simp only[PR.bind];rw[show us.length+(0+1)+(0+1)=us.length+(0+1+1) by omega,h3];simp only[PR.bind];rw[show us.length+(0+1+1)+l.length=us.length+(l.length+1+1) by omega,h4];simp only[PR.bind];rw[show us.length+(l.length+1+1)+(0+1)=us.length+(l.length+(0+1)+1+1) by omega,h5];exact congrArg (PR.ok (g (c::l))) (by omega)
def RF(o:JV):xQ:=⟨o.name,o.oper.toNat,o.Gs.toNat,o.Bg,o.As,o.Ap,o.AK⟩
def RG(l:Na):Lin:=⟨l.name,l.from_.toNat,l.VJ.toNat,l.at_,l.Bb,l.load⟩
def toN(n:G3):Nw:=⟨n.Aq,n.names,n.opers,n.Ag.map RF,n.Am.map RG,n.Ao⟩
theorem Pz.ZdD{l:List Bs}{i:Int}(h:Hh l i=true)(hl:∀x∈l,An x=true):Pz (λts j=>FY ts l j) [(1,nameAt l i)] i.toNat:=by
 obtain⟨x,_,e,hx,hi,_⟩:=QH h;rw[e];exact Pz.ref (hl x hx) hi
theorem Pz.off{n:G3}{N:Nw}(e1:N.opers=n.opers)(e2:N.names=n.names){o:JV}(h1:An o.name=true)(h2:∀x∈n.opers,An x=true)(h3:∀x∈n.names,An x=true)(h:HH n o=true):Pz (λts i=>VT ts N i) (YA n o) (RF o):=by
 unfold HH at h;simp only[AA]at h;obtain⟨⟨⟨⟨⟨q1,q2⟩,q3⟩,q4⟩,q5⟩,q6⟩:=h;have e:YA n o=[(1,Ct)]++([(1,o.name)]++([(3,HV)]++([(1,AO)]++([(1,nameAt n.opers o.oper)]++([(3,Aw)]++([(1,AL)]++([(1,nameAt n.names o.Gs)]++([(3,Aw)]++(BH EF (Ef o.Bg)++(BH Fy (Ef o.As)++(BH EG (Ef o.Ap)++(OU o.AK++[(3,D2)])))))))))))):=by unfold YA UT;rw[show BH AO [(1,nameAt n.opers o.oper)]=[(1,AO),(1,nameAt n.opers o.oper),(3,Aw)]from rfl,show BH AL [(1,nameAt n.names o.Gs)]=[(1,AL),(1,nameAt n.names o.Gs),(3,Aw)]from rfl];simp[Ai]
 rw[e];unfold VT;rw[e1,e2];exact(Pz.expect 1 Ct).bind ((Pz.name h1).bind ((Pz.expect 3 HV).bind ((Pz.expect 1 AO).bind ((Pz.ZdD q1 h2).bind ((Pz.expect 3 Aw).bind ((Pz.expect 1 AL).bind ((Pz.ZdD q2 h3).bind ((Pz.expect 3 Aw).bind ((Pz.field q3).bind ((Pz.field q4).bind ((Pz.field q5).bind (Pz.AK q6 (λAK=>(⟨o.name,o.oper.toNat,o.Gs.toNat,o.Bg,o.As,o.Ap,AK⟩:xQ))))))))))))))
theorem Pz.lin{n:G3}{N:Nw}(e1:N.Ag.map (·.name)=n.Ag.map (·.name)){x:Na}(h1:An x.name=true)(h2:∀o∈n.Ag,An o.name=true)(h:PJ n x=true):Pz (λts i=>VZ ts N i) (Up n x) (RG x):=by
 unfold PJ at h;simp only[AA]at h;obtain⟨⟨⟨⟨q1,q2⟩,q3⟩,q4⟩,q5⟩:=h;have hm:∀y∈n.Ag.map (·.name),An y=true:=λy hy=>by obtain⟨o,ho,rfl⟩:=Dj.1 hy;exact h2 o ho
 have e:Up n x=[(1,DA)]++([(1,x.name)]++([(3,Ek)]++([(1,nameAt (n.Ag.map (·.name)) x.from_)]++([(3,FP)]++([(1,nameAt (n.Ag.map (·.name)) x.VJ)]++([(1,Qs)]++(Ef x.at_++([(1,Ec)]++(Ef x.Bb++([(1,Hd)]++(Ef x.load++[(3,Aw)]))))))))))):=by unfold Up;simp[Ai]
 rw[e];unfold VZ;rw[e1];exact(Pz.expect 1 DA).bind ((Pz.name h1).bind ((Pz.expect 3 Ek).bind ((Pz.ZdD q1 hm).bind ((Pz.expect 3 FP).bind ((Pz.ZdD q2 hm).bind ((Pz.expect 1 Qs).bind ((Pz.nat q3).bind ((Pz.expect 1 Ec).bind ((Pz.nat q4).bind ((Pz.expect 1 Hd).bind ((Pz.nat q5).bind ((Pz.expect 3 Aw).last (g:=λ_=>RG x)))))))))))))
theorem Pz.cls{c:Io}(h1:An c.name=true)(h:MY c=true):Pz Zo (Qc c) c:=by
 unfold MY at h;simp only[AA]at h;have e:Qc c=[(1,CD)]++([(1,c.name)]++([(3,HV)]++(BH LH (Ef c.cut)++(BH DR (Ef c.Be)++[(3,D2)])))):=by unfold Qc UT;simp[Ai]
 rw[e];exact(Pz.expect 1 CD).bind ((Pz.name h1).bind ((Pz.expect 3 HV).bind ((Pz.field h.1).bind ((Pz.field h.2).bind ((Pz.expect 3 D2).last (g:=λ_=>c))))))
theorem Pz.map{α β:Type}{P:List KT->Nat->PR α}{xs:List KT}{a:α}(h:Pz P xs a)(g:α->β):Pz (λts i=>(P ts i).bind λc i=>.ok (g c) i) xs (g a):=h.last
theorem DZ{A:Type}{K:A->List KT}{k k':Bs}(hK:∀x,∃r,K x=(1,k')::r)(hk:k'≠k){vs:List KT}(hv:AW vs 1 k 0=false):∀l:List A,AW (l.flatMap K++vs) 1 k 0=false
 |[]=>hv
 |x::l=>by obtain⟨r,hr⟩:=hK x;unfold AW;simp[hr,hk]
theorem ZK:∀(a:List Bs)(b:List Dm),(De SJ a b).flatten=(a.zip b).flatMap λx=>SJ x.1 x.2
 |[],b=>by simp
 |x::a,[]=>by simp
 |x::a,y::b=>by simp only[C4,D0,List.zip_cons_cons,BR,ZK a b]
theorem XH:∀(l:List (Bs×Dm)) (n:Nw),l.foldl (λn c=>{n with Aq:=n.Aq++[c.2],names:=n.names++[c.1]}) n={n with Aq:=n.Aq++l.map (·.2),names:=n.names++l.map (·.1)}
 |[],n=>by simp
 |x::l,n=>by rw[A9,XH l];simp
theorem U6:∀(l:List Bs)(n:Nw),l.foldl (λn c=>{n with opers:=n.opers++[c]}) n={n with opers:=n.opers++l}
 |[],n=>by simp
 |x::l,n=>by rw[A9,U6 l];simp
theorem XE:∀(l:List JV)(n:Nw),l.foldl (λn c=>{n with Ag:=n.Ag++[RF c]}) n={n with Ag:=n.Ag++l.map RF}
 |[],n=>by simp
 |x::l,n=>by rw[A9,XE l];simp
theorem XF:∀(l:List Na)(n:Nw),l.foldl (λn c=>{n with Am:=n.Am++[RG c]}) n={n with Am:=n.Am++l.map RG}
 |[],n=>by simp
 |x::l,n=>by rw[A9,XF l];simp
theorem XG:∀(l:List Io)(n:Nw),l.foldl (λn c=>{n with Ao:=n.Ao++[c]}) n={n with Ao:=n.Ao++l}
 |[],n=>by simp
 |x::l,n=>by rw[A9,XG l];simp
theorem tW{n:G3}(h:By n=true):∃L,PG (TQ n)=.ok (toN n) L:=by
 unfold By IP at h;simp only[AA,decide_eq_true_eq]at h;obtain⟨⟨⟨⟨⟨q0,⟨⟨⟨⟨q1,q2⟩,q3⟩,q4⟩,q5⟩⟩,q6⟩,q7⟩,q8⟩,q9⟩:=h;have a1:=Ax.1 q1;have a2:=Ax.1 q2;have a3:=Ax.1 q3;have a4:=Ax.1 q4;have a5:=Ax.1 q5;have a6:=Ax.1 q6;have a7:=Ax.1 q7;have a8:=Ax.1 q8;have a9:=Ax.1 q9;obtain⟨C,hC⟩:∃C,C=(n.names.zip n.Aq).flatMap λx=>SJ x.1 x.2:=⟨_,rfl⟩;obtain⟨O,hO⟩:∃O,O=n.opers.flatMap TW:=⟨_,rfl⟩;obtain⟨F,hF⟩:∃F,F=n.Ag.flatMap (YA n):=⟨_,rfl⟩;obtain⟨Q,hQ⟩:∃Q,Q=n.Am.flatMap (Up n):=⟨_,rfl⟩;obtain⟨R,hR⟩:∃R,R=n.Ao.flatMap Qc:=⟨_,rfl⟩;have e:TQ n=C++(O++(F++(Q++(R++[])))):=by unfold TQ;rw[ZK,<-hC,<-hO,<-hF,<-hQ,<-hR];simp[Ai]
 have kO:∀x,∃r,TW x=(1,AO)::r:=λx=>⟨_,rfl⟩;have kF:∀x,∃r,YA n x=(1,Ct)::r:=λx=>⟨_,rfl⟩;have kQ:∀x,∃r,Up n x=(1,DA)::r:=λx=>⟨_,rfl⟩;have kR:∀x,∃r,Qc x=(1,CD)::r:=λx=>⟨_,rfl⟩;have kC:∀x:Bs×Dm,∃r,SJ x.1 x.2=(1,AL)::r:=λx=>⟨_,rfl⟩;have s0:∀k,AW [] 1 k 0=false:=λk=>rfl;have Ib:∀(A:Type)(K:A->List KT)(l:List A),(∀x,1<=(K x).length)->∀us vs:List KT,l.length<=(us++(l.flatMap K++vs)).length:=λA K l hK us vs=>by have:=ME hK l;simp only[A0];omega
 rw[ZdQ,e];unfold ZgH
 have p1:=(Lj (key:=AL) (B:=Ze0) (K:=λx:Bs×Dm=>SJ x.1 x.2) (add:=λs c=>{s with Aq:=s.Aq++[c.2],names:=s.names++[c.1]}) (G:=λ_=>True) kC (n.names.zip n.Aq) (λs x _ hx=>⟨(Pz.Gs (a1 x.1 (ET hx).1) (a6 x.2 (ET hx).2)).map (g:=λc=>({s with Aq:=s.Aq++[c.2],names:=s.names++[c.1]}:Nw)),trivial⟩) dW trivial
  (([]:List KT)++(C++(O++(F++(Q++(R++[])))))).length [] (O++(F++(Q++(R++[])))) (by rw[hC];exact Ib _ (λx:Bs×Dm=>SJ x.1 x.2) _ (λx=>by obtain⟨r,hr⟩:=kC x;rw[hr];simp) _ _)
  (by rw[hO,hF,hQ,hR];exact DZ kO (by decide) (DZ kF (by decide) (DZ kQ (by decide) (DZ kR (by decide) (s0 _) _) _) _) _)).1
 rw[<-hC,XH,show(n.names.zip n.Aq).map (·.2)=n.Aq by rw[List.map_snd_zip (by omega)],show(n.names.zip n.Aq).map (·.1)=n.names by rw[List.map_fst_zip (by omega)]]at p1;simp only[dW,A4,Cz,Nat.zero_add]at p1;unfold sec;simp only[dW];rw[p1];simp only[PR.bind];generalize hN1:(⟨n.Aq,n.names,[],[],[],[]⟩:Nw)=N1
 have p2:=(Lj (key:=AO) (B:=oN) (K:=TW) (add:=λs c=>{s with opers:=s.opers++[c]}) (G:=λ_=>True) kO n.opers (λs x _ hx=>⟨(Pz.oper (a2 x hx)).map (g:=λc=>({s with opers:=s.opers++[c]}:Nw)),trivial⟩) N1 trivial
  (C++(O++(F++(Q++(R++[]))))).length C (F++(Q++(R++[]))) (by rw[hO];exact Ib _ TW _ (λx=>by obtain⟨r,hr⟩:=kO x;rw[hr];simp) _ _)
  (by rw[hF,hQ,hR];exact DZ kF (by decide) (DZ kQ (by decide) (DZ kR (by decide) (s0 _) _) _) _)).1
 rw[<-hO,U6]at p2;rw[p2];simp only[PR.bind];generalize hN2:({N1 with opers:=N1.opers++n.opers}:Nw)=N2;have o2:N2.opers=n.opers/\N2.names=n.names:=by rw[<-hN2,<-hN1];exact⟨rfl,rfl⟩
 have p3:=(Lj (key:=Ct) (B:=ZdK) (K:=YA n) (add:=λs c=>{s with Ag:=s.Ag++[RF c]}) (G:=λs=>s.opers=n.opers/\s.names=n.names) kF n.Ag (λs x hG hx=>⟨(Pz.off hG.1 hG.2 (a3 x hx) a2 a1 (a7 x hx)).map (g:=λc=>({s with Ag:=s.Ag++[c]}:Nw)),hG⟩) N2 o2
  (C++(O++(F++(Q++(R++[]))))).length (C++O) (Q++(R++[])) (by have:=Ib _ (YA n) n.Ag (λx=>by obtain⟨r,hr⟩:=kF x;rw[hr];simp) (C++O) (Q++(R++[]));rw[<-hF]at this;simpa[Ai]using this)
  (by rw[hQ,hR];exact DZ kQ (by decide) (DZ kR (by decide) (s0 _) _) _)).1
 rw[<-hF,XE]at p3;simp only[Ai,A0]at p2 p3 ⊢;rw[p3];simp only[PR.bind];generalize hN3:({N2 with Ag:=N2.Ag++n.Ag.map RF}:Nw)=N3;have o3:N3.Ag.map (·.name)=n.Ag.map (·.name):=by rw[<-hN3,<-hN2,<-hN1];simp[RF,Function.comp_def]
 have p4:=(Lj (key:=DA) (B:=ZdZ) (K:=Up n) (add:=λs c=>{s with Am:=s.Am++[RG c]}) (G:=λs=>s.Ag.map (·.name)=n.Ag.map (·.name)) kQ n.Am (λs x hG hx=>⟨(Pz.lin hG (a4 x hx) a3 (a8 x hx)).map (g:=λc=>({s with Am:=s.Am++[c]}:Nw)),hG⟩) N3 o3
  (C++(O++(F++(Q++(R++[]))))).length (C++O++F) (R++[]) (by have:=Ib _ (Up n) n.Am (λx=>by obtain⟨r,hr⟩:=kQ x;rw[hr];simp) (C++O++F) (R++[]);rw[<-hQ]at this;simpa[Ai]using this)
  (by rw[hR];exact DZ kR (by decide) (s0 _) _)).1
 rw[<-hQ,XF]at p4;simp only[Ai,A0]at p4 ⊢;rw[A1 C.length O.length F.length]at *;rw[p4];simp only[PR.bind];generalize hN4:({N3 with Am:=N3.Am++n.Am.map RG}:Nw)=N4
 have p5:=(Lj (key:=CD) (B:=ZeZ) (K:=Qc) (add:=λs c=>{s with Ao:=s.Ao++[c]}) (G:=λ_=>True) kR n.Ao (λs x _ hx=>⟨(Pz.cls (a5 x hx) (a9 x hx)).map (g:=λc=>({s with Ao:=s.Ao++[c]}:Nw)),trivial⟩) N4 trivial
  (C++(O++(F++(Q++(R++[]))))).length (C++O++F++Q) [] (by have:=Ib _ Qc n.Ao (λx=>by obtain⟨r,hr⟩:=kR x;rw[hr];simp) (C++O++F++Q) [];rw[<-hR]at this;simpa[Ai]using this)
  (s0 _)).1
 rw[<-hR,XG]at p5;simp only[Ai,A0]at p5 ⊢;rw[A1 C.length,A1 O.length F.length Q.length,p5];simp only[PR.bind];refine⟨C.length+(O.length+(F.length+Q.length))+R.length,?_⟩;unfold ZkY;rw[decide_eq_false (by simp only[A0,Cz];omega)];subst hN4 hN3 hN2 hN1;rfl
theorem Ss(s:Bs):∀(f p c:Nat)(l:List Go.Av.Net.Tok),p<=s.length->s.length<p+f->c<=3000->3000<c+l.length->Fh (s.drop p) p l->∃q,G7 s f p c=.err 2 q
 |0,p,c,l,h1,h2,_,_,_=>by omega
 |f+1,p,c,l,h1,h2,h3,h4,h=>by
  have hg:=Lm false (s.drop p);simp only[A6]at hg;unfold G7;cases h with
  |nil q=>simp only[Cz]at h4;omega
  |cons q1 q2 q3=>
   rename_i n k t l;rw[A6]at q1;simp only[A2]at h4;rw[decide_eq_false (by omega),cond_false];by_cases hc:c=3000;rw[decide_eq_true hc];exact⟨_,rfl⟩;rw[decide_eq_false hc,cond_false];rw[C1]at q2 q3;rw[q2];simp only;(obtain⟨_,t1,t2,t3⟩:=Ng q2 [] λc hc=>by simp at hc);simp only[A6]at t3;obtain⟨q,hq⟩:=Ss s f (p+F6 false (s.drop p)+n) (c+1) l (by omega) (by omega) (by omega) (by omega) (by rw[A1];rw[A1]at q3;exact q3);rw[hq];exact⟨q,rfl⟩
theorem bC{n:G3}(h:By n=true):(∃q,NP (El n)=.err 2 q)\/FZ (El n)=.ok (toN n):=by
 obtain⟨l,e,hl⟩:=tE h;obtain⟨L,hL⟩:=tW h;by_cases h1:(El n).length<=8000
 ·by_cases h2:l.length<=3000;·right;have hx:=Za6.2 ⟨h1,h2,hl⟩;unfold FZ;rw[hx];simp only[e,hL]
  left;unfold NP;rw[decide_eq_false (by omega)];exact Ss (El n) ((El n).length+1) 0 0 l (Nat.zero_le _) (by omega) (by omega) (by omega) (by simpa using hl)
 left;unfold NP;rw[decide_eq_true (by omega)];exact⟨_,rfl⟩
def Zfj(o:xQ):JV:=⟨o.name,o.oper,o.Gs,o.Bg,o.As,o.Ap,o.AK⟩
def Zfk(l:Lin):Na:=⟨l.name,l.from_,l.VJ,l.at_,l.Bb,l.load⟩
def ofN(n:Nw):G3:=⟨n.Aq,n.names,n.opers,n.Ag.map Zfj,n.Am.map Zfk,n.Ao⟩
theorem QW{α:Type}{f:α->α}:∀{l:List α},(∀x∈l,f x=x)->l.map f=l
 |[],_=>rfl
 |x::l,h=>by rw[CJ,h x (by simp),QW λy hy=>h y (by simp[hy])]
theorem ZdM{n:G3}(h:By n=true):ofN (toN n)=n:=by
 unfold By at h;simp only[AA,decide_eq_true_eq]at h;obtain⟨⟨⟨⟨⟨q0,q1⟩,q6⟩,q7⟩,q8⟩,q9⟩:=h;obtain⟨c,m,o,f,l,k⟩:=n;unfold toN ofN;simp only[List.map_map]at *;congr 1;refine QW λx hx=>?_;have:=Ax.1 q7 x hx;unfold HH at this;simp only[AA]at this;have h1:=(QH this.1.1.1.1.1).choose_spec.2.2.2.2;have h2:=(QH this.1.1.1.1.2).choose_spec.2.2.2.2;obtain⟨a1,a2,a3,a4,a5,a6,a7⟩:=x;simp only[Function.comp_apply,RF,Zfj]at *;rw[Ce h1,Ce h2];refine QW λx hx=>?_;have:=Ax.1 q8 x hx;unfold PJ at this;simp only[AA]at this;have h1:=(QH this.1.1.1.1).choose_spec.2.2.2.2;have h2:=(QH this.1.1.1.2).choose_spec.2.2.2.2;obtain⟨a1,a2,a3,a4,a5,a6⟩:=x;simp only[Function.comp_apply,RG,Zfk]at *;rw[Ce h1,Ce h2]
def TOK(ts:List KT):Prop:=∀t∈ts,t.1=2->(∀b∈t.2,DG b=true)/\t.2.length<=8
end Go.Proofs.YtmmhehdlnjojjaaGreatDoor.Np.Pl
namespace Go.Proofs.YtmmhehdlnjojjaaGreatDoor.Np
open Go.Av Go.Av.Net Pl
theorem Cm(l:List Bs):∀e∈strs l,closed e=true:=by
 intro e he;obtain⟨s,_,rfl⟩:=Dj.1 he;rfl
end Go.Proofs.YtmmhehdlnjojjaaGreatDoor.Np