/- warrant: Text. -/
import Derived.Test.YtmmhehdlnjojjaaGreatDoorQf
import Derived.Test.YtmmhehdlnjojjaaGreatDoorQw
import Derived.Test.YtmmhehdlnjojjaaGreatDoorQc
set_option linter.unusedVariables false
set_option maxRecDepth 100000
set_option linter.unusedSectionVars false
set_option linter.unusedSimpArgs false
set_option maxHeartbeats 4000000
open Go.Proofs.Tryz
open Go.Proofs.Tryz renaming prog → Pg
open List renaming length_map → Ai, take_succ_eq_append_getElem → AA, take_length → A0, length_append → A1, mem_singleton → A2, getElem_mem → A4, mem_map → A5, mem_of_mem_take → A6, length_cons → BQ, foldl_cons → BU, map_append → Cb
open Nat renaming zero_le → Ax, lt_of_lt_of_le → A9, le_trans → BG
open Int renaming eq_ofNat_of_zero_le → A3
open And renaming intro → BR
namespace Go.Proofs.YtmmhehdlnjojjaaGreatDoor
theorem Ybg{P:Prop}(e:P:=by
 refine kW ?_;refine⟨⟨(Ai _).symm,Du _⟩,?_⟩;conv=>whnf
 exact⟨l,rfl,by omega⟩):P:=e
theorem Ybh{P:Prop}(e:P:=by refine kW ?_;constructor<;>intro _;refine kW ?_;exact⟨_,rfl⟩;refine kW ?_;refine⟨k+1,?_⟩;refine qG ?_;omega):P:=e
end Go.Proofs.YtmmhehdlnjojjaaGreatDoor
namespace Go.Proofs.YtmmhehdlnjojjaaGreatDoor
open Go.Av Go.RowKit
abbrev bT:Nat:=113
abbrev bE:Nat:=5
theorem ZfU:liesAt Pg Pg.depth bT (2/Pg.cellsOf bT) 0 (Tryz.Cv.t 72) 1=true:=by kernel_rfl
theorem Zlb(c:UInt8):FO Pg bT bE 70 [.int .u8 c.toNat] [c]:=
 FO.byte (P:=Pg) (ρ:=Np.oI) (T:=bT) (by kernel_rfl) Np.pA Np.ZfO ZfU (by decide) c
theorem ZfT(s:List UInt8):FO Pg bT bE 69 [.str s] s:=
 FO.text (P:=Pg) (ρ:=Tryz.Cv) (T:=bT) (by kernel_rfl) Np.pB Tryz.AN ZfU (by decide) s
theorem Ze2:nO Pg bT bE 57:=
 nO.of_string (P:=Pg) (ρ:=Tryz.Cv) (T:=bT) (by kernel_rfl) Np.oZ Tryz.AN
theorem Ny{x:Int}(h0:0<=x)(h1:x<=99999):(Lib.itoa x).length<=5:=by
 obtain⟨u,rfl⟩:=A3 h0;rw[Lib.itoa_nonneg];exact Cc.S2 4 u (by omega)
def VU(L:List Int):List UInt8:=L.flatMap λx=>32::Lib.itoa x
def I4(s:Int)(L:List Int):List UInt8:=Lib.itoa s++VU L
theorem Ub:∀(L:List Int),(∀x∈L,0<=x/\x<=99999)->(VU L).length<=6*L.length
 |[],_=>Ax _
 |x::L,h=>by have h1:=Ub L λy hy=>h y (List.mem_cons_of_mem _ hy);have h2:=Ny (h x (by simp)).1 (h x (by simp)).2;unfold VU at h1⊢;simp only[List.flatMap_cons,A1,BQ];omega
theorem XV(s:Int)(L:List Int)(s0:0<=s)(s1:s<=99999)(hL:∀x∈L,0<=x/\x<=99999)(hl:L.length<=1000000):Au Pg 18 [.agg [ints L,.int .i64 s]] (λr=>r=.str (I4 s L)):=by
 have Xl:=Ny s0 s1;refine Au.Ak func18 rfl Ab (by kernel_rfl) ?_;conv=>whnf
 refine Aa.ZaT ?_;refine kR ?_;refine⟨λ_=>?_,λh=>absurd (of_decide_eq_true h) (by omega)⟩;refine kW ?_;refine⟨λh=>absurd (of_decide_eq_true h) (by omega),λ_=>?_⟩;conv=>whnf
 refine Aa.iL ?_;conv=>whnf
 refine Aa.seq ?_;refine Aa.Zac bT bE 0 Ab ?_;conv=>whnf
 refine⟨rfl,rfl,λb=>?_⟩;refine kW ?_;refine kC (Np.Hn s (by omega) (by omega) (by omega)) ?_;refine Ah.F0 rfl (ZfT (Lib.itoa s)) rfl (by simp;omega) ?_;refine kW ?_;rw[Ai,List.nil_append];refine Aa.Ar (λk:Nat=>mk 37 [(1,.ptr 1 0),(3,.raw (H9 b)),(19,ints L),(20,.int .i64 (L.length:Nat)),(21,.int .i64 (k:Nat))]) (λk=>[.inv (Qo bT bE b (I4 s (L.take k))),.cells [ints L,.int .i64 s]]) (λk=>k<=L.length) (λk=>L.length-k) (λ_ _=>⟨rfl,rfl,trivial⟩) ⟨0,?_⟩ (λ_=>rfl) λk hk=>?_;refine kQ ?_;exact⟨by simp[I4,VU],Ax _⟩
 have hb:(I4 s (L.take k)).length<=10000000:=by
  have h1:=Ub (L.take k) λx hx=>hL x (A6 hx);have h2:(L.take k).length<=L.length:=by simp;omega
  unfold I4;rw[A1];omega
 refine kR ?_;constructor<;>intro h
 ·have h:k<L.length:=by have:=of_decide_eq_true h;omega
  have hg:(L.map (AV.int .i64))[((k:Nat):Int).toNat]?=some (.int .i64 L[k]):=by simp[h]
  have hx:=hL _ (A4 h);have hs:I4 s (L.take (k+1))=I4 s (L.take k)++[32]++Lib.itoa L[k]:=by unfold I4 VU;rw[AA h,List.flatMap_append];simp
  generalize L[k]=x at*;generalize I4 s (L.take k)=B at*;have h5:=Ny hx.1 hx.2;refine kW ?_;refine⟨by omega,_,hg,?_⟩;refine kW ?_;refine⟨λ_=>?_,λh=>absurd (of_decide_eq_true h) (by omega)⟩;refine kW ?_;refine⟨λh=>absurd (of_decide_eq_true h) (by omega),λ_=>?_⟩;refine kW ?_;refine Ah.F0 rfl (Zlb 32) rfl (by simp;omega) ?_;refine kW ?_;refine kC (Np.Hn x (by omega) (by omega) (by omega)) ?_;refine Ah.F0 rfl (ZfT (Lib.itoa x)) rfl (by simp;omega) ?_;refine kW ?_;refine⟨k+1,?_⟩;conv=>whnf
  repeat(refine BR ?_ ?_;(focus (first|rfl|(simp;done)|(first|exact ZI _ (by omega)|exact congrArg (λx=>HO.inv (Qo bT bE b x)) hs.symm;done)));conv=>whnf)
  omega
 have h:k=L.length:=by have:=of_decide_eq_false h;omega
 subst h;rw[A0]at hb ⊢;refine kW ?_;refine Ah.oQ rfl Ze2 (by omega) ?_;exact Er
def SI(l:List UInt8):Nat:=l.foldl (λv c=>v*10+(c.toNat-48)) 0
theorem XO(l:List UInt8)(c:UInt8):SI (l++[c])=SI l*10+(c.toNat-48):=by unfold SI;rw[List.foldl_append];rfl
theorem Zcm(u:Nat):SI (Lib.decDigits u)=u:=by
 induction u using Nat.strongRecOn with
 |_ u ih=>
  by_cases h:u<10;rw[Lib.decDigits_one h];have:=Cc.I1 u h;unfold SI;simp only[BU,List.foldl_nil];omega;rw[Lib.decDigits,dif_neg h,XO,ih (u/10) (by omega)];have:=Cc.I1 (u%10) (by omega);omega
theorem Zbu:∀(l:List UInt8)(v:Nat),(∀c∈l,48<=c.toNat/\c.toNat<=57)->l.foldl (λv c=>v*10+(c.toNat-48)) v<(v+1)*10^l.length
 |[],v,_=>by simp
 |c::l,v,h=>by have h1:=Zbu l (v*10+(c.toNat-48)) λd hd=>h d (by simp[hd]);have h2:=h c (by simp);rw[BU,BQ,Nat.pow_succ];refine A9 h1 ?_;rw[Nat.mul_comm (10^l.length) 10,<-Nat.mul_assoc];exact Nat.mul_le_mul_right _ (by omega)
theorem ZeQ{l:List UInt8}(h:∀c∈l,48<=c.toNat/\c.toNat<=57)(h5:l.length<=5):SI l<100000:=by
 have:=Zbu l 0 h;rw[Nat.zero_add,Nat.one_mul]at this;exact A9 this (BG (Nat.pow_le_pow_right (by omega) h5) (by decide))
theorem eZ:∀u:Nat,1<=u->∃c r,Lib.decDigits u=c::r/\c≠48
 |u,h1=>by by_cases h:u<10;rw[Lib.decDigits_one h];refine⟨_,_,rfl,λe=>?_⟩;have:=congrArg UInt8.toNat e;rw[Cc.I1 u h]at this;have:(48:UInt8).toNat=48:=rfl;omega;rw[Lib.decDigits,dif_neg h];obtain⟨c,r,e,hc⟩:=eZ (u/10) (by omega);exact⟨c,r++[UInt8.ofNat (48+u%10)],by rw[e];rfl,hc⟩
theorem bW(u:Nat)(h:u<=99999):Au Pg 68 [.str (Lib.decDigits u)] (λr=>r=.tuple [.int .i64 u,.bool true]):=by
 have hlen:(Lib.decDigits u).length<=5:=Cc.S2 4 u (by omega);have BK:=Cc.Zco u;have Sa:=Cc.Rn u;have hv:=Zcm u
 have hz:1<(Lib.decDigits u).length->(Lib.decDigits u).head?≠some 48:=λhl=>by
  have hu:1<=u:=by by_cases hu:1<=u;exact hu;(obtain rfl:u=0:=by omega);rw[Lib.decDigits_one (by decide)]at hl;simp at hl
  obtain⟨c,r,e,hc⟩:=eZ u hu;rw[e];simpa using hc
 generalize Lib.decDigits u=W at*;subst hv;have hl0:W.length≠0:=λe=>BK (List.length_eq_zero_iff.1 e);refine kB func68 rfl ?_;refine⟨λ_=>?_,λh=>absurd (of_decide_eq_true h) (by omega)⟩;conv=>whnf
 refine⟨λ_=>?_,λh=>absurd (of_decide_eq_true h) (by omega)⟩;conv=>whnf
 constructor<;>intro g;have g:1<W.length:=by have:=of_decide_eq_true g;omega
 obtain⟨c,r,hcr⟩:=List.exists_cons_of_ne_nil BK;have hc:c≠48:=λe=>hz g (by rw[hcr,e];rfl);have hcn:¬(c.toNat:Int)=48:=λe=>hc (UInt8.toNat_inj.1 (by have:(48:UInt8).toNat=48:=rfl;omega));conv=>whnf
 refine⟨⟨by omega,by omega⟩,?_⟩;conv=>whnf
 have e0:W.getD (Int.toNat 0) 0=c:=by rw[hcr];rfl
 rw[e0];refine kR ?_;refine⟨λq=>absurd (of_decide_eq_true q) hcn,λ_=>?_⟩;refine kW ?_
 rotate_left
 refine kW ?_
 all_goals
  refine Aa.Ar (λk:Nat=>mk 49 [(0,.str W),(4,.int .i64 (SI (W.take k):Nat)),(25,.int .i64 (W.length:Nat)),(26,.int .i64 (k:Nat))]) (λ_=>[]) (λk=>k<=W.length) (λk=>W.length-k) (λ_ _=>⟨rfl,trivial⟩) ⟨0,?_⟩ (λ_=>rfl) λk hk=>?_;refine kQ ?_;exact Ax _;refine kR ?_;constructor<;>intro h;·(have h:k<W.length:=by have:=of_decide_eq_true h;omega);(have hs:SI (W.take (k+1))=SI (W.take k)*10+(W[k].toNat-48):=by rw[AA h,XO]);have hb:=Sa _ (A4 h);have hv5:SI (W.take k)<100000:=ZeQ (λc hc=>Sa c (A6 hc)) (by simp;omega);(have hg:W.getD ((k:Nat):Int).toNat 0=W[k]:=by simp[h]);generalize W[k]=c at*;generalize SI (W.take k)=v at*;refine kW ?_;refine⟨⟨by omega,by omega⟩,?_⟩;rw[hg];(conv=>whnf);refine⟨λ_=>?_,λq=>absurd (of_decide_eq_true q) (by omega)⟩;(conv=>whnf);refine⟨⟨by omega,by omega⟩,?_⟩;rw[hg];refine kW ?_;refine⟨λq=>absurd (of_decide_eq_true q) (by omega),λ_=>?_⟩;refine kW ?_;refine⟨⟨by omega,by omega⟩,?_⟩;rw[hg];refine kW ?_;refine⟨k+1,?_⟩;(have e1:Wr .i64 (Wr .i64 ((v:Int)*10)+Wr .i64 (Wr .u8 ((c.toNat:Int)-48)))=((SI (W.take (k+1)):Nat):Int):=by rw[HE (n:=(v:Int)*10) (by omega),fY .u8 ((c.toNat:Int)-48) (by unfold IU IntKind.min IntKind.max;simp[IntKind.signed,IntKind.bits];omega),HE (n:=(c.toNat:Int)-48) (by omega),HE (by omega),hs];omega);(conv=>whnf);(repeat(refine BR ?_ ?_;(focus (first|rfl|(simp;done)|(first|exact e1|exact ZI _ (by omega);done)));conv=>whnf));omega
  have h:k=W.length:=by have:=of_decide_eq_false h;omega
  subst h;rw[A0];exact Er
theorem PN{x:Int}(h:0<=x):Lib.itoa x=Lib.decDigits x.toNat:=by
 obtain⟨u,rfl⟩:=A3 h;rw[Lib.itoa_nonneg];rfl
theorem Tt:∀(L:List Int)(a:List UInt8),(32:UInt8)∉a->(∀x∈L,0<=x)->Cc.splitB (a++VU L)=a::L.map Lib.itoa
 |[],a,ha,_=>by unfold VU;rw[List.flatMap_nil,List.append_nil];exact Cc.Jm ha
 |x::L,a,ha,h=>by
  have e:a++VU (x::L)=a++32::(Lib.itoa x++VU L):=by unfold VU;simp
  rw[e,Cc.K3 _ ha,Tt L _ (Cc.Ko (h x (by simp))) λy hy=>h y (by simp[hy])];rfl
theorem Vw(s:Int)(L:List Int)(s0:0<=s)(s1:s<=99999)(hL:∀x∈L,0<=x/\x<=99999)(hl:L.length<=100000):Au Pg 17 [.str (I4 s L)] (λr=>r=.tuple [.agg [ints L,.int .i64 s],.int .i64 0]):=by
 have Xl:=Ny s0 s1;have hn:=Ub L hL;have pJ:Cc.splitB (I4 s L)=(s::L).map Lib.itoa:=Tt L _ (Cc.Ko s0) λx hx=>(hL x hx).1;have hct:(I4 s L).length<=1000000:=by unfold I4;rw[A1];omega
 have hV:∀x∈s::L,0<=x/\x<=99999:=λx hx=>by rcases List.mem_cons.1 hx with rfl|hx;exact⟨s0,s1⟩;exact hL x hx
 have hVl:(s::L).length<=100001:=by simp;omega
 have dG:=Cc.Tr (I4 s L) hct;rw[pJ]at dG;generalize I4 s L=T at*;obtain⟨V,hVe⟩:∃V,V=s::L:=⟨_,rfl⟩;rw[<-hVe]at dG hV hVl;refine Au.Ak func17 rfl Ab (by kernel_rfl) ?_;conv=>whnf
 refine Aa.seq ?_;refine Aa.st Ab rfl ?_;conv=>whnf
 refine Aa.seq ?_;refine Aa.st Ab rfl ?_;conv=>whnf
 refine Aa.Hj 4 3 1 rfl ?_;refine kW ?_;refine kC (dG) ?_;have gG:(Cc.strs (V.map Lib.itoa)).length=V.length:=by simp[Cc.strs]
 rw[gG];refine Aa.Ar (λk:Nat=>mk 35 [(2,.ptr 0 0),(4,.own 1 1 0 k),(10,.sl 1 (Cc.strs (V.map Lib.itoa))),(11,.int .i64 (V.length:Nat)),(12,.int .i64 (k:Nat))]) (λk=>[.cells [Fm,.int .i64 0],.arr 3 1 ((V.take k).map (AV.int .i64))]) (λk=>k<=V.length) (λk=>V.length-k) (λk _=>⟨rfl,rfl,B6 _,trivial⟩) ⟨0,?_⟩ (λ_=>rfl) λk hk=>?_;refine kQ ?_;exact Ax _;refine kR ?_;constructor<;>intro h
 ·have h:k<V.length:=by have:=of_decide_eq_true h;omega
  have hg:(Cc.strs (V.map Lib.itoa))[((k:Nat):Int).toNat]?=some (.str (Lib.itoa V[k])):=by simp[Cc.strs,h]
  have hx:=hV _ (A4 h);have hs:(V.take (k+1)).map (AV.int .i64)=(V.take k).map (AV.int .i64)++[.int .i64 V[k]]:=by rw[AA h,Cb];rfl
  generalize V[k]=x at*;have Zj8:=bW x.toNat (by omega);rw[<-PN hx.1,show((x.toNat:Nat):Int)=x by omega]at Zj8;refine kW ?_;refine⟨by omega,_,hg,?_⟩;refine kW ?_;refine kC (Zj8) ?_;refine⟨λq=>absurd q (by decide),λ_=>?_⟩;refine kW ?_;refine⟨rfl,?_⟩;conv=>whnf
  refine⟨⟨by simp;omega,by simp;omega⟩,?_⟩;rw[<-hs];refine kW ?_;have e2:AV.own 1 1 0 ((V.take (k+1)).map (AV.int .i64)).length=.own 1 1 0 (k+1):=congrArg (AV.own 1 1 0) (by simp;omega);refine⟨k+1,?_⟩;refine qG ?_;omega
 have h:k=V.length:=by have:=of_decide_eq_false h;omega
 subst h;rw[A0];refine kW ?_;refine Aa.freeze 1 ?_;conv=>whnf
 refine⟨B6 _,?_⟩;conv=>whnf
 repeat(refine⟨(by first|rfl|(simp;done):(_:Nat)=_),?_⟩;conv=>whnf)
 rw[hVe];refine Aa.draw [6] Ab mO (by kernel_rfl) ?_;conv=>whnf
 refine⟨by omega,_,rfl,?_⟩;conv=>whnf
 refine⟨by simp<;>omega,?_⟩;refine kW ?_;have e:List.drop (Int.toNat 1) (List.take (((s::L).map (AV.int .i64)).length:Int).toNat ((s::L).map (AV.int .i64)))=L.map (AV.int .i64):=by rw[show((((s::L).map (AV.int .i64)).length:Nat):Int).toNat=((s::L).map (AV.int .i64)).length from rfl,A0];rfl
 rw[e];rfl
theorem Du(l:List Bs):∀e∈l.map AV.str,closed e=true:=λe he=>Ad _ (λ_=>rfl) _ _ he
theorem J2(l:List Bs)(s:Bs):l.map AV.str++[.str s]=(l++[s]).map AV.str:=by rw[Cb];rfl
abbrev nmH(n:Net)(l:List Bs):List HO:=[.cells n.c,.arr 9 1 (l.map AV.str)]
section
variable (n:Net)(hl:n.names.length<=1000/\n.Aq.length<=1000/\n.opers.length<=1000/\n.Ag.length<=1000/\n.Am.length<=1000/\n.Ao.length<=1000)
include hl
theorem VP(kind:Int):Au Pg 72 [n.v,.int .i64 kind] (λr=>∃l:List Bs,r=.sl 1 (l.map AV.str)/\l.length<=1000):=by
 refine Au.Ak func72 rfl Ab (by kernel_rfl) ?_;conv=>whnf
 refine Aa.seq ?_;refine Aa.st Ab rfl ?_;conv=>whnf
 refine Aa.seq ?_;refine Aa.st Ab rfl ?_;conv=>whnf
 refine Aa.Hj 5 9 1 rfl ?_;refine kW ?_;constructor<;>intro _
 ·refine kW ?_;refine Aa.Ar (λx:Nat×List Bs=>mk 110 [(2,.ptr 0 0),(5,.own 1 1 0 x.2.length),(6,.int .i64 (x.1:Nat))]) (λx=>nmH n x.2) (λx=>x.1<=n.Aq.length/\x.2.length=x.1) (λx=>n.Aq.length-x.1) (λx _=>⟨rfl,rfl,Du _,trivial⟩) ⟨(0,[]),?_⟩ (λ_=>rfl) λx hx=>?_;·refine kQ ?_;first|rfl|exact⟨Ax _,rfl⟩
  obtain⟨k,l⟩:=x;simp only at hx;obtain⟨hk,gJ⟩:=hx;show Aa Pg _ (mk 110 [(2,.ptr 0 0),(5,.own 1 1 0 l.length),(6,.int .i64 (k:Nat))]) (nmH n l) _ _;refine kR ?_;rw[Ai];constructor<;>intro h
  ·(have h:k<n.Aq.length:=by have:=of_decide_eq_true h;omega);refine kW ?_;rw[Ai];constructor<;>intro g;·(have g:k<n.names.length:=by have:=of_decide_eq_true g;omega);(have hg:(n.names.map AV.str)[((k:Nat):Int).toNat]?=some (.str n.names[k]):=by simp[g]);generalize n.names[k]=s at*;refine kW ?_;refine⟨by omega,_,hg,?_⟩;refine kW ?_;refine⟨rfl,?_⟩;(conv=>whnf);refine⟨⟨by simp,by simp;omega⟩,?_⟩;rw[J2];refine kW ?_;refine⟨(k+1,l++[s]),?_⟩;have e2:AV.own 1 1 0 ((l++[s]).map AV.str).length=.own 1 1 0 (l++[s]).length:=congrArg (AV.own 1 1 0) (Ai _);refine qG ?_;exact⟨⟨h,by simp;omega⟩,by simp only;omega⟩
   refine kW ?_;refine⟨rfl,?_⟩;(conv=>whnf);refine⟨⟨by simp,by simp;omega⟩,?_⟩;rw[J2];refine kW ?_;refine⟨(k+1,l++[[]]),?_⟩;have e2:AV.own 1 1 0 ((l++[[]]).map AV.str).length=.own 1 1 0 (l++[[]]).length:=congrArg (AV.own 1 1 0) (Ai _);refine qG ?_;exact⟨⟨h,by simp;omega⟩,by simp only;omega⟩
  exact Ybg
 refine kW ?_;constructor<;>intro _
 ·refine kW ?_;refine Aa.Ar (λx:Nat×List Bs=>mk 110 [(2,.ptr 0 0),(5,.own 1 1 0 x.2.length),(7,.int .i64 (x.1:Nat))]) (λx=>nmH n x.2) (λx=>x.1<=n.opers.length/\x.2.length=x.1) (λx=>n.opers.length-x.1) (λx _=>⟨rfl,rfl,Du _,trivial⟩) ⟨(0,[]),?_⟩ (λ_=>rfl) λx hx=>?_;·refine kQ ?_;first|rfl|exact⟨Ax _,rfl⟩
  obtain⟨k,l⟩:=x;simp only at hx;obtain⟨hk,gJ⟩:=hx;show Aa Pg _ (mk 110 [(2,.ptr 0 0),(5,.own 1 1 0 l.length),(7,.int .i64 (k:Nat))]) (nmH n l) _ _;refine kR ?_;rw[Ai];constructor<;>intro h;·(have h:k<n.opers.length:=by have:=of_decide_eq_true h;omega);refine kW ?_;(have hg:(n.opers.map (λs=>AV.agg [.str s]))[((k:Nat):Int).toNat]?=some ((λs=>AV.agg [.str s]) n.opers[k]):=by simp[h]);obtain⟨s,hs⟩:∃s,s=n.opers[k]:=⟨_,rfl⟩;rw[<-hs]at hg;refine⟨by omega,_,hg,?_⟩;refine kW ?_;refine⟨rfl,?_⟩;(conv=>whnf);refine⟨⟨by simp,by simp;omega⟩,?_⟩;rw[J2];refine kW ?_;refine⟨(k+1,l++[s]),?_⟩;have e2:AV.own 1 1 0 ((l++[s]).map AV.str).length=.own 1 1 0 (l++[s]).length:=congrArg (AV.own 1 1 0) (Ai _);refine qG ?_;exact⟨⟨h,by simp;omega⟩,by simp only;omega⟩
  exact Ybg
 refine kW ?_;constructor<;>intro _
 ·refine kW ?_;refine Aa.Ar (λx:Nat×List Bs=>mk 110 [(2,.ptr 0 0),(5,.own 1 1 0 x.2.length),(8,.int .i64 (x.1:Nat))]) (λx=>nmH n x.2) (λx=>x.1<=n.Ag.length/\x.2.length=x.1) (λx=>n.Ag.length-x.1) (λx _=>⟨rfl,rfl,Du _,trivial⟩) ⟨(0,[]),?_⟩ (λ_=>rfl) λx hx=>?_;·refine kQ ?_;first|rfl|exact⟨Ax _,rfl⟩
  obtain⟨k,l⟩:=x;simp only at hx;obtain⟨hk,gJ⟩:=hx;show Aa Pg _ (mk 110 [(2,.ptr 0 0),(5,.own 1 1 0 l.length),(8,.int .i64 (k:Nat))]) (nmH n l) _ _;refine kR ?_;rw[Ai];constructor<;>intro h;·(have h:k<n.Ag.length:=by have:=of_decide_eq_true h;omega);refine kW ?_;(have hg:(n.Ag.map (LC.v))[((k:Nat):Int).toNat]?=some ((LC.v) n.Ag[k]):=by simp[h]);obtain⟨s,hs⟩:∃s,s=n.Ag[k]:=⟨_,rfl⟩;rw[<-hs]at hg;refine⟨by omega,_,hg,?_⟩;refine kW ?_;refine⟨rfl,?_⟩;(conv=>whnf);refine⟨⟨by simp,by simp;omega⟩,?_⟩;rw[J2];refine kW ?_;refine⟨(k+1,l++[s.name]),?_⟩;have e2:AV.own 1 1 0 ((l++[s.name]).map AV.str).length=.own 1 1 0 (l++[s.name]).length:=congrArg (AV.own 1 1 0) (Ai _);refine qG ?_;exact⟨⟨h,by simp;omega⟩,by simp only;omega⟩
  exact Ybg
 refine kW ?_;constructor<;>intro _
 ·refine kW ?_;refine Aa.Ar (λx:Nat×List Bs=>mk 110 [(2,.ptr 0 0),(5,.own 1 1 0 x.2.length),(9,.int .i64 (x.1:Nat))]) (λx=>nmH n x.2) (λx=>x.1<=n.Am.length/\x.2.length=x.1) (λx=>n.Am.length-x.1) (λx _=>⟨rfl,rfl,Du _,trivial⟩) ⟨(0,[]),?_⟩ (λ_=>rfl) λx hx=>?_;·refine kQ ?_;first|rfl|exact⟨Ax _,rfl⟩
  obtain⟨k,l⟩:=x;simp only at hx;obtain⟨hk,gJ⟩:=hx;show Aa Pg _ (mk 110 [(2,.ptr 0 0),(5,.own 1 1 0 l.length),(9,.int .i64 (k:Nat))]) (nmH n l) _ _;refine kR ?_;rw[Ai];constructor<;>intro h;·(have h:k<n.Am.length:=by have:=of_decide_eq_true h;omega);refine kW ?_;(have hg:(n.Am.map (Im.v))[((k:Nat):Int).toNat]?=some ((Im.v) n.Am[k]):=by simp[h]);obtain⟨s,hs⟩:∃s,s=n.Am[k]:=⟨_,rfl⟩;rw[<-hs]at hg;refine⟨by omega,_,hg,?_⟩;refine kW ?_;refine⟨rfl,?_⟩;(conv=>whnf);refine⟨⟨by simp,by simp;omega⟩,?_⟩;rw[J2];refine kW ?_;refine⟨(k+1,l++[s.name]),?_⟩;have e2:AV.own 1 1 0 ((l++[s.name]).map AV.str).length=.own 1 1 0 (l++[s.name]).length:=congrArg (AV.own 1 1 0) (Ai _);refine qG ?_;exact⟨⟨h,by simp;omega⟩,by simp only;omega⟩
  exact Ybg
 refine kW ?_;constructor<;>intro _
 ·refine kW ?_;refine Aa.Ar (λx:Nat×List Bs=>mk 110 [(2,.ptr 0 0),(5,.own 1 1 0 x.2.length),(10,.int .i64 (x.1:Nat))]) (λx=>nmH n x.2) (λx=>x.1<=n.Ao.length/\x.2.length=x.1) (λx=>n.Ao.length-x.1) (λx _=>⟨rfl,rfl,Du _,trivial⟩) ⟨(0,[]),?_⟩ (λ_=>rfl) λx hx=>?_;·refine kQ ?_;first|rfl|exact⟨Ax _,rfl⟩
  obtain⟨k,l⟩:=x;simp only at hx;obtain⟨hk,gJ⟩:=hx;show Aa Pg _ (mk 110 [(2,.ptr 0 0),(5,.own 1 1 0 l.length),(10,.int .i64 (k:Nat))]) (nmH n l) _ _;refine kR ?_;rw[Ai];constructor<;>intro h;·(have h:k<n.Ao.length:=by have:=of_decide_eq_true h;omega);refine kW ?_;(have hg:(n.Ao.map (Io.v))[((k:Nat):Int).toNat]?=some ((Io.v) n.Ao[k]):=by simp[h]);obtain⟨s,hs⟩:∃s,s=n.Ao[k]:=⟨_,rfl⟩;rw[<-hs]at hg;refine⟨by omega,_,hg,?_⟩;refine kW ?_;refine⟨rfl,?_⟩;(conv=>whnf);refine⟨⟨by simp,by simp;omega⟩,?_⟩;rw[J2];refine kW ?_;refine⟨(k+1,l++[s.name]),?_⟩;have e2:AV.own 1 1 0 ((l++[s.name]).map AV.str).length=.own 1 1 0 (l++[s.name]).length:=congrArg (AV.own 1 1 0) (Ai _);refine qG ?_;exact⟨⟨h,by simp;omega⟩,by simp only;omega⟩
  exact Ybg
 refine kW ?_;refine⟨⟨rfl,λe he=>by cases he⟩,?_⟩;conv=>whnf
 exact⟨[],rfl,Ax _⟩
end
theorem Yi(c:Dm):Au Pg 71 [c.v] (λr=>∃b,r=.bool b):=by
 refine kB func71 rfl ?_;constructor<;>intro _;refine kW ?_;exact⟨_,rfl⟩;refine kW ?_;exact⟨_,rfl⟩
section
variable (n:Net)(hl:n.names.length<=1000/\n.Aq.length<=1000/\n.opers.length<=1000/\n.Ag.length<=1000/\n.Am.length<=1000/\n.Ao.length<=1000)
include hl
theorem lV:Au Pg 22 [n.v] (λr=>∃b,r=.bool b):=by
 refine kB func22 rfl ?_
 iterate 5
  constructor<;>intro _
  rotate_left
  refine kW ?_;exact⟨_,rfl⟩;(conv=>whnf)
 refine kR ?_;constructor<;>intro _;refine kW ?_;exact⟨_,rfl⟩;refine kW ?_;refine Aa.Ar (λk:Nat=>mk 90 [(1,.ptr 0 0),(3,.int .i64 (k:Nat))]) (λ_=>[.cells n.c]) (λk=>k<=n.Aq.length) (λk=>n.Aq.length-k) (λ_ _=>⟨rfl,rfl,trivial⟩) ⟨0,?_⟩ (λ_=>rfl) λk hk=>?_;refine kQ ?_;exact Ax _;refine kR ?_;rw[Ai];constructor<;>intro h
 ·have h:k<n.Aq.length:=by have:=of_decide_eq_true h;omega
  have hg:(n.Aq.map Dm.v)[((k:Nat):Int).toNat]?=some n.Aq[k].v:=by simp[h]
  generalize n.Aq[k]=c at*;refine kW ?_;refine⟨by omega,_,hg,?_⟩;refine kW ?_;refine Ah.BZ (Yi c) rfl λr hr=>?_;obtain⟨b,rfl⟩:=hr;exact Ybh
 refine kW ?_;refine Aa.Ar (λk:Nat=>mk 90 [(1,.ptr 0 0),(4,.int .i64 (k:Nat))]) (λ_=>[.cells n.c]) (λk=>k<=n.Ag.length) (λk=>n.Ag.length-k) (λ_ _=>⟨rfl,rfl,trivial⟩) ⟨0,?_⟩ (λ_=>rfl) λk hk=>?_;refine kQ ?_;exact Ax _;refine kR ?_;rw[Ai];constructor<;>intro h
 ·have h:k<n.Ag.length:=by have:=of_decide_eq_true h;omega
  have hg:(n.Ag.map LC.v)[((k:Nat):Int).toNat]?=some n.Ag[k].v:=by simp[h]
  generalize n.Ag[k]=o at*;refine kW ?_;refine⟨by omega,_,hg,?_⟩;exact Ybh
 refine kW ?_;refine Aa.Ar (λk:Nat=>mk 90 [(1,.ptr 0 0),(5,.int .i64 (k+1:Nat))]) (λ_=>[.cells n.c]) (λk=>k<=5) (λk=>5-k) (λ_ _=>⟨rfl,rfl,trivial⟩) ⟨0,?_⟩ (λ_=>rfl) λk hk=>?_;refine kQ ?_;exact Ax _;refine kR ?_;constructor<;>intro h
 ·have h:k<5:=by have:=of_decide_eq_true h;omega
  refine kW ?_;refine Ah.BZ (VP n hl ((k+1:Nat):Int)) rfl λr hr=>?_;obtain⟨l,rfl,gJ⟩:=hr;refine kW ?_;refine Aa.Ar (λj:Nat=>mk 90 [(1,.ptr 0 0),(5,.int .i64 (k+1:Nat)),(6,.sl 1 (l.map AV.str)),(7,.int .i64 (j:Nat))]) (λ_=>[.cells n.c]) (λj=>j<=l.length) (λj=>l.length-j) (λ_ _=>⟨rfl,rfl,trivial⟩) ⟨0,?_⟩ (λ_=>rfl) λj hj=>?_;refine kQ ?_;exact Ax _;refine kR ?_;rw[Ai];constructor<;>intro h
  ·(have h:j<l.length:=by have:=of_decide_eq_true h;omega);(have hg:(l.map AV.str)[((j:Nat):Int).toNat]?=some (.str l[j]):=by simp[h]);generalize l[j]=s at*;refine kW ?_;refine⟨by omega,_,hg,?_⟩;refine kW ?_;constructor<;>intro _;·refine kW ?_;exact⟨_,rfl⟩
   refine kW ?_;refine⟨j+1,?_⟩;refine qG ?_;omega
  refine kW ?_;refine⟨k+1,?_⟩;refine qG ?_;omega
 refine kW ?_;exact⟨_,rfl⟩
theorem Yh:Au Pg 6 [n.v,.sl 1 []] (λr=>∃b,r=.bool b):=by
 refine kB func6 rfl ?_;refine Ah.BZ (lV n hl) rfl λr hr=>?_;obtain⟨b,rfl⟩:=hr;conv=>whnf
 iterate 2
  constructor<;>intro _
  rotate_left
  refine kW ?_;exact⟨_,rfl⟩;(conv=>whnf)
 refine kR ?_;refine⟨λh=>absurd h (by simp),λ_=>?_⟩;refine kW ?_;refine Aa.Ar (λ_:Unit=>mk 32 [(1,.sl 1 []),(2,.ptr 0 0),(5,.int .i64 0)]) (λ_=>[.cells n.c]) (λ_=>True) (λ_=>0) (λ_ _=>⟨rfl,rfl,trivial⟩) ⟨(),?_⟩ (λ_=>rfl) λ_ _=>?_;refine kQ ?_;trivial;refine kR ?_;refine⟨λh=>absurd h (by simp),λ_=>?_⟩;refine kW ?_;exact⟨_,rfl⟩
end
theorem Mk(L:List Int)(s:Int)(hl:L.length<=1000000):Au Pg 16 [.agg [ints L,.int .i64 s],.agg [ints L,.int .i64 s]] (λr=>r=.bool true):=by
 refine kB func16 rfl ?_;refine⟨λ_=>?_,λh=>absurd h (by simp)⟩;refine kW ?_;refine⟨λh=>absurd h (by simp),λ_=>?_⟩;refine kW ?_;refine Aa.Ar (λk:Nat=>mk 38 [(2,.ptr 0 0),(3,.ptr 1 0),(5,.int .i64 (k:Nat))]) (λ_=>[.cells [ints L,.int .i64 s],.cells [ints L,.int .i64 s]]) (λk=>k<=L.length) (λk=>L.length-k) (λ_ _=>⟨rfl,rfl,rfl,trivial⟩) ⟨0,?_⟩ (λ_=>rfl) λk hk=>?_;refine kQ ?_;exact Ax _;refine kR ?_;rw[Ai];constructor<;>intro h
 ·have h:k<L.length:=by have:=of_decide_eq_true h;omega
  have hg:(L.map (AV.int .i64))[((k:Nat):Int).toNat]?=some (.int .i64 L[k]):=by simp[h]
  generalize L[k]=x at*;refine kW ?_;refine Aa.draw [] Ab mO (by kernel_rfl) ?_;conv=>whnf
  refine⟨by omega,_,hg,?_⟩;conv=>whnf
  refine⟨by omega,_,hg,?_⟩;refine kW ?_;refine⟨λh=>absurd h (by simp),λ_=>?_⟩;refine kW ?_;refine⟨k+1,?_⟩;refine qG ?_;omega
 exact Er
def Mv(N:List (List Int)):Prop:=N.length<=1000000/\∀i,(N.getD i []).length<=1000000
theorem N6(N:List (List Int))(hN:Mv N):Au Pg 66 [DN N,DN N] (λr=>r=.bool true):=by
 have hN1:=hN.1;refine kB func66 rfl ?_;refine⟨λh=>absurd h (by simp),λ_=>?_⟩;refine kW ?_;refine Aa.Ar (λk:Nat=>mk 53 [(0,DN N),(1,DN N),(5,.int .i64 (k:Nat))]) (λ_=>[]) (λk=>k<=N.length) (λk=>N.length-k) (λ_ _=>⟨rfl,trivial⟩) ⟨0,?_⟩ (λ_=>rfl) λk hk=>?_;refine kQ ?_;exact Ax _;refine kR ?_;rw[Ai];constructor<;>intro h
 ·have h:k<N.length:=by have:=of_decide_eq_true h;omega
  have hg:(N.map ints)[((k:Nat):Int).toNat]?=some (ints (N.getD k [])):=by simp[h]
  have hrl:=hN.2 k;generalize N.getD k []=r at*;refine kW ?_;refine Aa.draw [] Ab mO (by kernel_rfl) ?_;conv=>whnf
  refine⟨by omega,_,hg,?_⟩;conv=>whnf
  refine⟨by omega,_,hg,?_⟩;refine kW ?_;refine⟨λh=>absurd h (by simp),λ_=>?_⟩;refine kW ?_;refine Aa.Ar (λj:Nat=>mk 53 [(0,DN N),(1,DN N),(5,.int .i64 (k:Nat)),(6,.int .i64 (j:Nat))]) (λ_=>List.replicate 11 HO.dead) (λj=>j<=r.length) (λj=>r.length-j) (λ_ _=>⟨rfl,trivial⟩) ⟨0,?_⟩ (λ_=>rfl) λj hj=>?_;refine kQ ?_;exact Ax _;refine kR ?_;refine⟨by omega,_,hg,?_⟩;refine kW ?_;rw[Ai];constructor<;>intro h;·(have h:j<r.length:=by have:=of_decide_eq_true h;omega);(have hx:(r.map (AV.int .i64))[((j:Nat):Int).toNat]?=some (.int .i64 r[j]):=by simp[h]);generalize r[j]=x at*;refine kW ?_;refine Aa.draw [] Ab mO (by kernel_rfl) ?_;(conv=>whnf);refine⟨by omega,_,hg,?_⟩;(conv=>whnf);refine⟨by omega,_,hx,?_⟩;(conv=>whnf);refine⟨by omega,_,hg,?_⟩;(conv=>whnf);refine⟨by omega,_,hx,?_⟩;refine kW ?_;refine⟨λh=>absurd h (by simp),λ_=>?_⟩;refine kW ?_;refine⟨j+1,?_⟩;refine qG ?_;omega
  refine kW ?_;refine⟨k+1,?_⟩;refine qG ?_;omega
 exact Er
theorem Tz(D:List (List (List Int)))(hD:D.length<=1000000)(hB:∀i,Mv (D.getD i [])):Au Pg 67 [Lh D,Lh D] (λr=>r=.bool true):=by
 refine kB func67 rfl ?_;refine⟨λh=>absurd h (by simp),λ_=>?_⟩;refine kW ?_;refine Aa.Ar (λk:Nat=>mk 27 [(0,Lh D),(1,Lh D),(5,.int .i64 (k:Nat))]) (λ_=>[]) (λk=>k<=D.length) (λk=>D.length-k) (λ_ _=>⟨rfl,trivial⟩) ⟨0,?_⟩ (λ_=>rfl) λk hk=>?_;refine kQ ?_;exact Ax _;refine kR ?_;rw[Ai];constructor<;>intro h
 ·have h:k<D.length:=by have:=of_decide_eq_true h;omega
  have hg:(D.map DN)[((k:Nat):Int).toNat]?=some (DN (D.getD k [])):=by simp[h]
  have VB:=N6 _ (hB k);generalize D.getD k []=B at*;refine kW ?_;refine Aa.draw [] Ab mO (by kernel_rfl) ?_;conv=>whnf
  refine⟨by omega,_,hg,?_⟩;conv=>whnf
  refine⟨by omega,_,hg,?_⟩;conv=>whnf
  refine⟨_,⟨VB,rfl⟩,?_⟩;conv=>whnf
  refine⟨λ_=>?_,λh=>absurd h (by simp)⟩;refine kW ?_;refine⟨k+1,?_⟩;refine qG ?_;omega
 exact Er
theorem VL(fr till:Int)(N:List (List Int))(D:List (List (List Int)))(hN:Mv N)(hD:D.length<=1000000)(hB:∀i,Mv (D.getD i [])):Au Pg 15 [.agg (Js fr till N D),.agg (Js fr till N D)] (λr=>r=.bool true):=by
 refine Au.lits ?_;refine kB func15 rfl ?_;refine⟨λ_=>?_,λh=>absurd h (by simp)⟩;conv=>whnf
 refine⟨λ_=>?_,λh=>absurd h (by simp)⟩;conv=>whnf
 refine cS (N6 N hN) rfl ?_;conv=>whnf
 refine⟨λ_=>?_,λh=>absurd h (by simp)⟩;conv=>whnf
 refine cS (Tz D hD hB) rfl ?_;conv=>whnf
 refine kR ?_;first|exact .inl rfl|exact .inr rfl
def CU(n:Np.Pl.G3):Net:=⟨n.Aq.map λc=>⟨c.Bc,c.Bw,c.AZ⟩,n.names,n.opers,n.Ag.map λo=>⟨o.name,o.oper,o.Gs,o.Bg,o.As,o.Ap,o.AK⟩,n.Am.map λl=>⟨l.name,l.from_,l.VJ,l.at_,l.Bb,l.load⟩,n.Ao.map λk=>⟨k.name,k.cut,k.Be⟩⟩
theorem Yd(n:Np.Pl.G3):Np.Kd n=(CU n).v:=by
 unfold Np.Kd Net.v Net.c CU;simp only[List.map_map];rfl
def LU:Np.Pl.G3:=⟨[⟨0,[true,true,true,true,true,false,false],[]⟩],[[99]],[[112],[113]],[⟨[97],0,0,2,1,10,[]⟩,⟨[98],1,0,2,1,10,[]⟩],[⟨[108],0,1,480,120,1⟩,⟨[109],1,0,600,60,1⟩],[⟨[107],1020,720⟩]⟩
theorem Rl:Np.BM LU=true:=by kernel_rfl
theorem NJ:Np.Pl.By LU=true:=by kernel_rfl
theorem wP:Go.Av.Net.FZ (Np.Pl.El LU)=.ok (Np.Pl.toN LU):=by kernel_rfl
theorem Zce:Gk 0 2=true:=by kernel_rfl
theorem XM:Df (CU LU)=true:=by kernel_rfl
theorem Zcd:HF (CU LU) (Vz (CU LU) 0 2) (CU LU).Ag.length=true:=by kernel_rfl
theorem ZeM:wrE (CU LU) (Vz (CU LU) 0 2) 0 2 (eU (CU LU) 0 2)=0:=by kernel_rfl
theorem ZeL:decide (10<(I5 (CU LU) (Vz (CU LU) 0 2) 0 2 (eU (CU LU) 0 2)).length)=true:=by kernel_rfl
theorem jV{n:Np.Pl.G3}(h:Np.BM n=true):Oh (CU n):=by
 unfold Np.BM at h;simp only[Bool.and_eq_true,decide_eq_true_eq,List.all_eq_true]at h;obtain⟨⟨⟨⟨⟨⟨⟨⟨h1,h2⟩,h3⟩,h4⟩,h5⟩,h6⟩,h7⟩,h8⟩,h9⟩:=h;have h7:∀s∈Np.HY n,s.length<=40:=λs hs=>by have:=h7 s hs;unfold Np.VM at this;simpa using this
 unfold Np.HY at h7;simp only[List.mem_append,A5]at h7;refine⟨λs hs=>?_,λs hs=>?_,λo ho=>?_,λl hl=>?_,λk hk=>?_,by simp[CU];omega⟩;have:=h7 s (.inl (.inl (.inl (.inl hs))));omega;have:=h7 s (.inl (.inl (.inl (.inr hs))));omega;obtain⟨x,hx,rfl⟩:=A5.1 ho;have:=h7 x.name (.inl (.inl (.inr ⟨x,hx,rfl⟩)));have hc:=h9 x hx;refine⟨by simp only;omega,by simp only;omega,λs hs=>?_⟩;have:=hc.1 s hs;unfold Np.VM at this;simp at this;omega;obtain⟨x,hx,rfl⟩:=A5.1 hl;have:=h7 x.name (.inl (.inr ⟨x,hx,rfl⟩));simp only;omega;obtain⟨x,hx,rfl⟩:=A5.1 hk;have:=h7 x.name (.inr ⟨x,hx,rfl⟩);simp only;omega
theorem mF(n:Net)(hz:Oh n)(fr till:Int):∃(fr' Z5:Int) (N:List (List Int)) (D:List (List (List Int))) (L:List Int) (s e:Int),fJ n fr till=.tuple [.agg (Js fr' Z5 N D),.agg [ints L,.int .i64 s],.int .i64 e]/\
  Mv N/\D.length<=1000000/\(∀i,Mv (D.getD i []))/\L.length<=100000/\(e=0->0<=s/\s<=99999/\∀x∈L,0<=x/\x<=99999):=by
 have Zhg:∀e:Int,¬e=0->∃(fr' Z5:Int) (N:List (List Int)) (D:List (List (List Int))) (L:List Int) (s e':Int),ZeN e=.tuple [.agg (Js fr' Z5 N D),.agg [ints L,.int .i64 s],.int .i64 e']/\
  Mv N/\D.length<=1000000/\(∀i,Mv (D.getD i []))/\L.length<=100000/\(e'=0->0<=s/\s<=99999/\∀x∈L,0<=x/\x<=99999):=λe he=>
  ⟨0,0,[],[],[],0,e,rfl,⟨by simp,by simp⟩,by simp,λi=>⟨by simp,by simp⟩,by simp,λh=>absurd h he⟩
 unfold fJ fI;split;exact Zhg 1 (by decide);split;exact Zhg 140 (by decide);rename_i h1 h2;have h1:Gk fr till=true/\Df n=true:=by cases hd:Gk fr till<;>cases hs:Df n<;>simp_all
 have hn:=(IE n hz h1.2).ok;have hd:=Iz.1 h1.1;have hN:Et n (Vz n fr till):=SS n (1440*fr) (1440*till);have Xv:Qa (eU n fr till) n.Ao.length n.Ag.length:=Tn n _ fr till;have hL:=hn.len;split
 ·rename_i he;unfold wrE at he;split at he
  ·rename_i hc;have hcr:=Vk hn hd.1 hd.2.1 hd.2.2.1 hN;refine⟨_,_,_,_,_,_,_,rfl,⟨by rw[hN.len];omega,λi=>?_⟩,by rw[Xv.1];omega,λi=>?_,?_,λ_=>?_⟩;exact BG (Pf (p:=n.Ag.length) (by omega) (λo ho=>(hN.row o ho).1) i) (by decide)
   ·by_cases hi:i<n.Ao.length;·obtain⟨q1,q2⟩:=Xv.2 i hi;exact⟨by omega,λj=>BG (Pf (p:=n.Ag.length) (by omega) (λo ho=>(q2 o (by omega)).1) j) (by decide)⟩
    (have e:(eU n fr till).getD i []=[]:=by rw[List.getD_eq_getElem?_getD,List.getElem?_eq_none (by rw[Xv.1];omega)];rfl);rw[e];exact⟨by simp,by simp⟩
   unfold wrL;rw[if_pos hc];omega;unfold wrS wrL;rw[if_pos hc,if_pos hc];have hs:=K4 (I5 n (Vz n fr till) fr till (eU n fr till)) (1,0) (by decide);exact⟨hs.2.2.1,by show(_:Int)<=_;unfold Wv;omega,hcr⟩
  cases he
 rename_i he;exact Zhg _ he
def ZkZ:AV:=.agg [.sl 3 [.agg [.int .i64 0,.sl 1 [.lit true,.lit true,.lit true,.lit true,.lit true,.lit false,.lit false],.raw (.slice none 0 0)]],.sl 1 [.str [99]],.sl 1 [.agg [.str [112]],.agg [.str [113]]],
 .sl 7 [.agg [.str [97],.int .i64 0,.int .i64 0,.int .i64 2,.int .i64 1,.int .i64 10,.raw (.slice none 0 0)],.agg [.str [98],.int .i64 1,.int .i64 0,.int .i64 2,.int .i64 1,.int .i64 10,.raw (.slice none 0 0)]],
 .sl 6 [.agg [.str [108],.int .i64 0,.int .i64 1,.int .i64 480,.int .i64 120,.int .i64 1],.agg [.str [109],.int .i64 1,.int .i64 0,.int .i64 600,.int .i64 60,.int .i64 1]],.sl 3 [.agg [.str [107],.int .i64 1020,.int .i64 720]]]
theorem rW:Au Pg 19 [] (λr=>r=ZkZ):=by
 refine kB func19 rfl ?_;repeat(first|(refine BR ?_ ?_;(focus (simp[closed];done));conv=>whnf)|(refine BR ?_ ?_;(focus (decide;done));conv=>whnf)|(refine sT rfl ?_;conv=>whnf))
 kernel_rfl
theorem ZhJ:Le ZkZ (Np.Kd LU):=by
 refine Le.agg ?_
 repeat' (first|exact xS.nil|exact Ler.nil|exact Le.lit _|exact Le.nil _|exact Le.refl _|refine xS.cons ?_ ?_|refine Ler.cons ?_ ?_|refine Le.sl ?_|refine Le.agg ?_)
theorem Pt{n:Np.Pl.G3}(sm:Np.SmI n){b:Bool}(h:Np.Pl.By n=b):Au Pg 10 [Np.Kd n] (λr=>r=.bool b):=by
 have:=Np.M9 n sm;rwa [h]at this
theorem bD{n:Np.Pl.G3}(sm:Np.SmI n)(h:Np.Pl.By n=true):Au Pg 12 [Np.Kd n] (λr=>r=.str (Np.Pl.El n)):=by
 have:=Np.nS n sm;unfold Np.Pl.TP at this;rw[h]at this;exact this
theorem Zab{n:Np.Pl.G3}(sm:Np.SmI n)(h:Np.Pl.By n=true):Au Pg 13 [Np.Kd n,Np.Kd n] (λr=>r=.bool true):=by
 rw[Np.Uf h];exact Np.sN (Np.Zdq sm)
theorem bJ{n:Np.Pl.G3}(hP:Np.Pl.By n=true)(hl:(Np.Pl.El n).length<=9223372036854775807)(h:Go.Av.Net.FZ (Np.Pl.El n)=.ok (Np.Pl.toN n)):Au Pg 11 [.str (Np.Pl.El n)] (λr=>r=.tuple [Np.Kd n,.int .i64 0,.int .i64 (-1)]):=by
 have:=Np.bK hl h;unfold Np.oJ at this;rw[Np.Uf hP];exact this
theorem zB:Au Pg 19 [] (λr=>r=Np.Kd LU):=rW.le ZhJ
theorem ZeX:∃(L:List Int) (s:Int),fJ (CU LU) 0 2=.tuple [.agg (Js 0 2 (Vz (CU LU) 0 2) (eU (CU LU) 0 2)),.agg [ints L,.int .i64 s],.int .i64 0]/\10<L.length/\L.length<=40000/\0<=s/\s<=99999/\∀x∈L,0<=x/\x<=99999:=by
 have hS:=IE (CU LU) (jV Rl) XM;have hN:Et (CU LU) (Vz (CU LU) 0 2):=SS (CU LU) (1440*0) (1440*2);have he:=ZeM;have hc:(I5 (CU LU) (Vz (CU LU) 0 2) 0 2 (eU (CU LU) 0 2)).length<=40000:=by unfold wrE at he;split at he;assumption;cases he
 refine⟨I5 (CU LU) (Vz (CU LU) 0 2) 0 2 (eU (CU LU) 0 2),Wv (I5 (CU LU) (Vz (CU LU) 0 2) 0 2 (eU (CU LU) 0 2)),?_,of_decide_eq_true ZeL,hc,?_⟩;unfold fJ fI;rw[Zce,XM,Zcd,if_neg (by decide),if_neg (by decide),if_pos he];unfold wrL wrS;rw[if_pos hc,if_pos hc];have hs:=K4 (I5 (CU LU) (Vz (CU LU) 0 2) 0 2 (eU (CU LU) 0 2)) (1,0) (by decide);exact⟨hs.2.2.1,by unfold Wv;omega,Vk hS.ok (by decide) (by decide) (by decide) hN⟩
theorem zA:Au Pg 4 [] (λr=>r=.bool true):=by
 have sm:=Np.aF Rl;have hlen:=Np.QL LU sm NJ;obtain⟨L,s,ZkC,hL1,hL2,hs0,UK,hL3⟩:=ZeX;have hC:=Sx (CU LU) (jV Rl) 0 2 (MI.2 (by omega)) (MI.2 (by omega));rw[ZkC,<-Yd]at hC;refine Au.lits ?_;refine kB func4 rfl ?_;refine kC (zB) ?_;refine kC (bD sm NJ) ?_;refine kC (bJ NJ (by omega) wP) ?_;refine kC (hC) ?_;refine kC (XV s L hs0 UK hL3 (by omega)) ?_;refine kC (Vw s L hs0 UK hL3 (by omega)) ?_
 iterate 3
  refine⟨λ_=>?_,λh=>absurd h (by decide)⟩;(conv=>whnf)
 refine cS (Zab sm NJ) rfl ?_;conv=>whnf
 refine⟨λ_=>?_,λh=>absurd h (by decide)⟩;conv=>whnf
 refine cS (Mk L s (by omega)) rfl ?_;conv=>whnf
 refine⟨λ_=>?_,λh=>absurd h (by decide)⟩;refine kW ?_;rw[Ai,decide_eq_true (by omega:(10:Int)<L.length)];first|exact .inl rfl|exact .inr rfl
set_option maxHeartbeats 4000000 in
theorem sA(n:Np.Pl.G3)(fr till:Int)(r:Cc.Rc)(LS:∀o∈n.Ag,o.AK.length<=9223372036854775807)(i1:IU .i64 fr)(i2:IU .i64 till)(hla:r.la.length<=9223372036854775807)(hco:∀x∈r.co,x.length<=9223372036854775807):
  Au Pg 3 [Np.Kd n,.int .i64 fr,.int .i64 till,r.v] (λx=>x=.bool true):=by
 refine Au.lits ?_;refine kB func3 rfl ?_;refine kC (zA) ?_;refine kC (Np.nR n LS) ?_;constructor<;>intro h
 rotate_left
 refine kW ?_;first|exact .inl rfl|exact .inr rfl
 have hS:Np.BM n=true:=by simpa using h
 have sm:=Np.aF hS;have hz:=jV hS;have h17:=Yh (CU n) hz.len;rw[<-Yd]at h17;conv=>whnf
 refine Ah.args (args':=[Np.Kd n,.sl 1 []]) ⟨⟨rfl,rfl,rfl,rfl,rfl,rfl,trivial⟩,trivial,trivial⟩ ?_;refine Ah.BZ h17 rfl λx hx=>?_;obtain⟨b,rfl⟩:=hx;conv=>whnf
 iterate 3
  constructor<;>intro _
  rotate_left
  refine kW ?_;first|exact .inl rfl|exact .inr rfl
  (conv=>whnf)
 refine kR ?_;rw[Cc.CV];refine⟨λ_=>?_,λh=>?_⟩;refine kW ?_;first|exact .inl rfl|exact .inr rfl
 have h45:r.co.length<=45:=by have:=of_decide_eq_false h;omega
 refine kW ?_;refine kC (Cc.J1 r ⟨hla,by omega,hco⟩) ?_;by_cases hT:Cc.DI r=[]
 rotate_left
 have hc:=Cc.zL hT;refine kC (Cc.tH (by have:=Cc.Tk (Cc.BT hc);unfold Cc.DI;rw[if_pos hc];omega) hc rfl) ?_;refine⟨λ_=>?_,λg=>absurd g (by simpa using hT)⟩;conv=>whnf
 refine⟨λ_=>?_,λg=>absurd g (by decide)⟩;conv=>whnf
 have hsm:=Cc.QB [r] [r] (by simp) (λx hx=>by rw[A2.1 hx];omega);rw[decide_eq_true (rfl:[r]=[r])]at hsm;refine Ah.freeze 3 ?_ (by kernel_rfl);conv=>whnf
 refine⟨(λe he=>by rw[A2.1 he];rfl),?_⟩;conv=>whnf
 repeat(refine⟨(by first|rfl|(simp;done):(_:Nat)=_),?_⟩;conv=>whnf)
 refine Ah.freeze 4 ?_ (by kernel_rfl);conv=>whnf
 refine⟨(λe he=>by rw[A2.1 he];rfl),?_⟩;conv=>whnf
 repeat(refine⟨(by first|rfl|(simp;done):(_:Nat)=_),?_⟩;conv=>whnf)
 refine kC (hsm) ?_;refine⟨λh=>absurd h (by decide),λ_=>?_⟩;refine kW ?_
 rotate_left
 rw[hT];refine Ah.BZ (Cc.TU [] (by decide)) rfl λx hx=>?_;rcases hx with⟨q,hq1,hq2,rfl⟩|⟨hq,rfl⟩;refine kW ?_;refine⟨λg=>absurd g (by decide),λ_=>?_⟩;refine kW ?_
 rotate_left
 refine kW ?_;refine⟨λg=>absurd g (by decide),λ_=>?_⟩;refine kW ?_
 all_goals
  cases hP:Np.Pl.By n with
  |false=>
   refine kC (Pt sm hP) ?_;refine⟨λ_=>?_,λh=>absurd h (by decide)⟩;refine kW ?_;first|exact .inl rfl|exact .inr rfl
  |true=>
   have hlen:=Np.QL n sm hP;refine kC (Pt sm hP) ?_;refine⟨λh=>absurd h (by decide),λ_=>?_⟩;refine kW ?_;refine kC (bD sm hP) ?_;rcases Np.Pl.bC hP with⟨q,hq⟩|Nz;refine kC (Np.bK (by omega) (show Go.Av.Net.FZ (Np.Pl.El n)=.err 2 q by unfold Go.Av.Net.FZ;rw[hq])) ?_;refine⟨λ_=>?_,λh=>absurd h (by decide)⟩;refine kW ?_;(first|exact .inl rfl|exact .inr rfl);obtain⟨fr',Z5,N,D,L,s,e,ZnH,o1,o2,o3,o4,o5⟩:=mF (CU n) hz fr till;have hC:=Sx (CU n) hz fr till i1 i2;rw[ZnH,<-Yd]at hC;refine kC (bJ hP (by omega) Nz) ?_;refine⟨λh=>absurd h (by decide),λ_=>?_⟩;refine kW ?_;refine⟨λ_=>?_,λh=>absurd h (by decide)⟩;(conv=>whnf);refine kC (Zab sm hP) ?_;refine⟨λh=>absurd h (by decide),λ_=>?_⟩;refine kW ?_;refine kC (hC) ?_;refine kC (hC) ?_;refine⟨λ_=>?_,λh=>absurd h (by simp)⟩;(conv=>whnf);refine cS (VL fr' Z5 N D o1 o2 o3) rfl ?_;(conv=>whnf);refine⟨λ_=>?_,λh=>absurd h (by decide)⟩;(conv=>whnf);refine kC (Mk L s (by omega)) ?_;refine⟨λh=>absurd h (by decide),λ_=>?_⟩;refine kW ?_;refine⟨λ_=>?_,λh=>?_⟩;refine kW ?_;(first|exact .inl rfl|exact .inr rfl);(have he:e=0:=by simpa using h);obtain⟨p1,p2,p3⟩:=o5 he;refine kW ?_;refine kC (XV s L p1 p2 p3 (by omega)) ?_;refine kC (Vw s L p1 p2 p3 o4) ?_;refine⟨λ_=>?_,λh=>absurd h (by decide)⟩;(conv=>whnf);refine⟨λ_=>?_,λh=>absurd h (by decide)⟩;(conv=>whnf);refine kC (Mk L s (by omega)) ?_;first|exact .inl rfl|exact .inr rfl
end Go.Proofs.YtmmhehdlnjojjaaGreatDoor