/- A part of the proof. -/
import Derived.Test.YtmmhehdlnjojjaaGreatDoorQx
import Derived.Test.YtmmhehdlnjojjaaGreatDoorQs
set_option linter.unusedVariables false
set_option maxRecDepth 100000
set_option linter.unusedSectionVars false
set_option linter.unusedSimpArgs false
open Go.Proofs.Tryz
open Go.Proofs.Tryz renaming prog → Pg
open And renaming intro → Ai
open List renaming drop_eq_getElem_cons → Ax, getElem?_eq_getElem → A0, length_drop → A1, getElem_mem → A2, getElem?_eq_none → A3, length_cons → A4, mem_singleton → A5, take_succ_eq_append_getElem → A6, mem_append → BQ, isPrefixOf_iff_prefix → BR, length_take → BU, getElem?_map → Ce, length_singleton → Cz, length_append → C0, drop_length → C2, take_length → C3, singleton_append → C4, take_append_drop → C5, mem_cons → Dj, append_assoc → Dp
open Int renaming natCast_inj → A9, toNat_natCast → Dk
open Bool renaming eq_iff_iff → BG, false_eq_true → Cc, and_eq_true → CL, eq_false_iff → Dv, true_and → Dy
open Nat renaming zero_le → BK, lt_or_ge → Cb, add_sub_cancel → CT, le_refl → C1, le_add_right → Dx
open Option renaming some → De
open Go.IntKind renaming i64 → DL
namespace Go.Proofs.YtmmhehdlnjojjaaGreatDoor
theorem YaB{P:Prop}(e:P:=by
 refine kR ?_;refine Aa.draw [14] Ab mO (by kernel_rfl) ?_;conv=>whnf
 have pS:i<ts.length:=by omega
 rw[show Wr .i64 ((j:Int)-1)=(i:Int) by rw[qW];omega];refine⟨by omega,Qv ts[i],Gd _ _ pS,?_⟩;conv=>whnf
 subst hj;refine⟨_,_,_,hp,by omega,?_,rfl⟩;unfold Db Ag;rw[CT,A0 pS]):P:=e
theorem YaC{P:Prop}(e:P:=by (conv=>whnf);refine⟨rfl,?_⟩;(conv=>whnf);exact⟨Ad _ (λ_=>rfl) _,trivial⟩):P:=e
theorem YaD{P:Prop}(e:P:=by
 refine kW ?_;refine⟨by omega,Qv ts[i],Gd _ _ h,?_⟩;conv=>whnf
 constructor<;>intro hk
 ·rw[hk];refine kW ?_;refine⟨by omega,Qv ts[i],Gd _ _ h,?_⟩;(conv=>whnf);constructor<;>intro ht;·refine kW ?_;exact⟨_,.inl rfl,by simpa using ht,rfl⟩
  refine kW ?_;exact⟨_,.inl rfl,by simpa using ht,rfl⟩
 rw[hk];refine kW ?_;exact⟨_,.inl rfl,rfl,rfl⟩):P:=e
theorem YaE{P:Prop}(e:P:=by
 refine⟨⟨by simp,Ad _ (λ_=>rfl) _⟩,?_⟩;conv=>whnf
 exact⟨_,_,hp,hi,rfl,rfl⟩):P:=e
theorem YaF{P:Prop}(e:P:=by
 refine⟨λht=>?_,λhf=>?_⟩;·(have ht:l[k]=x:=by simpa using ht);rw[he,decide_eq_true ht]at hp;refine kR ?_;exact⟨_,_,hp,hi,rfl,rfl⟩
 have hf:¬l[k]=x:=by simpa using hf
 rw[decide_eq_false hf,cond_false]at he;refine kR ?_;refine⟨k+1,?_⟩;refine qG ?_;exact⟨⟨by omega,he⟩,by omega⟩):P:=e
theorem YaG{P:Prop}(e:P:=by
 conv=>whnf
 constructor<;>intro hg<;>(conv=>whnf);refine kR ?_;refine⟨k+1,?_⟩;refine qG ?_;exact⟨⟨by omega,Kt hg⟩,by omega⟩;refine kR ?_;rw[NV (by rw[hg];simp)];first|exact .inl rfl|exact .inr rfl):P:=e
theorem YaH{P:Prop}(e:P:=by
 conv=>whnf
 refine Ay Ab _ ?_;conv=>whnf
 repeat' (refine Ai (λ_=>?_) (λ_=>?_)<;>conv=>whnf)
 all_goals (refine congrArg AV.bool ?_;rw[BG];simp_all[DG]<;>omega)):P:=e
theorem YaI{P:Prop}(e:P:=by
 refine kR ?_;refine Ah.Mw (p:=p) ts len i hl (by omega) (by rw[if_pos h];simp_all) rfl (λj e k h hk=>?_);conv=>whnf
 exact⟨_,_,_,h,hk,rfl,rfl⟩):P:=e
theorem YaJ{P:Prop}(e:P:=by
 conv=>whnf
 repeat(refine Ai ?_ ?_;(focus (first|rfl|(simp;done)|(simp[hn,PQ,Dg];done)));conv=>whnf)
 exact⟨hp,hi,by simp,by simp[hn]⟩):P:=e
theorem YaK{P:Prop}(e:P:=by simp only[Ge,C0,Cz]at hg this;refine⟨by omega,by omega,this.2.2⟩):P:=e
theorem YaL{P:Prop}(e:P:=by
 have ET:l.length<=k:=by simp at ET;omega
 have:k=l.length:=by omega
 subst this;rw[he,YV]at hp;exact YaB):P:=e
end Go.Proofs.YtmmhehdlnjojjaaGreatDoor
namespace Go.Av.Net
abbrev Bs:=List UInt8
def AL:Bs:=[99,97,108,101,110,100,97,114]
def AO:Bs:=[111,112,101,114,97,116,111,114]
def Ct:Bs:=[111,102,102,105,99,101]
def DA:Bs:=[108,105,110,101]
def CD:Bs:=[99,108,97,115,115]
def Hc:Bs:=[122,111,110,101]
def HU:Bs:=[119,101,101,107]
def Ba:Bs:=[104,111,108,105,100,97,121]
def EF:Bs:=[112,111,99,107,101,116,115]
def Fy:Bs:=[112,97,115,115,101,115]
def EG:Bs:=[109,105,110,117,116,101,115]
def CC:Bs:=[99,111,100,101,115]
def Qs:Bs:=[97,116]
def Ec:Bs:=[116,114,97,118,101,108]
def Hd:Bs:=[108,111,97,100]
def LH:Bs:=[99,117,116]
def DR:Bs:=[100,101,108,105,118,101,114]
def Bh:List Bs:=[AL,AO,Ct,DA,CD,Hc,HU,Ba,EF,Fy,EG,CC,Qs,Ec,Hd,LH,DR]
def FP:Bs:=[45,62]
def HV:Bs:=[123]
def D2:Bs:=[125]
def Aw:Bs:=[59]
def Ek:Bs:=[58]
def Fl:Bs:=[45]
def syms:List Bs:=[[45,62],[123],[125],[40],[41],[91],[93],[44],[59],[58],[61],[46],[45]]
def DG(b:UInt8):Bool:=decide (48<=b.toNat)&&decide (b.toNat<=57)
def Dt(b:UInt8):Bool:=(decide (65<=b.toNat)&&decide (b.toNat<=90))||(decide (97<=b.toNat)&&decide (b.toNat<=122))||decide (b.toNat=95)||DG b
def Bz:Bs->Nat×Nat
 |[]=>(0,0)
 |b::r=>bif Dt b then ((Bz r).1+1,(Bz r).2+bif DG b then 1 else 0)else (0,0)
def BS(s:Bs):Nat:=bif !decide ((Bz s).2=(Bz s).1)||decide (8<(Bz s).1)then 0 else (Bz s).1
def BA(s:Bs):Nat:=bif decide ((Bz s).2=(Bz s).1)||decide (20<(Bz s).1)||decide (s.headD 0=95)then 0 else (Bz s).1
def KP:Nat->Nat->Bs->Nat
 |0,_,_=>0
 |_,_,[]=>0
 |f+1,i,b::r=>bif decide (b.toNat=34)then i+1 else bif decide (b.toNat<32)||decide (126<b.toNat)then 0 else KP f (i+1) r
def B9:Bs->Nat
 |[]=>0
 |b::r=>bif decide (b.toNat=34)then KP 201 1 r else 0
def BJ(s:Bs):Nat:=match syms.find? (λx=>x.isPrefixOf s)with|some x=>x.length|none=>0
structure Tok where
 kind:Int
 text:Bs
 pos:Nat
def ES(s:Bs):Option (Nat×Int×Bs):=
 bif decide (0<BS s)then some (BS s,2,s.take (BS s))
 else bif decide (0<BA s)then some (BA s,1,s.take (BA s))
 else bif decide (0<B9 s)then some (B9 s,4,(s.take (B9 s-1)).drop 1)
 else bif decide (0<BJ s)then some (BJ s,3,s.take (BJ s))
 else none
def Fx(b:UInt8):Bool:=decide (b.toNat=32)||decide (b.toNat=9)||decide (b.toNat=10)||decide (b.toNat=13)
def F6:Bool->Bs->Nat
 |_,[]=>0
 |false,b::r=>bif Fx b then F6 false r+1 else bif decide (b.toNat=37)then F6 true r+1 else 0
 |true,b::r=>bif decide (b.toNat=10)then F6 false r+1 else F6 true r+1
inductive Lx where
 |ok (l:List Tok)
 |err (e:Int) (pos:Nat)
def Lx.cons(t:Tok):Lx->Lx
 |.ok l=>.ok (t::l)
 |.err e p=>.err e p
def G7(s:Bs):Nat->Nat->Nat->Lx
 |0,_,_=>.ok []
 |f+1,p,c=>
  bif decide (p+F6 false (s.drop p)=s.length)then .ok []
  else bif decide (c=3000)then .err 2 (p+F6 false (s.drop p))
  else match ES (s.drop (p+F6 false (s.drop p)))with
   |none=>.err 30 (p+F6 false (s.drop p))
   |some (n,k,t)=>(G7 s f (p+F6 false (s.drop p)+n) (c+1)).cons ⟨k,t,p+F6 false (s.drop p)⟩
def NP(s:Bs):Lx:=bif decide (8000<s.length)then .err 2 8000 else G7 s (s.length+1) 0 0
abbrev KT:=Int×Bs
inductive PR(α:Type) where
 |ok (a:α) (i:Nat)
 |fail (e:Int) (i:Nat)
def PR.bind{α β:Type}(x:PR α)(f:α->Nat->PR β):PR β:=match x with|.ok a i=>f a i|.fail e i=>.fail e i
structure Dm where
 Bc:Int
 Bw:List Bool
 AZ:List Int
structure xQ where
 name:Bs
 oper:Nat
 Gs:Nat
 Bg:Int
 As:Int
 Ap:Int
 AK:List Bs
structure Lin where
 name:Bs
 from_:Nat
 VJ:Nat
 at_:Int
 Bb:Int
 load:Int
structure Io where
 name:Bs
 cut:Int
 Be:Int
structure Nw where
 Aq:List Dm
 names:List Bs
 opers:List Bs
 Ag:List xQ
 Am:List Lin
 Ao:List Io
def BM(b:UInt8):Bool:=decide (97<=b.toNat)&&decide (b.toNat<=122)
def An(s:Bs):Bool:=decide (1<=s.length)&&decide (s.length<=16)&&BM (s.headD 0)&&s.all (λb=>BM b||DG b||decide (b.toNat=95))&&!Bh.any (λx=>decide (s=x))
def Bt(s:Bs):Bool:=decide (1<=s.length)&&decide (s.length<=8)&&s.all (λb=>DG b||(decide (65<=b.toNat)&&decide (b.toNat<=90)))
def Vg(s:Bs):Int:=s.foldl (λn b=>10*n+((b.toNat:Int)-48)) 0
def HA(s:Bs):Bool:=decide (s.length=7)&&s.all (λb=>decide (b.toNat=48)||decide (b.toNat=49))
section
variable (ts:List KT)
def S5{α:Type}(i:Nat):PR α:=match ts[i]? with|none=>.fail 91 i|some _=>.fail 90 i
def AW(k:Int)(x:Bs)(i:Nat):Bool:=match ts[i]? with|none=>false|some t=>decide (t.1=k)&&decide (t.2=x)
def AD(k:Int)(x:Bs)(i:Nat):PR Unit:=bif AW ts k x i then .ok () (i+1)else S5 ts i
def E8(i:Nat):PR Bs:=match ts[i]? with|none=>.fail 91 i|some t=>bif decide (t.1=1)&&An t.2 then .ok t.2 (i+1)else .fail 90 i
def Ca(i:Nat):PR Int:=match ts[i]? with|none=>.fail 91 i|some t=>bif decide (t.1=2)then .ok (Vg t.2) (i+1)else .fail 90 i
def J0(i:Nat):PR (List Bool):=match ts[i]? with|none=>.fail 91 i|some t=>bif decide (t.1=2)&&HA t.2 then .ok (t.2.map λb=>decide (b.toNat=49)) (i+1)else .fail 90 i
def G9(i:Nat):PR Bs:=match ts[i]? with|none=>.fail 91 i|some t=>bif (decide (t.1=1)||decide (t.1=2))&&Bt t.2 then .ok t.2 (i+1)else .fail 90 i
def NQ(i:Nat):PR Int:=bif AW ts 3 Fl i then (Ca ts (i+1)).bind λn i=>.ok (-n) i else Ca ts i
def Gb(w:Bs)(i:Nat):PR Int:=(AD ts 1 w i).bind λ_ i=>(Ca ts i).bind λn i=>(AD ts 3 Aw i).bind λ_ i=>.ok n i
def idxOf(x:Bs):List Bs->Option Nat
 |[]=>none
 |y::r=>bif decide (y=x)then some 0 else (idxOf x r).map (·+1)
def FY(names:List Bs)(i:Nat):PR Nat:=(E8 ts i).bind λx i'=>match idxOf x names with|some k=>.ok k i'|none=>.fail 110 (i'-1)
def Ie:Nat->Nat->PR (List Int)
 |0,i=>.ok [] i
 |f+1,i=>bif AW ts 1 Ba i then (AD ts 1 Ba i).bind λ_ i=>(NQ ts i).bind λn i=>(AD ts 3 Aw i).bind λ_ i=>(Ie f i).bind λl i=>.ok (n::l) i
  else .ok [] i
def Zr(i:Nat):PR (Bs×Dm):=
 (AD ts 1 AL i).bind λ_ i=>(E8 ts i).bind λname i=>(AD ts 3 HV i).bind λ_ i=>
 (AD ts 1 Hc i).bind λ_ i=>(NQ ts i).bind λBc i=>(AD ts 3 Aw i).bind λ_ i=>
 (AD ts 1 HU i).bind λ_ i=>(J0 ts i).bind λBw i=>(AD ts 3 Aw i).bind λ_ i=>
 (Ie ts ts.length i).bind λAZ i=>(AD ts 3 D2 i).bind λ_ i=>.ok (name,⟨Bc,Bw,AZ⟩) i
def PA(i:Nat):PR Bs:=(AD ts 1 AO i).bind λ_ i=>(E8 ts i).bind λname i=>(AD ts 3 Aw i).bind λ_ i=>.ok name i
def GM:Nat->Nat->PR (List Bs)
 |0,i=>.ok [] i
 |f+1,i=>bif AW ts 3 Aw i then .ok [] i else (G9 ts i).bind λc i=>(GM f i).bind λl i=>.ok (c::l) i
def Ee(i:Nat):PR (List Bs):=
 bif AW ts 1 CC i then (AD ts 1 CC i).bind λ_ i=>(G9 ts i).bind λc i=>(GM ts (ts.length+1) i).bind λl i=>(AD ts 3 Aw i).bind λ_ i=>.ok (c::l) i
 else .ok [] i
def VT(n:Nw)(i:Nat):PR xQ:=
 (AD ts 1 Ct i).bind λ_ i=>(E8 ts i).bind λname i=>(AD ts 3 HV i).bind λ_ i=>
 (AD ts 1 AO i).bind λ_ i=>(FY ts n.opers i).bind λoper i=>(AD ts 3 Aw i).bind λ_ i=>
 (AD ts 1 AL i).bind λ_ i=>(FY ts n.names i).bind λGs i=>(AD ts 3 Aw i).bind λ_ i=>
 (Gb ts EF i).bind λBg i=>(Gb ts Fy i).bind λAs i=>(Gb ts EG i).bind λAp i=>
 (Ee ts i).bind λAK i=>(AD ts 3 D2 i).bind λ_ i=>.ok ⟨name,oper,Gs,Bg,As,Ap,AK⟩ i
def VZ(n:Nw)(i:Nat):PR Lin:=
 (AD ts 1 DA i).bind λ_ i=>(E8 ts i).bind λname i=>(AD ts 3 Ek i).bind λ_ i=>
 (FY ts (n.Ag.map (·.name)) i).bind λa i=>(AD ts 3 FP i).bind λ_ i=>(FY ts (n.Ag.map (·.name)) i).bind λb i=>
 (AD ts 1 Qs i).bind λ_ i=>(Ca ts i).bind λat_ i=>(AD ts 1 Ec i).bind λ_ i=>(Ca ts i).bind λBb i=>
 (AD ts 1 Hd i).bind λ_ i=>(Ca ts i).bind λload i=>(AD ts 3 Aw i).bind λ_ i=>.ok ⟨name,a,b,at_,Bb,load⟩ i
def Zo(i:Nat):PR Io:=
 (AD ts 1 CD i).bind λ_ i=>(E8 ts i).bind λname i=>(AD ts 3 HV i).bind λ_ i=>
 (Gb ts LH i).bind λcut i=>(Gb ts DR i).bind λBe i=>(AD ts 3 D2 i).bind λ_ i=>.ok ⟨name,cut,Be⟩ i
def GS:Nat->Nw->Nat->PR Nw
 |0,n,i=>.ok n i
 |f+1,n,i=>bif AW ts 1 AL i then (Zr ts i).bind λc i=>GS f {n with Aq:=n.Aq++[c.2],names:=n.names++[c.1]} i else .ok n i
def EM:Nat->Nw->Nat->PR Nw
 |0,n,i=>.ok n i
 |f+1,n,i=>bif AW ts 1 AO i then (PA ts i).bind λc i=>EM f {n with opers:=n.opers++[c]} i else .ok n i
def GA:Nat->Nw->Nat->PR Nw
 |0,n,i=>.ok n i
 |f+1,n,i=>bif AW ts 1 Ct i then (VT ts n i).bind λc i=>GA f {n with Ag:=n.Ag++[c]} i else .ok n i
def FE:Nat->Nw->Nat->PR Nw
 |0,n,i=>.ok n i
 |f+1,n,i=>bif AW ts 1 DA i then (VZ ts n i).bind λc i=>FE f {n with Am:=n.Am++[c]} i else .ok n i
def FN:Nat->Nw->Nat->PR Nw
 |0,n,i=>.ok n i
 |f+1,n,i=>bif AW ts 1 CD i then (Zo ts i).bind λc i=>FN f {n with Ao:=n.Ao++[c]} i else .ok n i
def dW:Nw:=⟨[],[],[],[],[],[]⟩
def PG:PR Nw:=
 (GS ts ts.length dW 0).bind λn i=>(EM ts ts.length n i).bind λn i=>(GA ts ts.length n i).bind λn i=>(FE ts ts.length n i).bind λn i=>(FN ts ts.length n i).bind λn i=>
 bif decide (i<ts.length)then .fail 90 i else .ok n i
end
def BE(l:List Tok):List KT:=l.map λt=>(t.kind,t.text)
def Ag(l:List Tok)(len:Nat)(i:Nat):Nat:=match l[i]? with|some t=>t.pos|none=>len
inductive Res where
 |ok (n:Nw)
 |err (e:Int) (pos:Nat)
def FZ(s:Bs):Res:=
 match NP s with
 |.err e p=>.err e p
 |.ok l=>match PG (BE l)with
  |.ok n _=>.ok n
  |.fail e i=>.err e (Ag l s.length i)
end Go.Av.Net
namespace Go.Proofs.YtmmhehdlnjojjaaGreatDoor.Np
open Go.Av Go.Av.Net
variable {P:Go.Program}{k:Int}{j:Nat}
theorem HR{α:Type}(p:α->Bool)(xs:List α)(k:Nat)(hk:k<xs.length):(xs.drop k).all p=(p xs[k]&&(xs.drop (k+1)).all p):=by
 rw[Ax hk];rfl
def Gt(s:Bs):List AV:=s.map λb=>.int .u8 b.toNat
@[simp] theorem byts_length(s:Bs):(Gt s).length=s.length:=by simp[Gt]
theorem I6(s:Bs)(k:Nat)(h:k<s.length):(Gt s)[k]?=some (.int .u8 s[k].toNat):=by simp[Gt,h]
theorem PO(b:UInt8):Au Pg 190 [.int .u8 b.toNat] (λr=>r=.bool (BM b)):=by
 refine Au.Ak func190 rfl Ab (by kernel_rfl) ?_;conv=>whnf
 refine Ay Ab _ ?_;conv=>whnf
 repeat' (refine Ai (λ_=>?_) (λ_=>?_)<;>conv=>whnf)
 all_goals (refine congrArg AV.bool ?_;rw[BG];simp_all[BM]<;>omega)
theorem PT(b:UInt8):Au Pg 191 [.int .u8 b.toNat] (λr=>r=.bool (DG b)):=by
 refine Au.Ak func191 rfl Ab (by kernel_rfl) ?_;exact YaH
theorem R1(b:UInt8):Au Pg 187 [.int .u8 b.toNat] (λr=>r=.bool (DG b)):=by
 refine Au.Ak func187 rfl Ab (by kernel_rfl) ?_;exact YaH
theorem SF(b:UInt8):Au Pg 186 [.int .u8 b.toNat] (λr=>r=.bool (Dt b)):=by
 refine Au.Ak func186 rfl Ab (by kernel_rfl) ?_;conv=>whnf
 refine Ay Ab _ ?_;conv=>whnf
 repeat' (refine Ai (λ_=>?_) (λ_=>?_)<;>conv=>whnf)
 all_goals (first|(refine congrArg AV.bool ?_;rw[BG];simp_all[Dt]<;>omega)|(refine cS (R1 b) rfl ?_;(conv=>whnf);refine congrArg AV.bool ?_;cases hd:DG b<;>(rw[BG];simp_all[Dt]<;>omega)))
def GP(b:UInt8):Bool:=DG b||(decide (65<=b.toNat)&&decide (b.toNat<=90))
theorem I2(s:Bs):Bt s=(decide (1<=s.length)&&decide (s.length<=8)&&s.all GP):=rfl
theorem Iy(s:Bs)(k:Nat)(h:k<s.length):s.getD (k:Int).toNat 0=s[k]:=by simp[List.getD,h]
theorem cY(s:Bs)(hs:s.length<=8000):Au Pg 138 [.str s] (λr=>r=.bool (Bt s)):=by
 refine Au.Ak func138 rfl Ab (by kernel_rfl) ?_;conv=>whnf
 refine Ay Ab _ ?_;conv=>whnf
 constructor<;>intro h1
 ·have h1:1<=s.length:=by simp at h1;omega
  conv=>whnf
  constructor<;>intro h2;·(conv=>whnf);(have h2:¬s.length<=8:=by simp at h2;omega);simp[Bt,h2]
  have h2:s.length<=8:=by simp at h2;omega
  conv=>whnf
  refine Aa.G6 (λk:Nat=>mk 32 [(0,.str s),(14,.sl 1 (Gt s)),(15,.int .i64 (Gt s).length),(16,.int .i64 k)]) (λ_=>[]) (λk=>k<=s.length/\(s.all GP)=(s.drop k).all GP) (λk=>s.length-k) ⟨0,?_⟩ λk hk=>?_;refine kQ ?_;rfl;obtain⟨hk,he⟩:=hk;refine Ay Ab _ ?_;conv=>whnf
  refine⟨λAA=>?_,λET=>?_⟩
  ·(have AA:k<s.length:=by simpa using AA);rw[HR _ s k AA]at he;(conv=>whnf);refine⟨by omega,.int .u8 s[k].toNat,I6 _ _ AA,?_⟩;(conv=>whnf);refine cS (PT s[k]) rfl ?_;conv=>whnf
   repeat' (refine Ai (λ_=>?_) (λ_=>?_)<;>conv=>whnf)
   all_goals first
    |(refine⟨k+1,?_⟩
      conv=>whnf
      refine qG ?_
      have hn:GP s[k]=true:=by simp_all[GP]<;>omega
      rw[hn]at he
      exact⟨⟨by omega,he⟩,by omega⟩)
    |(have hn:GP s[k]=false:=by simp_all[GP]<;>omega
      rw[hn]at he
      simp[I2,he];done)
  have ET:s.length<=k:=by simp at ET;omega
  conv=>whnf
  have:k=s.length:=by omega
  subst this;simp at he;rw[I2];simp[h1,h2];exact he
 conv=>whnf
 have h1:¬1<=s.length:=by simp at h1;omega
 simp[Bt,h1]
theorem Vq{α:Type}(p:α->Bool)(xs:List α)(k:Nat)(hk:k<xs.length):(xs.drop k).any p=(p xs[k]||(xs.drop (k+1)).any p):=by
 rw[Ax hk];rfl
def VA(b:UInt8):Bool:=BM b||DG b||decide (b.toNat=95)
def strs(l:List Bs):List AV:=l.map AV.str
@[simp] theorem Mf(l:List Bs):(strs l).length=l.length:=by simp[strs]
theorem CW(l:List Bs)(k:Nat)(h:k<l.length):(strs l)[k]?=some (.str l[k]):=by simp[strs,h]
theorem BN(s:Bs):An s=(decide (1<=s.length)&&decide (s.length<=16)&&BM (s.headD 0)&&s.all VA&&!Bh.any (λx=>decide (s=x))):=rfl
theorem cX(s:Bs)(hs:s.length<=8000):Au Pg 137 [.str s] (λr=>r=.bool (An s)):=by
 refine Au.Ak func137 rfl Ab (by kernel_rfl) ?_;conv=>whnf
 refine Ay Ab _ ?_;conv=>whnf
 constructor<;>intro h1
 ·have h1:1<=s.length:=by simp at h1;omega
  conv=>whnf
  constructor<;>intro h2
  ·(have h2:s.length<=16:=by simp at h2;omega);(conv=>whnf);refine⟨⟨by omega,by omega⟩,?_⟩;(conv=>whnf);(have hg:s.getD (0:Int).toNat 0=s.headD 0:=by cases s<;>rfl);rw[hg];refine cS (PO (s.headD 0)) rfl ?_;(conv=>whnf);constructor<;>intro h3;·(conv=>whnf);(have h3:BM (s.headD 0)=false:=by simpa using h3);simp only[BN,h3,Bool.and_false,Bool.false_and]
   (have h3:BM (s.headD 0)=true:=by simpa using h3);(conv=>whnf);refine Aa.G6 (λk:Nat=>mk 49 [(0,.str s),(22,.sl 1 (Gt s)),(23,.int .i64 (Gt s).length),(24,.int .i64 k)]) (λ_=>[]) (λk=>k<=s.length/\(s.all VA)=(s.drop k).all VA) (λk=>s.length-k) ⟨0,?_⟩ λk hk=>?_;refine kQ ?_;rfl;obtain⟨hk,he⟩:=hk;refine Ay Ab _ ?_;(conv=>whnf);refine⟨λAA=>?_,λET=>?_⟩
   ·(have AA:k<s.length:=by simpa using AA);rw[HR _ s k AA]at he;(conv=>whnf);refine⟨by omega,.int .u8 s[k].toNat,I6 _ _ AA,?_⟩;(conv=>whnf);refine cS (PO s[k]) rfl ?_;conv=>whnf
    repeat' (first|(refine Ai (λ_=>?_) (λ_=>?_)<;>conv=>whnf)|(refine cS (PT s[k]) rfl ?_;(conv=>whnf)))
    all_goals first
     |(refine⟨k+1,?_⟩
       conv=>whnf
       refine qG ?_
       have hn:VA s[k]=true:=by simp_all[VA]<;>omega
       rw[hn]at he
       exact⟨⟨by omega,he⟩,by omega⟩)
     |(have hn:VA s[k]=false:=by simp_all[VA]<;>omega
       rw[hn]at he
       simp[BN,he];done)
   (have ET:s.length<=k:=by simp at ET;omega);(have:k=s.length:=by omega);subst this;(have h4:s.all VA=true:=by rw[he];simp);(conv=>whnf);refine Aa.G6 (λk:Nat=>mk 49 [(0,.str s),(41,.agg (strs Bh)),(42,.int .i64 k)]) (λ_=>[]) (λk=>k<=17/\Bh.any (λx=>decide (s=x))=(Bh.drop k).any (λx=>decide (s=x))) (λk=>17-k) ⟨0,?_⟩ λk hk=>?_;refine kQ ?_;rfl;obtain⟨hk,he⟩:=hk;refine Ay Ab _ ?_;(conv=>whnf);refine⟨λAA=>?_,λET=>?_⟩
   ·(have AA:k<17:=by simp at AA;omega);have F5:k<Bh.length:=AA;rw[Vq _ Bh k F5]at he;(conv=>whnf);refine⟨⟨by omega,by omega⟩,.str Bh[k],CW _ _ F5,?_⟩;(conv=>whnf);refine⟨λht=>?_,λhf=>?_⟩;·(conv=>whnf);(have ht:s=Bh[k]:=by simpa using ht);rw[decide_eq_true ht,Bool.true_or]at he;simp only[BN,he];simp
    (conv=>whnf);(have hf:¬s=Bh[k]:=by simpa using hf);rw[decide_eq_false hf,Bool.false_or]at he;refine⟨k+1,?_⟩;refine qG ?_;exact⟨⟨by omega,he⟩,by omega⟩
   (have ET:17<=k:=by simp at ET;omega);(have:k=17:=by omega);subst this;(conv=>whnf);(have h5:Bh.any (λx=>decide (s=x))=false:=by rw[he];rfl);simp only[BN,h3,h4,h5];simp[h1,h2]
  conv=>whnf
  have h2:¬s.length<=16:=by simp at h2;omega
  simp[BN,h2]
 conv=>whnf
 have h1:¬1<=s.length:=by simp at h1;omega
 simp[BN,h1]
open Go.RowKit (Below)
theorem UE(s:Bs)(c:UInt8):Au Pg 135 [.str s,.int .u8 c.toNat] (λr=>r=.int .i64 (Lib.indexByte s c)):=by
 refine⟨by kernel_rfl,λC w vs AA hr=>?_⟩;unfold Ac at hr;obtain⟨v,CJ,rfl,h1,hr⟩:=hr;unfold Ac at hr;obtain⟨v2,vs2,rfl,h2,hr⟩:=hr;unfold Ac at hr;subst hr;unfold Aj at h1 h2;obtain⟨rfl,hl⟩:=h1;obtain⟨rfl,_⟩:=h2;refine(Tryz.strings_IndexByte ⟨s.toArray⟩ (c.toNat:Int) w).mono λe w' ⟨h3,h4⟩=>?_;subst h4;refine⟨_,_,h3,rfl,Below.refl _ _,?_⟩;have e1:((c.toNat:Int).toNat.toUInt8)=c:=by simp
 rw[e1]
 have hb:∀l:Bs,-1<=Lib.indexByte l c/\Lib.indexByte l c<=l.length:=λl=>by
  induction l with
  |nil=>simp[Lib.indexByte]
  |cons x l ih=>
   unfold Lib.indexByte;simp only[A4];split;omega;split<;>omega
 have:=hb s;unfold Aj;refine⟨by simp,?_⟩;unfold IU IntKind.min IntKind.max;simp[IntKind.signed,IntKind.bits];omega
theorem SG(s p:Bs)(hs:s.length<=8000)(hp:p.length<=8000):Au Pg 188 [.str s,.str p] (λr=>r=.bool (p.isPrefixOf s)):=by
 refine Au.Ak func188 rfl Ab (by kernel_rfl) ?_;conv=>whnf
 refine Ay Ab _ ?_;conv=>whnf
 constructor<;>intro h1
 ·have h1:p.length<=s.length:=by simp at h1;omega
  conv=>whnf
  refine⟨⟨by omega,by omega⟩,?_⟩;conv=>whnf
  refine congrArg AV.bool ?_;have e:List.drop (Int.toNat 0) (List.take ((p.length:Int)).toNat s)=s.take p.length:=by simp
  rw[e,BG,beq_iff_eq,BR,List.prefix_iff_eq_take,eq_comm]
 have h1:¬p.length<=s.length:=by simp at h1;omega
 conv=>whnf
 refine congrArg AV.bool ?_;rw[eq_comm,<-Bool.not_eq_true,BR];exact λh=>h1 h.length_le
theorem UX(s p:Bs)(hs:s.length<=8000)(hp:p.length<=8000):Au Pg 134 [.str s,.str p] (λr=>r=.bool (p.isPrefixOf s)):=by
 refine Au.Ak func134 rfl Ab (by kernel_rfl) ?_;conv=>whnf
 refine Ay Ab _ ?_;conv=>whnf
 refine cS (SG s p hs hp) rfl ?_;conv=>whnf
theorem zO:∀x∈syms,1<=x.length/\x.length<=2:=by decide
theorem O9(s:Bs)(hs:s.length<=8000):Au Pg 92 [.str s] (λr=>r=.int .i64 (BJ s)):=by
 refine Au.Ak func92 rfl Ab (by kernel_rfl) ?_;conv=>whnf
 refine Ay Ab _ ?_;conv=>whnf
 refine Aa.G6 (λk:Nat=>mk 15 [(0,.str s),(5,.agg (strs syms)),(6,.int .i64 k)]) (λ_=>[]) (λk=>k<=13/\syms.find? (λx=>x.isPrefixOf s)=(syms.drop k).find? (λx=>x.isPrefixOf s)) (λk=>13-k) ⟨0,?_⟩ λk hk=>?_;refine kQ ?_;rfl;obtain⟨hk,he⟩:=hk;refine Ay Ab _ ?_;conv=>whnf
 refine⟨λAA=>?_,λET=>?_⟩
 ·have AA:k<13:=by simp at AA;omega
  have F5:k<syms.length:=AA;rw[Ax F5,List.find?_cons]at he;have hl:=zO _ (A2 F5);conv=>whnf
  refine⟨⟨by omega,by omega⟩,.str syms[k],CW _ _ F5,?_⟩;conv=>whnf
  refine cS (UX s syms[k] hs (by omega)) rfl ?_;conv=>whnf
  refine⟨λht=>?_,λhf=>?_⟩;·(conv=>whnf);rw[ht]at he;simp only at he;simp only[BJ,he]
  conv=>whnf
  rw[hf]at he;simp only at he;refine⟨k+1,?_⟩;refine qG ?_;exact⟨⟨by omega,he⟩,by omega⟩
 have ET:13<=k:=by simp at ET;omega
 have:k=13:=by omega
 subst this;conv=>whnf
 have he:syms.find? (λx=>x.isPrefixOf s)=none:=by rw[he];rfl
 simp[BJ,he]
theorem sV(s:Bs)(k:Nat)(hk:k<s.length):Bz (s.drop k)=bif Dt s[k]then ((Bz (s.drop (k+1))).1+1,(Bz (s.drop (k+1))).2+bif DG s[k]then 1 else 0)else (0,0):=by
 rw[Ax hk];rfl
theorem Zaf(s:Bs):Bz (s.drop s.length)=(0,0):=by simp[Bz]
theorem aN(s:Bs)(hs:s.length<=8000):Au Pg 133 [.str s] (λr=>r=.tuple [.int .i64 (Bz s).1,.int .i64 (Bz s).2]):=by
 refine Au.Ak func133 rfl Ab (by kernel_rfl) ?_;conv=>whnf
 refine Ay Ab _ ?_;conv=>whnf
 refine Aa.G6 (λi:Nat×Nat=>mk 26 [(0,.str s),(4,.int .i64 i.1),(5,.int .i64 i.2)]) (λ_=>[]) (λi=>i.1<=s.length/\i.2<=i.1/\Bz s=(i.1+(Bz (s.drop i.1)).1,i.2+(Bz (s.drop i.1)).2)) (λi=>s.length-i.1) ⟨(0,0),?_⟩ λi hi=>?_;refine kQ ?_;simp;obtain⟨k,d⟩:=i;obtain⟨hk,hd,he⟩:=hi;simp only at hk hd he⊢;refine Ay Ab _ ?_;conv=>whnf
 refine⟨λAA=>?_,λET=>?_⟩
 ·have AA:k<s.length:=by simpa using AA
  rw[sV s k AA]at he;conv=>whnf
  refine⟨⟨by omega,by omega⟩,?_⟩;conv=>whnf
  rw[Iy s k AA];refine cS (SF s[k]) rfl ?_;conv=>whnf
  refine⟨λht=>?_,λhf=>?_⟩
  ·rw[ht]at he;simp only[cond_true]at he;(conv=>whnf);refine⟨⟨by omega,by omega⟩,?_⟩;(conv=>whnf);rw[Iy s k AA];refine cS (R1 s[k]) rfl ?_;(conv=>whnf);constructor<;>intro pX;·rw[pX]at he;(conv=>whnf);refine⟨(k+1,d+1),?_⟩;refine qG ?_;refine⟨⟨by omega,by omega,?_⟩,by simp only;omega⟩;rw[he];simp only[cond_true];refine Prod.ext ?_ ?_<;>simp only<;>omega
   rw[pX]at he;(conv=>whnf);refine⟨(k+1,d),?_⟩;refine qG ?_;refine⟨⟨by omega,by omega,?_⟩,by simp only;omega⟩;rw[he];simp only[cond_false];refine Prod.ext ?_ ?_<;>simp only<;>omega
  conv=>whnf
  rw[hf]at he;simp only[cond_false,Nat.add_zero]at he;rw[he]
 have ET:s.length<=k:=by simp at ET;omega
 have:k=s.length:=by omega
 subst this;rw[Zaf]at he;conv=>whnf
 simp only[Nat.add_zero]at he;rw[he]
theorem K8:∀s:Bs,(Bz s).1<=s.length/\(Bz s).2<=(Bz s).1
 |[]=>by simp[Bz]
 |b::r=>by obtain⟨h1,h2⟩:=K8 r;unfold Bz;cases Dt b<;>cases DG b<;>simp<;>omega
theorem Kc(s:Bs):BS s=if (Bz s).2=(Bz s).1/\(Bz s).1<=8 then (Bz s).1 else 0:=by
 unfold BS;by_cases h1:(Bz s).2=(Bz s).1<;>by_cases h2:8<(Bz s).1<;>simp[h1,h2]<;>omega
theorem Ui(s:Bs):BA s=if (Bz s).2=(Bz s).1\/20<(Bz s).1\/(s.headD 0).toNat=95 then 0 else (Bz s).1:=by
 unfold BA;have e:(s.headD 0=95)↔((s.headD 0).toNat=95):=⟨λh=>by rw[h];rfl,λh=>UInt8.toNat_inj.1 h⟩;by_cases h1:(Bz s).2=(Bz s).1<;>by_cases h2:20<(Bz s).1<;>by_cases h3:s.headD 0=95<;>have h4:=h3<;>rw[e]at h4<;>simp only[h1,h2,h3,h4]<;>simp
theorem PE(s:Bs)(hs:s.length<=8000):Au Pg 89 [.str s] (λr=>r=.int .i64 (BS s)):=by
 have hb:=K8 s;refine Au.Ak func89 rfl Ab (by kernel_rfl) ?_;conv=>whnf
 refine Ay Ab _ ?_;conv=>whnf
 refine cS (aN s hs) rfl ?_;conv=>whnf
 repeat' (refine Ai (λ_=>?_) (λ_=>?_)<;>conv=>whnf)
 all_goals (refine congrArg (AV.int DL) ?_;rw[Kc];split<;>simp_all<;>omega)
theorem SE(s:Bs)(hs:s.length<=8000)(h1:1<=s.length):Au Pg 90 [.str s] (λr=>r=.int .i64 (BA s)):=by
 have hb:=K8 s;refine Au.Ak func90 rfl Ab (by kernel_rfl) ?_;conv=>whnf
 refine Ay Ab _ ?_;conv=>whnf
 refine cS (aN s hs) rfl ?_;conv=>whnf
 have hg:s.getD (0:Int).toNat 0=s.headD 0:=by cases s<;>rfl
 repeat' (first|(refine Ai ⟨by omega,by omega⟩ ?_;(conv=>whnf);rw[hg])|(refine Ai (λ_=>?_) (λ_=>?_)<;>conv=>whnf))
 all_goals (refine congrArg (AV.int DL) ?_;rw[Ui];split<;>simp_all<;>omega)
theorem zF(s:Bs)(i:Nat)(hi:i<s.length)(h:i<=201):KP (202-i) i (s.drop i)=bif decide (s[i].toNat=34)then i+1 else bif decide (s[i].toNat<32)||decide (126<s[i].toNat)then 0 else KP (202-(i+1)) (i+1) (s.drop (i+1)):=by
 rw[Ax hi,show 202-i=(202-(i+1))+1 by omega];rfl
theorem Zdi(f i:Nat):KP f i []=0:=by cases f<;>rfl
theorem SA(s:Bs)(hs:s.length<=8000)(h1:1<=s.length):Au Pg 91 [.str s] (λr=>r=.int .i64 (B9 s)):=by
 have hg:s.getD (0:Int).toNat 0=s.headD 0:=by cases s<;>rfl
 have ht:B9 s=bif decide ((s.headD 0).toNat=34)then KP (202-1) 1 (s.drop 1)else 0:=by cases s<;>rfl
 refine Au.Ak func91 rfl Ab (by kernel_rfl) ?_;conv=>whnf
 refine Ay Ab _ ?_;conv=>whnf
 refine⟨⟨by omega,by omega⟩,?_⟩;conv=>whnf
 rw[hg];generalize s.headD 0=c at*;constructor<;>intro h2
 ·have h2:¬c.toNat=34:=by simp at h2;omega
  conv=>whnf
  rw[ht,decide_eq_false h2];rfl
 have h2:c.toNat=34:=by simp at h2;omega
 rw[decide_eq_true h2,cond_true]at ht;conv=>whnf
 refine Aa.G6 (λi:Nat=>mk 35 [(0,.str s),(3,.int .i64 i)]) (λ_=>[]) (λi=>1<=i/\i<=s.length/\i<=202/\B9 s=KP (202-i) i (s.drop i)) (λi=>s.length-i) ⟨1,?_⟩ λi hi=>?_;refine kQ ?_;exact⟨h1,by omega,ht⟩;obtain⟨hi,gK,ZE,he⟩:=hi;refine Ay Ab _ ?_;conv=>whnf
 refine⟨λAA=>?_,λET=>?_⟩
 ·have AA:i<s.length:=by simpa using AA
  conv=>whnf
  refine⟨λhle=>?_,λhgt=>?_⟩
  ·(have hle:i<=201:=by simp at hle;omega);rw[zF s i AA hle]at he;(conv=>whnf);refine⟨⟨by omega,by omega⟩,?_⟩;(conv=>whnf);rw[Iy s i AA];constructor<;>intro h3;·(have h3:s[i].toNat=34:=by simp at h3;omega);rw[decide_eq_true h3,cond_true]at he;(conv=>whnf);rw[he,qW];rfl
   (have h3:¬s[i].toNat=34:=by simp at h3;omega);rw[decide_eq_false h3,cond_false]at he;(conv=>whnf);refine⟨⟨by omega,by omega⟩,?_⟩;(conv=>whnf);rw[Iy s i AA]
   repeat' (first|(refine Ai ⟨by omega,by omega⟩ ?_;(conv=>whnf);rw[Iy s i AA])|(refine Ai (λ_=>?_) (λ_=>?_)<;>conv=>whnf))
   all_goals first
    |(refine⟨i+1,?_⟩
      conv=>whnf
      refine qG ?_
      have hn:(decide (s[i].toNat<32)||decide (126<s[i].toNat))=false:=by simp_all<;>omega
      rw[hn,cond_false]at he
      exact⟨⟨by omega,by omega,by omega,he⟩,by omega⟩)
    |(have hn:(decide (s[i].toNat<32)||decide (126<s[i].toNat))=true:=by simp_all<;>omega
      rw[hn,cond_true]at he
      rw[he];rfl)
  have hgt:¬i<=201:=by simp at hgt;omega
  have:i=202:=by omega
  subst this;conv=>whnf
  rw[he];rfl
 have ET:s.length<=i:=by simp at ET;omega
 rw[List.drop_eq_nil_of_le ET,Zdi]at he;conv=>whnf
 rw[he];rfl
theorem YW(c:UInt8):∀l:Bs,-1<=Lib.indexByte l c/\Lib.indexByte l c<l.length
 |[]=>by simp[Lib.indexByte]
 |x::l=>by have ih:=YW c l;unfold Lib.indexByte;simp only[A4];split;omega;split<;>omega
theorem eA:∀l:Bs,F6 true l=if Lib.indexByte l 10=-1 then l.length else (Lib.indexByte l 10).toNat+F6 false (l.drop (Lib.indexByte l 10).toNat)
 |[]=>by simp[F6,Lib.indexByte]
 |b::r=>by
  have ih:=eA r;have hb:=YW 10 r;unfold Lib.indexByte;by_cases hc:b=10;subst hc;simp[F6,Fx];have hn:¬b.toNat=10:=λh=>hc (UInt8.toNat_inj.1 h);have yK:(b == 10)=false:=by simpa using hc
  rw[yK];simp only[F6,hn,decide_false,cond_false,Cc,if_false];rw[ih];by_cases hi:Lib.indexByte r 10=-1;simp[hi];have EW:(Lib.indexByte r 10 == -1)=false:=by simpa using hi
  rw[EW,if_neg hi];simp only[Cc,if_false];rw[if_neg (by omega),show(Lib.indexByte r 10+1).toNat=(Lib.indexByte r 10).toNat+1 by omega];simp only[List.drop_succ_cons];omega
theorem eB(s:Bs)(k:Nat)(hk:k<s.length):F6 false (s.drop k)=bif Fx s[k]then F6 false (s.drop (k+1))+1 else bif decide (s[k].toNat=37)then F6 true (s.drop (k+1))+1 else 0:=by
 rw[Ax hk];rfl
theorem Zbm(b:UInt8)(r:Bs)(c:UInt8):Lib.indexByte (b::r) c=if b == c then 0 else if Lib.indexByte r c == -1 then -1 else Lib.indexByte r c+1:=rfl
theorem eC(s:Bs)(k:Nat)(hk:k<s.length)(h:s[k].toNat=37):
  (Lib.indexByte (s.drop k) 10<0->F6 false (s.drop k)=s.length-k)/\(0<=Lib.indexByte (s.drop k) 10->F6 false (s.drop k)=(Lib.indexByte (s.drop k) 10).toNat+F6 false (s.drop (k+(Lib.indexByte (s.drop k) 10).toNat))/\k+(Lib.indexByte (s.drop k) 10).toNat<=s.length/\1<=(Lib.indexByte (s.drop k) 10).toNat):=by
 have hb:Fx s[k]=false:=by simp[Fx,h]
 have hc:¬s[k]=10:=λe=>by rw[e]at h;exact absurd h (by decide)
 have yK:(s[k] == 10)=false:=by simpa using hc
 have hg:=eB s k hk;rw[hb,decide_eq_true h,cond_false,cond_true,eA]at hg;have hd:Lib.indexByte (s.drop k) 10=if Lib.indexByte (s.drop (k+1)) 10=-1 then -1 else Lib.indexByte (s.drop (k+1)) 10+1:=by rw[Ax hk,Zbm,yK];simp
 have hbd:=YW 10 (s.drop (k+1));simp only[A1]at hbd;by_cases hi:Lib.indexByte (s.drop (k+1)) 10=-1;rw[if_pos hi]at hd hg;refine⟨λ_=>?_,λh0=>by omega⟩;simp only[A1]at hg;omega;rw[if_neg hi]at hd hg;refine⟨λh0=>by omega,λ_=>?_⟩;rw[hd];have e:(Lib.indexByte (s.drop (k+1)) 10+1).toNat=(Lib.indexByte (s.drop (k+1)) 10).toNat+1:=by omega
 rw[e];rw[List.drop_drop]at hg;rw[show k+((Lib.indexByte (s.drop (k+1)) 10).toNat+1)=k+1+(Lib.indexByte (s.drop (k+1)) 10).toNat by omega];omega
theorem sG(s:Bs)(hs:s.length<=8000)(p:Nat)(hp:p<=s.length):Au Pg 93 [.str s,.int .i64 p] (λr=>r=.int .i64 ((p+F6 false (s.drop p):Nat):Int)):=by
 refine Au.Ak func93 rfl Ab (by kernel_rfl) ?_;conv=>whnf
 refine Ay Ab _ ?_;conv=>whnf
 refine Aa.G6 (λk:Nat=>mk 35 [(0,.str s),(1,.int .i64 k)]) (λ_=>[]) (λk=>k<=s.length/\p+F6 false (s.drop p)=k+F6 false (s.drop k)) (λk=>s.length-k) ⟨p,?_⟩ λk hk=>?_;refine kQ ?_;exact⟨hp,rfl⟩;obtain⟨hk,he⟩:=hk;refine Ay Ab _ ?_;conv=>whnf
 refine⟨λAA=>?_,λET=>?_⟩
 ·have AA:k<s.length:=by simpa using AA
  conv=>whnf
  refine⟨⟨by omega,by omega⟩,?_⟩;conv=>whnf
  rw[Iy s k AA];have UK:=eB s k AA
  repeat' (first|(refine Ai (λ_=>?_) (λ_=>?_)<;>conv=>whnf)|fail)
  all_goals first
   |(exfalso;simp_all;done)
   |(refine⟨k+1,?_⟩
     conv=>whnf
     refine qG ?_
     have hn:Fx s[k]=true:=by simp_all[Fx]<;>omega
     rw[hn,cond_true]at UK
     exact⟨⟨by omega,by omega⟩,by omega⟩)
   |(have hn:Fx s[k]=false:=by simp_all[Fx]<;>omega
     have h37:¬s[k].toNat=37:=by simp_all<;>omega
     rw[hn,decide_eq_false h37]at UK
     simp only[cond_false]at UK
     rw[he,UK];rfl)
   |(have h37:s[k].toNat=37:=by simp_all<;>omega
     obtain⟨g1,g2⟩:=eC s k AA h37
     refine⟨⟨by omega,by omega,by omega⟩,?_⟩
     (conv=>whnf)
     have e1:List.drop ((k:Int)).toNat (List.take ((s.length:Int)).toNat s)=s.drop k:=by simp
     rw[e1]
     refine Ah.BZ (UE (s.drop k) 10) rfl λr hr=>?_
     subst hr
     have hbd:=YW 10 (s.drop k)
     simp only[A1]at hbd
     generalize Lib.indexByte (s.drop k) 10=j at*
     (conv=>whnf)
     constructor<;>intro hn
     · have hn:j<0:=by simpa using hn
       (conv=>whnf)
       rw[he,g1 hn,show k+(s.length-k)=s.length by omega]
     · have hn:0<=j:=by simp at hn;omega
       obtain⟨g3,g4,g5⟩:=g2 hn
       (conv=>whnf)
       refine⟨k+j.toNat,?_⟩
       conv=>whnf
       refine qG ?_
       exact⟨⟨by omega,by omega⟩,by omega⟩)
 have ET:s.length<=k:=by simp at ET;omega
 have:k=s.length:=by omega
 subst this;simp only[C2,F6]at he;conv=>whnf
 rw[he];rfl
def Qv(t:Go.Av.Net.Tok):AV:=.agg [.int .i64 t.kind,.str t.text,.int .i64 t.pos]
def BB(l:List Go.Av.Net.Tok):List AV:=l.map Qv
theorem KZ(n:Int)(s:Bs)(p:Nat)(hs:s.length<=8000)(h4:n=4->2<=s.length):Au Pg 94 [.int .i64 n,.str s,.int .i64 p] (λr=>r=Qv ⟨n,bif decide (n=4)then (s.take (s.length-1)).drop 1 else s,p⟩):=by
 refine Au.Ak func94 rfl Ab (by kernel_rfl) ?_;conv=>whnf
 refine Ay Ab _ ?_;conv=>whnf
 constructor<;>intro h
 ·have h:n=4:=by simpa using h
  have h2:=h4 h;conv=>whnf
  refine⟨⟨by omega,by rw[qW];omega,by rw[qW];omega⟩,?_⟩;conv=>whnf
  rw[qW];rw[decide_eq_true h,cond_true];have e:((s.length:Int)-1).toNat=s.length-1:=by omega
  rw[e];rfl
 have h:¬n=4:=by simpa using h
 conv=>whnf
 rw[decide_eq_false h,cond_false];rfl
def Zfh:Lx->AV
 |.ok l=>.tuple [.sl 3 (BB l),.int .i64 0,.int .i64 (-1)]
 |.err e p=>.tuple [.sl 3 [],.int .i64 e,.int .i64 p]
@[simp] theorem Gw(l:List Go.Av.Net.Tok):(BB l).length=l.length:=by simp[BB]
def Zbb:List AV:=[.agg [.int .i64 2,.fn 89 []],.agg [.int .i64 1,.fn 90 []],.agg [.int .i64 4,.fn 91 []],.agg [.int .i64 3,.fn 92 []]]
def Lx.app(l:List Go.Av.Net.Tok):Lx->Lx
 |.ok r=>.ok (l++r)
 |.err e p=>.err e p
theorem Qh(l:List Go.Av.Net.Tok)(t:Go.Av.Net.Tok)(x:Lx):Lx.app l (x.cons t)=Lx.app (l++[t]) x:=by
 cases x<;>simp[Lx.app,Lx.cons]
theorem M6(l:List Go.Av.Net.Tok):∀e∈BB l,closed e=true:=by
 intro e he;obtain⟨t,_,rfl⟩:=List.mem_map.1 he;rfl
theorem ON:∀(b:Bool)(s:Bs),F6 b s<=s.length
 |_,[]=>by simp[F6]
 |false,b::r=>by
  have h1:=ON false r;have h2:=ON true r;unfold F6;cases Fx b<;>simp;·cases decide (b.toNat=37)<;>simp<;>omega
  omega
 |true,b::r=>by have h1:=ON false r;have h2:=ON true r;unfold F6;cases decide (b.toNat=10)<;>simp<;>omega
theorem Uh(s:Bs):BA s<=s.length:=by
 have hb:=(K8 s).1;rw[Ui];split<;>omega
theorem zG:∀(f i:Nat)(r:Bs),KP f i r<=i+r.length/\(0<KP f i r->i+1<=KP f i r)
 |0,i,r=>by simp[KP]
 |f+1,i,[]=>by simp[KP]
 |f+1,i,b::r=>by have h:=zG f (i+1) r;unfold KP;by_cases h1:b.toNat=34;rw[decide_eq_true h1,cond_true];simp only[A4];omega;rw[decide_eq_false h1,cond_false];cases (decide (b.toNat<32)||decide (126<b.toNat));simp only[cond_false,A4];omega;simp
theorem Qu(s:Bs):B9 s<=s.length/\(0<B9 s->2<=B9 s):=by
 cases s with
 |nil=>simp[B9]
 |cons b r=>
  have h:=zG 201 1 r;rw[show B9 (b::r)=bif decide (b.toNat=34)then KP 201 1 r else 0 from rfl];by_cases h1:b.toNat=34;rw[decide_eq_true h1,cond_true];simp only[A4];omega;rw[decide_eq_false h1,cond_false];simp
theorem Ws(s:Bs):BJ s<=s.length:=by
 unfold BJ;split;·rename_i x hx;have:=List.find?_some hx;rw[BR]at this;exact this.length_le
 exact BK _
theorem Pe(s:Bs)(q n:Nat):List.drop ((q:Int)).toNat (List.take (((q+n:Nat):Int)).toNat s)=(s.drop q).take n:=by
 rw[Dk,Dk,List.drop_take,Nat.add_sub_cancel_left]
theorem ZcI(s:Bs)(hs:s.length<=9223372036854775807):Au Pg 45 [.str s] (λr=>r=Zfh (NP s)):=by
 refine Au.Ak func45 rfl Ab (by kernel_rfl) ?_;conv=>whnf
 refine Ay Ab _ ?_;conv=>whnf
 constructor<;>intro h
 ·have h:8000<s.length:=by simp at h;omega
  conv=>whnf
  refine⟨3,?_⟩;(conv=>whnf);unfold NP;rw[decide_eq_true h];rfl
 have h:¬8000<s.length:=by simp at h;omega
 conv=>whnf
 refine Aa.Hj 6 155 3 rfl ?_
 refine Aa.Ar (λi:Nat×List Go.Av.Net.Tok=>mk 63 [(0,.str s),(5,.own 0 2 0 4),(6,.own 1 3 0 i.2.length),(7,.int .i64 i.1)]) (λi=>[.arr 151 2 Zbb,.arr 155 3 (BB i.2)])
  (λi=>i.1<=s.length/\i.2.length<=3000/\∃f,s.length<i.1+f/\NP s=Lx.app i.2 (G7 s f i.1 i.2.length)) (λi=>s.length-i.1) (λi hi=>⟨rfl,?_⟩) ⟨(0,[]),?_⟩ (λ_=>rfl) λi hi=>?_
 ·(conv=>whnf);refine⟨by decide,?_⟩;(conv=>whnf);exact⟨M6 _,trivial⟩
 ·refine kQ ?_;refine⟨s.length+1,by simp only;omega,?_⟩;unfold NP;rw[decide_eq_false h,cond_false];simp only[List.length_nil];cases G7 s (s.length+1) 0 0<;>simp[Lx.app]
 obtain⟨p,l⟩:=i;obtain⟨hp,hl,f,hf,he⟩:=hi;simp only at hp hl hf he⊢;refine Ay Ab _ ?_;conv=>whnf
 refine cS (sG s (by omega) p hp) rfl ?_;conv=>whnf
 obtain⟨f,rfl⟩:∃f',f=f'+1:=⟨f-1,by omega⟩;unfold G7 at he;have hg:=ON false (s.drop p);simp only[A1]at hg;have hpq:p<=p+F6 false (s.drop p):=Dx _ _;have hqs:p+F6 false (s.drop p)<=s.length:=by omega
 generalize p+F6 false (s.drop p)=q at*;constructor<;>intro h1
 ·have h1:q=s.length:=by simp at h1;omega
  rw[decide_eq_true h1,cond_true]at he;conv=>whnf
  refine⟨⟨(Gw l).symm,M6 _⟩,?_⟩;(conv=>whnf);rw[he];simp[Lx.app,Zfh]
 have h1:¬q=s.length:=by simp at h1;omega
 rw[decide_eq_false h1,cond_false]at he;conv=>whnf
 constructor<;>intro h2
 ·have h2:l.length=3000:=by simp at h2;omega
  rw[decide_eq_true h2,cond_true]at he;conv=>whnf
  refine⟨3,?_⟩;(conv=>whnf);rw[he];rfl
 have h2:¬l.length=3000:=by simp at h2;omega
 rw[decide_eq_false h2,cond_false]at he;conv=>whnf
 have ed:List.drop ((q:Int)).toNat (List.take ((s.length:Int)).toNat s)=s.drop q:=by simp
 have ht1:1<=(s.drop q).length:=by simp only[A1];omega
 have ht2:(s.drop q).length<=8000:=by simp only[A1];omega
 refine Aa.Ar (λj:Nat=>mk 63 [(0,.str s),(5,.own 0 2 0 4),(6,.own 1 3 0 l.length),(7,.int .i64 q),(30,.own 0 2 0 4),(31,.int .i64 4),(32,.int .i64 j)]) (λ_=>[.arr 151 2 Zbb,.arr 155 3 (BB l)])
  (λj=>j<=4/\(1<=j->BS (s.drop q)=0)/\(2<=j->BA (s.drop q)=0)/\(3<=j->B9 (s.drop q)=0)/\(4<=j->BJ (s.drop q)=0)) (λj=>4-j) (λj hj=>⟨rfl,?_⟩) ⟨0,?_⟩ (λ_=>rfl) λj hj=>?_
 ·(conv=>whnf);refine⟨by decide,?_⟩;(conv=>whnf);exact⟨M6 _,trivial⟩
 refine kQ ?_;intro h;omega;obtain⟨hj,j1,j2,j3,j4⟩:=hj;refine Ay Ab _ ?_;conv=>whnf
 constructor<;>intro h3
 ·have h3:j<4:=by simp at h3;omega
  conv=>whnf
  have hjc:j=0\/j=1\/j=2\/j=3:=by omega
  rcases hjc with rfl|rfl|rfl|rfl
  ·refine⟨by decide,_,rfl,?_⟩;(conv=>whnf);refine Aa.draw [] Ab mO (by kernel_rfl) ?_;(conv=>whnf);refine⟨⟨by omega,by omega,by omega⟩,?_⟩;(conv=>whnf);rw[ed];refine⟨_,⟨PE (s.drop q) ht2,rfl⟩,?_⟩;(conv=>whnf);have hb:=(K8 (s.drop q)).1;(have hn:BS (s.drop q)<=(s.drop q).length:=by rw[Kc];split<;>omega);simp only[A1]at hn;refine⟨λFw=>?_,λhz=>?_⟩;·(have Fw:0<BS (s.drop q):=by simpa using Fw);(conv=>whnf);refine Aa.KE [] [12] Ab mO (by kernel_rfl) ?_;(conv=>whnf);(have ew:Wr .i64 ((q:Int)+(BS (s.drop q):Int))=((q+BS (s.drop q):Nat):Int):=by rw[qW];omega);rw[ew];refine⟨⟨by omega,by omega,by omega⟩,?_⟩;(conv=>whnf);rw[Pe];refine⟨_,⟨KZ 2 ((s.drop q).take (BS (s.drop q))) q (by simp only[BU];omega) (λh=>by cases h),rfl⟩,?_⟩;(conv=>whnf);refine⟨rfl,?_⟩;(conv=>whnf);refine⟨⟨(Gw l).symm,by simp;omega⟩,?_⟩;(conv=>whnf);(have htk:ES (s.drop q)=some (BS (s.drop q),2,(s.drop q).take (BS (s.drop q))):=by simp[ES,Fw]);rw[htk]at he;simp only[Qh]at he;rw[show(bif decide ((2:Int)=4)then List.drop 1 (List.take ((List.take (BS (s.drop q)) (s.drop q)).length-1) (List.take (BS (s.drop q)) (s.drop q)))else List.take (BS (s.drop q)) (s.drop q))=(s.drop q).take (BS (s.drop q)) by simp];refine⟨(q+BS (s.drop q),l++[⟨2,(s.drop q).take (BS (s.drop q)),q⟩]),?_⟩;refine kQ ?_;refine⟨ew,?_⟩;(conv=>whnf);refine⟨rfl,?_⟩;(conv=>whnf);refine⟨by simp[BB],?_⟩;(conv=>whnf);refine⟨⟨by simp only;omega,by simp;omega,f,by simp only;omega,by simpa using he⟩,by simp only;omega⟩
   (have hz:BS (s.drop q)=0:=by simp at hz;omega);(conv=>whnf);refine⟨1,?_⟩;refine kQ ?_;refine⟨by rw[LY _ (by decide) (by decide)];rfl,?_⟩;(conv=>whnf);refine⟨rfl,?_⟩;(conv=>whnf);refine⟨rfl,?_⟩;(conv=>whnf);exact⟨⟨by omega,λ_=>hz,by omega,by omega,by omega⟩,by omega⟩
  ·refine⟨by decide,_,rfl,?_⟩;(conv=>whnf);refine Aa.draw [] Ab mO (by kernel_rfl) ?_;(conv=>whnf);refine⟨⟨by omega,by omega,by omega⟩,?_⟩;(conv=>whnf);rw[ed];refine⟨_,⟨SE (s.drop q) ht2 ht1,rfl⟩,?_⟩;(conv=>whnf);have hn:BA (s.drop q)<=(s.drop q).length:=Uh _;simp only[A1]at hn;refine⟨λFw=>?_,λhz=>?_⟩;·(have Fw:0<BA (s.drop q):=by simpa using Fw);(conv=>whnf);refine Aa.KE [] [12] Ab mO (by kernel_rfl) ?_;(conv=>whnf);(have ew:Wr .i64 ((q:Int)+(BA (s.drop q):Int))=((q+BA (s.drop q):Nat):Int):=by rw[qW];omega);rw[ew];refine⟨⟨by omega,by omega,by omega⟩,?_⟩;(conv=>whnf);rw[Pe];refine⟨_,⟨KZ 1 ((s.drop q).take (BA (s.drop q))) q (by simp only[BU];omega) (λh=>by cases h),rfl⟩,?_⟩;(conv=>whnf);refine⟨rfl,?_⟩;(conv=>whnf);refine⟨⟨(Gw l).symm,by simp;omega⟩,?_⟩;(conv=>whnf);(have htk:ES (s.drop q)=some (BA (s.drop q),1,(s.drop q).take (BA (s.drop q))):=by simp[ES,Fw,j1 (by omega)]);rw[htk]at he;simp only[Qh]at he;rw[show(bif decide ((1:Int)=4)then List.drop 1 (List.take ((List.take (BA (s.drop q)) (s.drop q)).length-1) (List.take (BA (s.drop q)) (s.drop q)))else List.take (BA (s.drop q)) (s.drop q))=(s.drop q).take (BA (s.drop q)) by simp];refine⟨(q+BA (s.drop q),l++[⟨1,(s.drop q).take (BA (s.drop q)),q⟩]),?_⟩;refine kQ ?_;refine⟨ew,?_⟩;(conv=>whnf);refine⟨rfl,?_⟩;(conv=>whnf);refine⟨by simp[BB],?_⟩;(conv=>whnf);refine⟨⟨by simp only;omega,by simp;omega,f,by simp only;omega,by simpa using he⟩,by simp only;omega⟩
   (have hz:BA (s.drop q)=0:=by simp at hz;omega);(conv=>whnf);refine⟨2,?_⟩;refine kQ ?_;refine⟨by rw[LY _ (by decide) (by decide)];rfl,?_⟩;(conv=>whnf);refine⟨rfl,?_⟩;(conv=>whnf);refine⟨rfl,?_⟩;(conv=>whnf);exact⟨⟨by omega,λ_=>j1 (by omega),λ_=>hz,by omega,by omega⟩,by omega⟩
  ·refine⟨by decide,_,rfl,?_⟩;(conv=>whnf);refine Aa.draw [] Ab mO (by kernel_rfl) ?_;(conv=>whnf);refine⟨⟨by omega,by omega,by omega⟩,?_⟩;(conv=>whnf);rw[ed];refine⟨_,⟨SA (s.drop q) ht2 ht1,rfl⟩,?_⟩;(conv=>whnf);have hn:B9 (s.drop q)<=(s.drop q).length:=(Qu _).1;simp only[A1]at hn;refine⟨λFw=>?_,λhz=>?_⟩;·(have Fw:0<B9 (s.drop q):=by simpa using Fw);(conv=>whnf);refine Aa.KE [] [12] Ab mO (by kernel_rfl) ?_;(conv=>whnf);(have ew:Wr .i64 ((q:Int)+(B9 (s.drop q):Int))=((q+B9 (s.drop q):Nat):Int):=by rw[qW];omega);rw[ew];refine⟨⟨by omega,by omega,by omega⟩,?_⟩;(conv=>whnf);rw[Pe];refine⟨_,⟨KZ 4 ((s.drop q).take (B9 (s.drop q))) q (by simp only[BU];omega) (λ_=>by have:=(Qu (s.drop q)).2 Fw;simp only[BU,A1];omega),rfl⟩,?_⟩;(conv=>whnf);refine⟨rfl,?_⟩;(conv=>whnf);refine⟨⟨(Gw l).symm,by simp;omega⟩,?_⟩;(conv=>whnf);(have Zkd:min (min (B9 (s.drop q)) (s.length-q)-1) (B9 (s.drop q))=B9 (s.drop q)-1:=by omega);(have htk:ES (s.drop q)=some (B9 (s.drop q),4,((s.drop q).take (B9 (s.drop q)-1)).drop 1):=by simp[ES,Fw,j1 (by omega),j2 (by omega)]);rw[htk]at he;simp only[Qh]at he;rw[show(bif decide ((4:Int)=4)then List.drop 1 (List.take ((List.take (B9 (s.drop q)) (s.drop q)).length-1) (List.take (B9 (s.drop q)) (s.drop q)))else List.take (B9 (s.drop q)) (s.drop q))=((s.drop q).take (B9 (s.drop q)-1)).drop 1 by simp[List.take_take,Zkd]];refine⟨(q+B9 (s.drop q),l++[⟨4,((s.drop q).take (B9 (s.drop q)-1)).drop 1,q⟩]),?_⟩;refine kQ ?_;refine⟨ew,?_⟩;(conv=>whnf);refine⟨rfl,?_⟩;(conv=>whnf);refine⟨by simp[BB],?_⟩;(conv=>whnf);refine⟨⟨by simp only;omega,by simp;omega,f,by simp only;omega,by simpa using he⟩,by simp only;omega⟩
   (have hz:B9 (s.drop q)=0:=by simp at hz;omega);(conv=>whnf);refine⟨3,?_⟩;refine kQ ?_;refine⟨by rw[LY _ (by decide) (by decide)];rfl,?_⟩;(conv=>whnf);refine⟨rfl,?_⟩;(conv=>whnf);refine⟨rfl,?_⟩;(conv=>whnf);exact⟨⟨by omega,λ_=>j1 (by omega),λ_=>j2 (by omega),λ_=>hz,by omega⟩,by omega⟩
  refine⟨by decide,_,rfl,?_⟩;conv=>whnf
  refine Aa.draw [] Ab mO (by kernel_rfl) ?_;conv=>whnf
  refine⟨⟨by omega,by omega,by omega⟩,?_⟩;conv=>whnf
  rw[ed];refine⟨_,⟨O9 (s.drop q) ht2,rfl⟩,?_⟩;conv=>whnf
  have hn:BJ (s.drop q)<=(s.drop q).length:=Ws _;simp only[A1]at hn;refine⟨λFw=>?_,λhz=>?_⟩;·(have Fw:0<BJ (s.drop q):=by simpa using Fw);(conv=>whnf);refine Aa.KE [] [12] Ab mO (by kernel_rfl) ?_;(conv=>whnf);(have ew:Wr .i64 ((q:Int)+(BJ (s.drop q):Int))=((q+BJ (s.drop q):Nat):Int):=by rw[qW];omega);rw[ew];refine⟨⟨by omega,by omega,by omega⟩,?_⟩;(conv=>whnf);rw[Pe];refine⟨_,⟨KZ 3 ((s.drop q).take (BJ (s.drop q))) q (by simp only[BU];omega) (λh=>by cases h),rfl⟩,?_⟩;(conv=>whnf);refine⟨rfl,?_⟩;(conv=>whnf);refine⟨⟨(Gw l).symm,by simp;omega⟩,?_⟩;(conv=>whnf);(have htk:ES (s.drop q)=some (BJ (s.drop q),3,(s.drop q).take (BJ (s.drop q))):=by simp[ES,Fw,j1 (by omega),j2 (by omega),j3 (by omega)]);rw[htk]at he;simp only[Qh]at he;rw[show(bif decide ((3:Int)=4)then List.drop 1 (List.take ((List.take (BJ (s.drop q)) (s.drop q)).length-1) (List.take (BJ (s.drop q)) (s.drop q)))else List.take (BJ (s.drop q)) (s.drop q))=(s.drop q).take (BJ (s.drop q)) by simp];refine⟨(q+BJ (s.drop q),l++[⟨3,(s.drop q).take (BJ (s.drop q)),q⟩]),?_⟩;refine kQ ?_;refine⟨ew,?_⟩;(conv=>whnf);refine⟨rfl,?_⟩;(conv=>whnf);refine⟨by simp[BB],?_⟩;(conv=>whnf);refine⟨⟨by simp only;omega,by simp;omega,f,by simp only;omega,by simpa using he⟩,by simp only;omega⟩
  have hz:BJ (s.drop q)=0:=by simp at hz;omega
  conv=>whnf
  refine⟨4,?_⟩;refine kQ ?_;refine⟨by rw[LY _ (by decide) (by decide)];rfl,?_⟩;(conv=>whnf);refine⟨rfl,?_⟩;(conv=>whnf);refine⟨rfl,?_⟩;(conv=>whnf);exact⟨⟨by omega,λ_=>j1 (by omega),λ_=>j2 (by omega),λ_=>j3 (by omega),λ_=>hz⟩,by omega⟩
 have h3:j=4:=by simp at h3;omega
 subst h3;conv=>whnf
 refine⟨3,?_⟩;(conv=>whnf);have ht:ES (s.drop q)=none:=by simp[ES,j1 (by omega),j2 (by omega),j3 (by omega),j4 (by omega)]
 rw[ht]at he;rw[he];rfl
def ED(c:Dm):AV:=.agg [.int .i64 c.Bc,.sl 1 (c.Bw.map .bool),.sl 1 (c.AZ.map (.int .i64))]
def BP(s:Bs):AV:=.agg [.str s]
def Dq(o:xQ):AV:=.agg [.str o.name,.int .i64 o.oper,.int .i64 o.Gs,.int .i64 o.Bg,.int .i64 o.As,.int .i64 o.Ap,.sl 1 (strs o.AK)]
def Kf(l:Lin):AV:=.agg [.str l.name,.int .i64 l.from_,.int .i64 l.VJ,.int .i64 l.at_,.int .i64 l.Bb,.int .i64 l.load]
def Ft(c:Io):AV:=.agg [.str c.name,.int .i64 c.cut,.int .i64 c.Be]
structure V6 where
 a:Value
 b:Value
 c:Value
 d:Value
 e:Value
 f:Value
def PQ(ts:List Go.Av.Net.Tok)(len:Nat)(i:Nat)(a b c d e f:AV):List HO:=Dg 4 [.sl 3 (BB ts),.int .i64 i,.int .i64 len,a,b,c,d,e,f]
def L7(ts:List Go.Av.Net.Tok)(len:Nat)(i:Nat)(v:V6):List HO:=PQ ts len i (.raw v.a) (.raw v.b) (.raw v.c) (.raw v.d) (.raw v.e) (.raw v.f)
def Db(ts:List Go.Av.Net.Tok)(len:Nat)(e:Int)(i:Nat):AV:=.iface 103 (.agg [.int .i64 e,.int .i64 (Ag ts len i)])
theorem Gd(l:List Go.Av.Net.Tok)(k:Nat)(h:k<l.length):(BB l)[k]?=some (Qv l[k]):=by simp[BB,h]
theorem Ad{α:Type}(f:α->AV)(hf:∀x,closed (f x)=true)(l:List α):∀e∈l.map f,closed e=true:=by
 intro e he;obtain⟨x,_,rfl⟩:=List.mem_map.1 he;exact hf x
theorem J9(ts:List Go.Av.Net.Tok)(len i:Nat)(v:V6)(hl:ts.length<=3000)(hi:i<=ts.length):
  Bq Pg 110 [.ptr 4 0] (L7 ts len i v) (λr H=>∃h:i<ts.length,r=Qv ts[i]/\H=L7 ts len i v) (λx H=>ts.length<=i/\x=Db ts len 91 i/\H=L7 ts len i v):=by
 refine Bq.Ak func110 rfl Ab (by kernel_rfl) rfl ?_;conv=>whnf
 refine Ay Ab _ ?_;conv=>whnf
 refine Aa.draw [] Ab mO (by kernel_rfl) ?_;conv=>whnf
 constructor<;>intro h
 ·have h:ts.length<=i:=by simp at h;omega
  conv=>whnf
  refine⟨h,?_,rfl⟩;rw[Db,Ag,A3 h]
 have h:i<ts.length:=by simp at h;omega
 conv=>whnf
 refine Aa.draw [10] Ab mO (by kernel_rfl) ?_;conv=>whnf
 refine⟨by omega,Qv ts[i],Gd _ _ h,?_⟩;conv=>whnf
 exact⟨h,rfl,rfl⟩
theorem GI(ts:List Go.Av.Net.Tok)(len i:Nat)(v:V6)(rest:List HO):Eh (L7 ts len i v) (L7 ts len i v) (L7 ts len i v++rest) True:=
 ⟨rfl,rfl,trivial⟩
theorem EX(ts:List Go.Av.Net.Tok)(len i:Nat)(v:V6)(hl:ts.length<=3000)(hi:i<=ts.length):
  Bq Pg 52 [.ptr 4 0] (L7 ts len i v) (λ_ _=>False) (λx H=>x=Db ts len (if i<ts.length then 90 else 91) i/\H=L7 ts len i v):=by
 refine Bq.Ak func52 rfl Ab (by kernel_rfl) rfl ?_;conv=>whnf
 refine Ay Ab _ ?_;conv=>whnf
 refine Ah.Fv (J9 ts len i v hl hi) rfl (GI ts len i v []) ?_ ?_;·rintro r H1 ⟨h,rfl,rfl⟩;(conv=>whnf);rw[if_pos h];refine⟨?_,rfl⟩;unfold Db Ag;rw[A0 h]
 rintro r H1 ⟨h,rfl,rfl⟩;(conv=>whnf);rw[if_neg (by omega)];exact⟨rfl,rfl⟩
theorem Yk(ts:List Go.Av.Net.Tok)(k:Int)(x:Bs)(i:Nat)(h:i<ts.length):AW (BE ts) k x i=(decide (ts[i].kind=k)&&decide (ts[i].text=x)):=by
 unfold AW BE;rw[Ce,A0 h];rfl
theorem SL(ts:List Go.Av.Net.Tok)(k:Int)(x:Bs)(i:Nat)(h:ts.length<=i):AW (BE ts) k x i=false:=by
 unfold AW BE;rw[Ce,A3 h];rfl
theorem _root_.Go.Av.Bq.lits{f:Go.FuncId}{args:List AV}{H0:List HO}{R':Bool->List HO->Prop}{X:AV->List HO->Prop}(h:Bq P f args H0 (λr H=>∃b,(r=.lit b\/r=.bool b)/\R' b H) X):
  Bq P f args H0 (λr H=>∃b,r=.bool b/\R' b H) X:=
 ⟨h.D7,λC mu w vs h1 h2 h3=>(h.out C mu w vs h1 h2 h3).mono λe w' hp=>by
  obtain⟨r,v,H1,C',mu',ho,hp,hh,hr,rest⟩:=hp
  rcases ho with⟨he,b,hb,hR⟩|⟨he,hX⟩
  ·refine⟨.bool b,v,H1,C',mu',.inl ⟨he,b,rfl,hR⟩,hp,hh,?_,rest⟩
   rcases hb with rfl|rfl<;>(unfold Aj at*;exact hr)
  ·exact⟨r,v,H1,C',mu',.inr ⟨he,hX⟩,hp,hh,hr,rest⟩⟩
theorem ZbR(ts:List Go.Av.Net.Tok)(len i:Nat)(v:V6)(x:Bs)(hl:ts.length<=3000)(hi:i<=ts.length):
  Bq Pg 95 [.ptr 4 0,.str x] (L7 ts len i v) (λr H=>∃b,r=.bool b/\(b=AW (BE ts) 1 x i/\H=L7 ts len i v)) (λ_ _=>False):=by
 refine Bq.lits ?_;refine Bq.Ak func95 rfl Ab (by kernel_rfl) rfl ?_;refine kW ?_;refine Aa.draw [] Ab mO (by kernel_rfl) ?_;conv=>whnf
 constructor<;>intro h
 ·have h:i<ts.length:=by simp at h;omega
  rw[Yk ts 1 x i h];exact YaD
 have h:ts.length<=i:=by simp at h;omega
 rw[SL ts 1 x i h];refine kW ?_;exact⟨_,.inl rfl,rfl,rfl⟩
theorem UW(ts:List Go.Av.Net.Tok)(len i:Nat)(v:V6)(x:Bs)(hl:ts.length<=3000)(hi:i<=ts.length):
  Bq Pg 107 [.ptr 4 0,.str x] (L7 ts len i v) (λr H=>∃b,r=.bool b/\(b=AW (BE ts) 3 x i/\H=L7 ts len i v)) (λ_ _=>False):=by
 refine Bq.lits ?_;refine Bq.Ak func107 rfl Ab (by kernel_rfl) rfl ?_;refine kW ?_;refine Aa.draw [] Ab mO (by kernel_rfl) ?_;conv=>whnf
 constructor<;>intro h
 ·have h:i<ts.length:=by simp at h;omega
  rw[Yk ts 3 x i h];exact YaD
 have h:ts.length<=i:=by simp at h;omega
 rw[SL ts 3 x i h];refine kW ?_;exact⟨_,.inl rfl,rfl,rfl⟩
theorem Sh(ts:List Go.Av.Net.Tok)(len i:Nat)(v:V6)(k:Int)(x:Bs)(hl:ts.length<=3000)(hi:i<=ts.length):
  Bq Pg 136 [.ptr 4 0,.agg [.int .i64 k,.str x,.int .i64 0]] (L7 ts len i v) (λr H=>r=.tuple []/\AW (BE ts) k x i=true/\H=L7 ts len (i+1) v) (λy H=>AW (BE ts) k x i=false/\y=Db ts len (if i<ts.length then 90 else 91) i/\H=L7 ts len i v):=by
 refine Bq.Ak func136 rfl Ab (by kernel_rfl) rfl ?_;refine kW ?_;refine Ah.Fv (J9 ts len i v hl hi) rfl (GI ts len i v [_]) ?_ ?_
 ·rintro r H1 ⟨h,rfl,rfl⟩;refine kW ?_;rw[Yk ts k x i h];constructor<;>intro hk
  ·(have hk:ts[i].kind=k:=by simpa using hk);refine kW ?_;constructor<;>intro ht;·(have ht:¬ts[i].text=x:=by simpa using ht);refine kW ?_;refine Ah.Fv (EX ts len i v hl hi) rfl (GI ts len i v [_,_]) (λr H1 h=>h.elim) ?_;rintro r H1 ⟨rfl,rfl⟩;refine kW ?_;exact⟨by simp[ht],rfl,rfl⟩
   (have ht:ts[i].text=x:=by simpa using ht);refine kW ?_;refine⟨rfl,by simp[hk,ht],?_⟩;rw[qW];rfl
  have hk:¬ts[i].kind=k:=by simpa using hk
  refine kW ?_;refine Ah.Fv (EX ts len i v hl hi) rfl (GI ts len i v [_,_]) (λr H1 h=>h.elim) ?_;rintro r H1 ⟨rfl,rfl⟩;refine kW ?_;exact⟨by simp[hk],rfl,rfl⟩
 rintro r H1 ⟨h,rfl,rfl⟩;refine kW ?_;rw[if_neg (by omega)];exact⟨SL _ _ _ _ h,rfl,rfl⟩
theorem rR(ts:List Go.Av.Net.Tok)(len i:Nat)(v:V6)(x:Bs)(hl:ts.length<=3000)(hi:i<=ts.length):
  Bq Pg 96 [.ptr 4 0,.str x] (L7 ts len i v) (λr H=>r=.tuple []/\AW (BE ts) 1 x i=true/\H=L7 ts len (i+1) v) (λy H=>AW (BE ts) 1 x i=false/\y=Db ts len (if i<ts.length then 90 else 91) i/\H=L7 ts len i v):=by
 refine Bq.Ak func96 rfl Ab (by kernel_rfl) rfl ?_;refine kW ?_;refine Ah.Fv (Sh ts len i v 1 x hl hi) rfl (GI ts len i v []) ?_ ?_;·rintro r H1 ⟨rfl,h,rfl⟩;refine kW ?_;exact⟨rfl,h,rfl⟩
 rintro r H1 ⟨h,rfl,rfl⟩;refine kW ?_;exact⟨h,rfl,rfl⟩
theorem Z9(ts:List Go.Av.Net.Tok)(len i:Nat)(v:V6)(x:Bs)(hl:ts.length<=3000)(hi:i<=ts.length):
  Bq Pg 98 [.ptr 4 0,.str x] (L7 ts len i v) (λr H=>r=.tuple []/\AW (BE ts) 3 x i=true/\H=L7 ts len (i+1) v) (λy H=>AW (BE ts) 3 x i=false/\y=Db ts len (if i<ts.length then 90 else 91) i/\H=L7 ts len i v):=by
 refine Bq.Ak func98 rfl Ab (by kernel_rfl) rfl ?_;refine kW ?_;refine Ah.Fv (Sh ts len i v 3 x hl hi) rfl (GI ts len i v []) ?_ ?_;·rintro r H1 ⟨rfl,h,rfl⟩;refine kW ?_;exact⟨rfl,h,rfl⟩
 rintro r H1 ⟨h,rfl,rfl⟩;refine kW ?_;exact⟨h,rfl,rfl⟩
theorem QZ(ts:List Go.Av.Net.Tok)(i:Nat)(h:i<ts.length):(BE ts)[i]?=some (ts[i].kind,ts[i].text):=by
 unfold BE;rw[Ce,A0 h];rfl
theorem MG(ts:List Go.Av.Net.Tok)(i:Nat)(h:ts.length<=i):(BE ts)[i]?=none:=by
 unfold BE;rw[Ce,A3 h];rfl
theorem tY(ts:List Go.Av.Net.Tok)(len i:Nat)(v:V6)(hl:ts.length<=3000)(hi:i<=ts.length)(ht:∀t∈ts,t.text.length<=8000):
  Bq Pg 97 [.ptr 4 0] (L7 ts len i v) (λr H=>∃x,E8 (BE ts) i=.ok x (i+1)/\r=.str x/\H=L7 ts len (i+1) v) (λy H=>∃e,E8 (BE ts) i=.fail e i/\y=Db ts len e i/\H=L7 ts len i v):=by
 refine Bq.Ak func97 rfl Ab (by kernel_rfl) rfl ?_;refine kW ?_;refine Ah.Fv (J9 ts len i v hl hi) rfl (GI ts len i v []) ?_ ?_
 ·rintro r H1 ⟨h,rfl,rfl⟩;have hn:E8 (BE ts) i=bif decide (ts[i].kind=1)&&An ts[i].text then .ok ts[i].text (i+1)else .fail 90 i:=by unfold E8;rw[QZ ts i h]
  rw[hn];refine kW ?_;constructor<;>intro hk
  ·(have hk:ts[i].kind=1:=by simpa using hk);refine kW ?_;refine kC (cX ts[i].text (ht _ (A2 h))) ?_;constructor<;>intro hb;·(have hb:An ts[i].text=false:=by simpa using hb);refine kW ?_;refine Ah.Fv (EX ts len i v hl hi) rfl (GI ts len i v [_]) (λr H1 h=>h.elim) ?_;rintro r H1 ⟨rfl,rfl⟩;refine kW ?_;rw[if_pos h];exact⟨90,by simp[hb],rfl,rfl⟩
   (have hb:An ts[i].text=true:=by simpa using hb);refine kW ?_;refine⟨ts[i].text,by simp[hk,hb],rfl,?_⟩;rw[qW];rfl
  have hk:¬ts[i].kind=1:=by simpa using hk
  refine kW ?_;refine Ah.Fv (EX ts len i v hl hi) rfl (GI ts len i v [_]) (λr H1 h=>h.elim) ?_;rintro r H1 ⟨rfl,rfl⟩;refine kW ?_;rw[if_pos h];exact⟨90,by simp[hk],rfl,rfl⟩
 rintro r H1 ⟨h,rfl,rfl⟩;refine kW ?_;exact⟨91,by unfold E8;rw[MG ts i h],rfl,rfl⟩
theorem wX(ts:List Go.Av.Net.Tok)(len i:Nat)(v:V6)(hl:ts.length<=3000)(hi:i<=ts.length)(ht:∀t∈ts,t.text.length<=8000):
  Bq Pg 106 [.ptr 4 0] (L7 ts len i v) (λr H=>∃x,G9 (BE ts) i=.ok x (i+1)/\r=.str x/\H=L7 ts len (i+1) v) (λy H=>∃e,G9 (BE ts) i=.fail e i/\y=Db ts len e i/\H=L7 ts len i v):=by
 refine Bq.Ak func106 rfl Ab (by kernel_rfl) rfl ?_;refine kW ?_;refine Ah.Fv (J9 ts len i v hl hi) rfl (GI ts len i v []) ?_ ?_
 ·rintro r H1 ⟨h,rfl,rfl⟩;have hn:G9 (BE ts) i=bif (decide (ts[i].kind=1)||decide (ts[i].kind=2))&&Bt ts[i].text then .ok ts[i].text (i+1)else .fail 90 i:=by unfold G9;rw[QZ ts i h]
  rw[hn];refine kW ?_
  repeat' (first|(refine Ai (λ_=>?_) (λ_=>?_)<;>conv=>whnf)|(refine kC (cY ts[i].text (ht _ (A2 h))) ?_)|refine Ql ?_|fail)
  all_goals first
   |(refine Ah.Fv (EX ts len i v hl hi) rfl (GI ts len i v [_]) (λr H1 h=>h.elim) ?_
     rintro r H1 ⟨rfl,rfl⟩
     refine kW ?_
     rw[if_pos h]
     exact⟨90,by simp_all,rfl,rfl⟩)
   |(refine⟨ts[i].text,by simp_all,rfl,?_⟩
     rw[qW]
     rfl)
 rintro r H1 ⟨h,rfl,rfl⟩;refine kW ?_;exact⟨91,by unfold G9;rw[MG ts i h],rfl,rfl⟩
section
variable {α β:Type}{ts:List Go.Av.Net.Tok}{len i:Nat}{v:V6}
def LZ(f:Nat)(args:List AV)(ts:List Go.Av.Net.Tok)(len i:Nat)(q:PR β)(enc:β->AV):Prop:=
 ∀v:V6,Bq Pg f args (L7 ts len i v) (λr H=>∃a j,q=.ok a j/\j<=ts.length/\r=enc a/\H=L7 ts len j v) (λx H=>∃e k j,q=.fail e k/\k<=ts.length/\x=Db ts len e k/\H=L7 ts len j v)
variable {E:List AV}{H:List HO}{g:Nat}{args:List AV}{q:PR β}{p:PR α}{f:β->Nat->PR α}{enc:β->AV}{K:AV->KK}{X:XX}{A B C D E' F:AV}
theorem ZaM{R:β->Nat->Prop}{R2:Int->Nat->Nat->Prop}(h:LZ g args ts len i q enc)(hw:∀c,AR (Dg 4 c) args=true)
  (hl:H[4]?=some (.cells [.sl 3 (BB ts),.int .i64 i,.int .i64 len,A,B,C,D,E',F]))
  (hX:∀(j:Nat) e k,q=.fail e k->k<=ts.length->Dn H 4 (.cells [.sl 3 (BB ts),.int .i64 j,.int .i64 len,A,B,C,D,E',F]) λH'=>X (.panic (Db ts len e k)) E H')
  (hk:∀a (j:Nat),q=.ok a j->j<=ts.length->Dn H 4 (.cells [.sl 3 (BB ts),.int .i64 j,.int .i64 len,A,B,C,D,E',F]) λH'=>K (enc a) E H'):Ah Pg g args E H K X:=by
 have h9:∀vs:List Value,vs.length=9->∃x y z,∃v:V6,vs=[x,y,z,v.a,v.b,v.c,v.d,v.e,v.f]:=by
  intro vs EA
  match vs,EA with
  |[x,y,z,a,b,c,d,e,f],_=>exact⟨x,y,z,⟨a,b,c,d,e,f⟩,rfl⟩
 refine Ah.bV (l:=4) [false,false,false,true,true,true,true,true,true] (R:=λvs r H1=>∃a j,q=.ok a j/\j<=ts.length/\r=enc a/\∃x y z,∃v:V6,vs=[x,y,z,v.a,v.b,v.c,v.d,v.e,v.f]/\H1=L7 ts len j v)
  (X':=λvs r H1=>∃e k j,q=.fail e k/\k<=ts.length/\r=Db ts len e k/\∃x y z,∃v:V6,vs=[x,y,z,v.a,v.b,v.c,v.d,v.e,v.f]/\H1=L7 ts len j v) hl rfl ?_ hw ?_ ?_ ?_
 ·intro vs EA;obtain⟨x,y,z,v,rfl⟩:=h9 vs EA
  exact⟨(h v).D7,λC mu w us h1 h2 h3=>((h v).out C mu w us h1 h2 h3).mono λe w' ⟨r,u,H1,C',mu',ho,rest⟩=>
   ⟨r,u,H1,C',mu',ho.imp (λ⟨q1,a,j,q2,q3,q4,q5⟩=>⟨q1,a,j,q2,q3,q4,x,y,z,v,rfl,q5⟩) (λ⟨q1,e,k,j,q2,q3,q4,q5⟩=>⟨q1,e,k,j,q2,q3,q4,x,y,z,v,rfl,q5⟩),rest⟩⟩
 intro vs EA;obtain⟨x,y,z,v,rfl⟩:=h9 vs EA;rfl;·rintro vs r H1 EA ⟨a,j,q1,q2,rfl,x,y,z,v,rfl,rfl⟩;exact⟨[.sl 3 (BB ts),.int .i64 j,.int .i64 len,A,B,C,D,E',F],rfl,rfl,hk a j q1 q2⟩
 rintro vs r H1 EA ⟨e,k,j,q1,q2,rfl,x,y,z,v,rfl,rfl⟩;exact⟨[.sl 3 (BB ts),.int .i64 j,.int .i64 len,A,B,C,D,E',F],rfl,rfl,hX j e k q1 q2⟩
theorem _root_.Go.Av.Ah.Cr(h:LZ g args ts len i q enc)(hp:p=q.bind f)(hw:∀c,AR (Dg 4 c) args=true)
  (hl:H[4]?=some (.cells [.sl 3 (BB ts),.int .i64 i,.int .i64 len,A,B,C,D,E',F]))
  (hX:∀(j:Nat) e k,p=.fail e k->k<=ts.length->Dn H 4 (.cells [.sl 3 (BB ts),.int .i64 j,.int .i64 len,A,B,C,D,E',F]) λH'=>X (.panic (Db ts len e k)) E H')
  (hk:∀a (j:Nat),q=.ok a j->p=f a j->j<=ts.length->Dn H 4 (.cells [.sl 3 (BB ts),.int .i64 j,.int .i64 len,A,B,C,D,E',F]) λH'=>K (enc a) E H'):Ah Pg g args E H K X:=
 ZaM (R:=λ_ _=>True) (R2:=λ_ _ _=>True) h hw hl (λj e k h1 h2=>hX j e k (by rw[hp,h1];rfl) h2) (λa j h1 h2=>hk a j h1 (by rw[hp,h1];rfl) h2)
theorem _root_.Go.Av.Ah.PB{b:β}(h:LZ g args ts len i (.ok b i) enc)(hw:∀c,AR (Dg 4 c) args=true)
  (hl:H[4]?=some (.cells [.sl 3 (BB ts),.int .i64 i,.int .i64 len,A,B,C,D,E',F]))
  (hk:Dn H 4 (.cells [.sl 3 (BB ts),.int .i64 i,.int .i64 len,A,B,C,D,E',F]) λH'=>K (enc b) E H'):Ah Pg g args E H K X:=
 ZaM (R:=λ_ _=>True) (R2:=λ_ _ _=>True) h hw hl (λj e k h1 h2=>by cases h1) (λa j h1 h2=>by cases h1;exact hk)
end
theorem _root_.Go.Av.Bq.Jw{f:Nat}{args:List AV}{H0:List HO}{R R' X X':AV->List HO->Prop}(h:Bq P f args H0 R X)(hR:∀r H,R r H->R' r H)(hX:∀r H,X r H->X' r H):Bq P f args H0 R' X':=
 ⟨h.D7,λC mu w vs h1 h2 h3=>(h.out C mu w vs h1 h2 h3).mono λe w' ⟨r,v,H1,C',mu',ho,rest⟩=>
  ⟨r,v,H1,C',mu',ho.imp (λh=>⟨h.1,hR _ _ h.2⟩) (λh=>⟨h.1,hX _ _ h.2⟩),rest⟩⟩
theorem Lp(ts:List Go.Av.Net.Tok)(k:Int)(x:Bs)(i:Nat):AD (BE ts) k x i=if AW (BE ts) k x i=true then .ok () (i+1)else .fail (if i<ts.length then 90 else 91) i:=by
 unfold AD S5;cases AW (BE ts) k x i with
 |true=>rfl
 |false=>
  simp only[cond_false,Cc,if_false];by_cases h:i<ts.length;rw[QZ ts i h,if_pos h];rw[MG ts i (by omega),if_neg h]
theorem Jn{ts:List Go.Av.Net.Tok}{x:Bs}{i:Nat}(h:AW (BE ts) k x i=true):i<ts.length:=by
 rcases Cb i ts.length with h'|h';exact h';rw[SL ts k x i h']at h;cases h
section
variable (ts:List Go.Av.Net.Tok)(len i:Nat)(x:Bs)(hl:ts.length<=3000)(hi:i<=ts.length)
include hl hi
theorem FT:LZ 96 [.ptr 4 0,.str x] ts len i (AD (BE ts) 1 x i) (λ_=>.tuple []):=by
 refine λv=>(rR ts len i v x hl hi).Jw (λr H ⟨h0,h,h'⟩=>?_) (λr H ⟨h,h',h2⟩=>?_);exact⟨(),i+1,by rw[Lp,if_pos h],Jn h,h0,h'⟩;exact⟨_,i,i,by rw[Lp,if_neg (by simp[h])],hi,h',h2⟩
theorem CE:LZ 98 [.ptr 4 0,.str x] ts len i (AD (BE ts) 3 x i) (λ_=>.tuple []):=by
 refine λv=>(Z9 ts len i v x hl hi).Jw (λr H ⟨h0,h,h'⟩=>?_) (λr H ⟨h,h',h2⟩=>?_);exact⟨(),i+1,by rw[Lp,if_pos h],Jn h,h0,h'⟩;exact⟨_,i,i,by rw[Lp,if_neg (by simp[h])],hi,h',h2⟩
theorem UU:LZ 95 [.ptr 4 0,.str x] ts len i (.ok (AW (BE ts) 1 x i) i) .bool:=
 λv=>(ZbR ts len i v x hl hi).Jw (λr H ⟨b,h,h',h2⟩=>⟨_,i,rfl,hi,by rw[h,h'],h2⟩) (λr H h=>h.elim)
theorem Sb:LZ 107 [.ptr 4 0,.str x] ts len i (.ok (AW (BE ts) 3 x i) i) .bool:=
 λv=>(UW ts len i v x hl hi).Jw (λr H ⟨b,h,h',h2⟩=>⟨_,i,rfl,hi,by rw[h,h'],h2⟩) (λr H h=>h.elim)
theorem Zc7:LZ 52 [.ptr 4 0] ts len i (.fail (if i<ts.length then 90 else 91) i:PR Unit) (λ_=>.tuple []):=
 λv=>(EX ts len i v hl hi).Jw (λr H h=>h.elim) (λr H ⟨h,h'⟩=>⟨_,i,i,rfl,hi,h,h'⟩)
end
def Pv(ts:List Go.Av.Net.Tok)(i:Nat):PR Go.Av.Net.Tok:=match ts[i]? with|some t=>.ok t i|none=>.fail 91 i
theorem ZaB(ts:List Go.Av.Net.Tok)(len i:Nat)(hl:ts.length<=3000)(hi:i<=ts.length):LZ 110 [.ptr 4 0] ts len i (Pv ts i) Qv:=by
 refine λv=>(J9 ts len i v hl hi).Jw (λr H ⟨h,h0,h'⟩=>?_) (λr H ⟨h,h',h2⟩=>?_);exact⟨ts[i],i,by unfold Pv;rw[A0 h],hi,h0,h'⟩;exact⟨_,i,i,by unfold Pv;rw[A3 h],hi,h',h2⟩
theorem _root_.Go.Av.Ah.Mw{α:Type}(ts:List Go.Av.Net.Tok)(len i:Nat)(hl:ts.length<=3000)(hi:i<=ts.length){p:PR α}(hp:p=.fail (if i<ts.length then 90 else 91) i){E:List AV}{H:List HO}{K:AV->KK}{X:XX}{A B C D E' F:AV}
  (h4:H[4]?=some (.cells [.sl 3 (BB ts),.int .i64 i,.int .i64 len,A,B,C,D,E',F]))
  (hX:∀(j:Nat) e k,p=.fail e k->k<=ts.length->Dn H 4 (.cells [.sl 3 (BB ts),.int .i64 j,.int .i64 len,A,B,C,D,E',F]) λH'=>X (.panic (Db ts len e k)) E H'):Ah Pg 52 [.ptr 4 0] E H K X:=
 ZaM (R:=λ_ _=>True) (R2:=λ_ _ _=>True) (Zc7 ts len i hl hi) (λ_=>rfl) h4 (λj e k h1 h2=>by cases h1;exact hX j _ _ hp h2) (λa j h1 h2=>by cases h1)
def ZfX(t:Go.Av.Net.Tok):Prop:=t.text.length<=8000/\(t.kind=2->1<=t.text.length/\t.text.length<=8/\∀b∈t.text,DG b=true)
structure Lz(ts:List Go.Av.Net.Tok):Prop where
 len:ts.length<=3000
 tok:∀t∈ts,ZfX t
theorem ZaZ{ts:List Go.Av.Net.Tok}{i:Nat}{x:Bs}(h:E8 (BE ts) i=.ok x j):i<ts.length:=by
 rcases Cb i ts.length with h'|h';exact h';unfold E8 at h;rw[MG ts i h']at h;cases h
theorem Zcu{ts:List Go.Av.Net.Tok}{i:Nat}{x:Bs}(h:G9 (BE ts) i=.ok x j):i<ts.length:=by
 rcases Cb i ts.length with h'|h';exact h';unfold G9 at h;rw[MG ts i h']at h;cases h
section
variable (ts:List Go.Av.Net.Tok)(len i:Nat)(ht:Lz ts)(hi:i<=ts.length)
include ht hi
theorem MA:LZ 97 [.ptr 4 0] ts len i (E8 (BE ts) i) .str:=
 λv=>(tY ts len i v ht.len hi (λt h=>(ht.tok t h).1)).Jw (λr H ⟨x,h,h',h2⟩=>⟨x,i+1,h,ZaZ h,h',h2⟩) (λr H ⟨e,h,h',h2⟩=>⟨e,i,i,h,hi,h',h2⟩)
theorem Zct:LZ 106 [.ptr 4 0] ts len i (G9 (BE ts) i) .str:=
 λv=>(wX ts len i v ht.len hi (λt h=>(ht.tok t h).1)).Jw (λr H ⟨x,h,h',h2⟩=>⟨x,i+1,h,Zcu h,h',h2⟩) (λr H ⟨e,h,h',h2⟩=>⟨e,i,i,h,hi,h',h2⟩)
end
theorem Si{b:UInt8}(h:DG b=true):Lib.digitVal b=some (b.toNat-48)/\48<=b.toNat/\b.toNat<=57:=by
 unfold DG at h;simp only[CL,decide_eq_true_eq]at h;unfold Lib.digitVal;rw[if_pos h];exact⟨rfl,h⟩
theorem OS:∀(l:Bs)(acc k:Nat),(∀b∈l,DG b=true)->acc<10^k->∃m:Nat,Lib.decFrom acc l=some m/\(m:Int)=l.foldl (λn b=>10*n+((b.toNat:Int)-48)) (acc:Int)/\m<10^(k+l.length)
 |[],acc,k,_,h=>⟨acc,rfl,rfl,by simpa using h⟩
 |b::l,acc,k,hd,h=>by obtain⟨h1,h2,h3⟩:=Si (hd b (by simp));obtain⟨m,k1,k2,k3⟩:=OS l (acc*10+(b.toNat-48)) (k+1) (λx hx=>hd x (by simp[hx])) (by rw[Nat.pow_succ];omega);refine⟨m,by rw[Lib.decFrom,h1];exact k1,?_,by rw[A4,show k+(l.length+1)=k+1+l.length by omega];exact k3⟩;rw[k2,List.foldl_cons];congr 1;omega
theorem Ze3(s:Bs)(h1:1<=s.length)(hd:∀b∈s,DG b=true):Lib.atoi s=some (Vg s):=by
 obtain⟨m,k1,k2,k3⟩:=OS s 0 0 hd (by simp);cases s with
 |nil=>simp at h1
 |cons b r=>
  obtain⟨_,h2,h3⟩:=Si (hd b (by simp));have e1:(b == 45)=false:=by rw[beq_eq_false_iff_ne];rintro rfl;simp at h2
  have e2:(b == 43)=false:=by rw[beq_eq_false_iff_ne];rintro rfl;simp at h2
  show(if (b == 45)=true then _ else if (b == 43)=true then _ else (Lib.decNat (b::r)).map λ(m:Nat)=>(m:Int))=_;rw[e1,e2];simp only[Cc,if_false,Lib.decNat,List.isEmpty_cons,k1,Option.map_some];rw[k2];rfl
theorem Vf(s:Bs)(h8:s.length<=8)(hd:∀b∈s,DG b=true):0<=Vg s/\Vg s<100000000:=by
 obtain⟨m,k1,k2,k3⟩:=OS s 0 0 hd (by simp);have:(10:Nat)^(0+s.length)<=10^8:=Nat.pow_le_pow_right (by omega) (by omega);have e:Vg s=(m:Int):=by rw[k2];rfl
 rw[e];omega
open Go.RowKit in
theorem bytesWorld_below(w:World)(e:TypeId)(s:ByteArray):Below w.heap.size w (Lib.bytesWorld w e s):=
 ⟨rfl,rfl,rfl,by rw[Lib.bytesWorld_size];omega,λk hk=>Lib.bytesWorld_at_old w e s k (by omega)⟩
theorem Gm(s:Bs)(h1:1<=s.length)(h8:s.length<=8)(hd:∀b∈s,DG b=true):Au Pg 27 [.str s] (λr=>r=.tuple [.int .i64 (Vg s),.raw .nilIface]):=by
 refine⟨by kernel_rfl,λC w vs AA hr=>?_⟩;unfold Ac at hr;obtain⟨v,CJ,rfl,h2,hr⟩:=hr;unfold Ac at hr;subst hr;unfold Aj at h2;obtain⟨rfl,_⟩:=h2;refine(Tryz.strconv_Atoi ⟨s.toArray⟩ (Vg s) (by show s.toArray.size<=18;rw[List.size_toArray];omega) (by simpa using Ze3 s h1 hd) w).mono λe w' ⟨h3,t,h4⟩=>?_;subst h4;have hr:=Vf s h8 hd;refine⟨_,_,h3,rfl,bytesWorld_below _ _ _,?_⟩;unfold Aj;refine⟨_,rfl,?_⟩;unfold Ac;refine⟨_,_,rfl,?_,?_⟩;unfold Aj;exact⟨rfl,MI.2 (by omega)⟩;unfold Ac;refine⟨_,_,rfl,?_,?_⟩;unfold Aj;rfl;unfold Ac;rfl
theorem oL{ts:List Go.Av.Net.Tok}{i:Nat}{t:Go.Av.Net.Tok}(h:Pv ts i=.ok t j):∃h:i<ts.length,t=ts[i]/\j=i:=by
 unfold Pv at h;rcases Cb i ts.length with h'|h';rw[A0 h']at h;cases h;exact⟨h',rfl,rfl⟩;rw[A3 h']at h;cases h
theorem YD(ts:List Go.Av.Net.Tok)(i:Nat):Ca (BE ts) i=(Pv ts i).bind λt i=>bif decide (t.kind=2)then .ok (Vg t.text) (i+1)else .fail 90 i:=by
 unfold Ca Pv;rcases Cb i ts.length with h'|h';rw[QZ ts i h',A0 h'];rfl;rw[MG ts i h',A3 h'];rfl
theorem Kb(ts:List Go.Av.Net.Tok)(len i:Nat) (ht:Lz ts)(hi:i<=ts.length):LZ 109 [.ptr 4 0] ts len i (Ca (BE ts) i) (.int .i64):=by
 have hl:=ht.len;intro v;generalize hp:Ca (BE ts) i=p;replace hp:=hp.symm;refine Bq.Ak func109 rfl Ab (by kernel_rfl) rfl ?_;refine kW ?_;rw[YD]at hp;refine Ah.Cr (ZaB ts len i hl hi) hp (λ_=>rfl) rfl (λj e k h hk=>qP h hk) (λt i hq hp hi=>?_);refine kW ?_;obtain⟨h,rfl,rfl⟩:=oL hq;obtain⟨_,h2⟩:=ht.tok _ (A2 h);constructor<;>intro hk
 ·exact YaI
 refine kR ?_;have hk:ts[i].kind=2:=by simpa using hk
 obtain⟨h1,h8,hd⟩:=h2 hk;refine kC (Gm _ h1 h8 hd) ?_;rw[hk]at hp;refine⟨_,_,hp,h,rfl,?_⟩;rw[qW];rfl
theorem P6(ts:List Go.Av.Net.Tok)(len i:Nat) (w:Bs)(ht:Lz ts)(hi:i<=ts.length):LZ 105 [.ptr 4 0,.str w] ts len i (Gb (BE ts) w i) (.int .i64):=by
 have hl:=ht.len;intro v;generalize hp:Gb (BE ts) w i=p;replace hp:=hp.symm;unfold Gb at hp;refine Bq.Ak func105 rfl Ab (by kernel_rfl) rfl ?_;refine kW ?_;refine Ah.Cr (FT ts len i w hl hi) hp (λ_=>rfl) rfl (λj e k h hk=>qP h hk) (λ_ i hq hp hi=>?_);refine kW ?_;refine Ah.Cr (Kb ts len i ht hi) hp (λ_=>rfl) rfl (λj e k h hk=>qP h hk) (λx i hq hp hi=>?_);refine kW ?_;refine Ah.Cr (CE ts len i Aw hl hi) hp (λ_=>rfl) rfl (λj e k h hk=>qP h hk) (λ_ i hq hp hi=>?_);refine kW ?_;exact⟨_,_,hp,hi,rfl,rfl⟩
theorem eM{ts:List KT}{x:Bs}{i:Nat}(h:AW ts k x i=true):AD ts k x i=.ok () (i+1):=by unfold AD;rw[h];rfl
theorem eN{α:Type}{ts:List KT}{x:Bs}{i:Nat}{f:Nat->PR α}(h:AW ts k x i=true):f (i+1)=(AD ts k x i).bind λ_ i=>f i:=by rw[eM h];rfl
theorem PR.bind_assoc{α β γ:Type}(x:PR α)(f:α->Nat->PR β)(g:β->Nat->PR γ):(x.bind f).bind g=x.bind λa i=>(f a i).bind g:=by cases x<;>rfl
theorem PR.En{α β:Type}(a:α)(i:Nat)(f:α->Nat->PR β):(PR.ok a i).bind f=f a i:=rfl
theorem Bd{ts:List KT}{x:Bs}{i:Nat}{a:Unit}(h:AD ts k x i=.ok a j):j=i+1:=by
 unfold AD S5 at h;cases hs:AW ts k x i with
 |true=>rw[hs]at h;cases h;rfl
 |false=>rw[hs]at h;simp only[cond_false]at h;split at h<;>cases h
theorem JN{ts:List KT}{x:Bs}{i:Nat}(h:E8 ts i=.ok x j):j=i+1:=by
 unfold E8 at h;split at h;cases h;rename_i t _;cases hs:(decide (t.1=1)&&An t.2)with
 |true=>rw[hs]at h;cases h;rfl
 |false=>rw[hs]at h;cases h
theorem IM{ts:List KT}{x:Int}{i:Nat}(h:Ca ts i=.ok x j):j=i+1:=by
 unfold Ca at h;split at h;cases h;rename_i t _;cases hs:decide (t.1=2)with
 |true=>rw[hs]at h;cases h;rfl
 |false=>rw[hs]at h;cases h
theorem PD{ts:List Go.Av.Net.Tok}(ht:Lz ts){x:Int}{i:Nat}(h:Ca (BE ts) i=.ok x j):0<=x/\x<100000000:=by
 unfold Ca at h;rcases Cb i ts.length with hi|hi
 ·rw[QZ ts i hi]at h;simp only at h;cases hs:decide (ts[i].kind=2)with
  |true=>
   rw[hs]at h;cases h;obtain⟨_,h2⟩:=ht.tok _ (A2 hi);obtain⟨_,h8,hd⟩:=h2 (by simpa using hs);exact Vf _ h8 hd
  |false=>rw[hs]at h;cases h
 rw[MG ts i hi]at h;cases h
theorem Zfq(ts:List Go.Av.Net.Tok)(len i:Nat) (ht:Lz ts)(hi:i<=ts.length):LZ 99 [.ptr 4 0] ts len i (NQ (BE ts) i) (.int .i64):=by
 have hl:=ht.len;intro v;generalize hp:NQ (BE ts) i=p;replace hp:=hp.symm;unfold NQ at hp;refine Bq.Ak func99 rfl Ab (by kernel_rfl) rfl ?_;refine kW ?_;refine Ah.PB (Sb ts len i Fl hl hi) (λ_=>rfl) rfl ?_;refine kW ?_;constructor<;>intro hs;rw[hs,cond_true]at hp;replace hp:=hp.trans (eN (f:=λj=>(Ca (BE ts) j).bind λn i=>PR.ok (-n) i) hs);refine kR ?_;refine Ah.Cr (CE ts len i Fl hl hi) hp (λ_=>rfl) rfl (λj e k h hk=>qP h hk) (λ_ i hq hp hi=>?_);refine kW ?_;refine Ah.Cr (Kb ts len i ht hi) hp (λ_=>rfl) rfl (λj e k h hk=>qP h hk) (λx i hq hp hi=>?_);refine kW ?_;have hr:=PD ht hq;rw[qW,Int.zero_sub];exact⟨_,_,hp,hi,rfl,rfl⟩;rw[hs,cond_false]at hp;replace hp:p=(Ca (BE ts) i).bind λn i=>PR.ok n i:=by rw[hp];cases Ca (BE ts) i<;>rfl
 refine kR ?_;refine Ah.Cr (Kb ts len i ht hi) hp (λ_=>rfl) rfl (λj e k h hk=>qP h hk) (λx i hq hp hi=>?_);refine kW ?_;exact⟨_,_,hp,hi,rfl,rfl⟩
def C6:AV:=.raw (.slice none 0 0)
theorem bN(ts:List Go.Av.Net.Tok)(len i:Nat)(n:Nw)(v:V6)(ht:Lz ts)(hi:i<=ts.length)(hn:n.opers=[]):
  Bq Pg 48 [.ptr 4 0] (PQ ts len i (.raw v.a) (.raw v.b) C6 (.raw v.d) (.raw v.e) (.raw v.f))
   (λr H=>∃n' j,EM (BE ts) ts.length n i=.ok n' j/\j<=ts.length/\r=.tuple []/\H=PQ ts len j (.raw v.a) (.raw v.b) (.sl 1 (n'.opers.map BP)) (.raw v.d) (.raw v.e) (.raw v.f))
   (λx H=>∃e k j l,EM (BE ts) ts.length n i=.fail e k/\k<=ts.length/\x=Db ts len e k/\H=PQ ts len j (.raw v.a) (.raw v.b) l (.raw v.d) (.raw v.e) (.raw v.f)):=by
 have hl:=ht.len;generalize hp:EM (BE ts) ts.length n i=p;replace hp:=hp.symm;refine Bq.Ak func48 rfl Ab (by kernel_rfl) rfl ?_;refine kW ?_;refine Aa.Eb 4 5 86 1 rfl rfl ?_
 refine Aa.Ar (λx:Nat×Nat×Nw=>mk 24 [(0,.ptr 4 0)]) (λx=>PQ ts len x.2.1 (.raw v.a) (.raw v.b) (.own 5 1 0 x.2.2.opers.length) (.raw v.d) (.raw v.e) (.raw v.f)++[.arr 86 1 (x.2.2.opers.map BP)])
  (λx=>p=EM (BE ts) x.1 x.2.2 x.2.1/\x.2.1<=ts.length/\ts.length<=x.2.1+x.1/\x.2.2.opers.length<=x.2.1) (λx=>x.1)
  (λx hx=>⟨rfl,?_⟩) ⟨(ts.length,i,n),?_⟩ (λ_=>rfl) λx hx=>?_
 ·exact YaC
 ·exact YaJ
 obtain⟨f,i,n⟩:=x;obtain⟨hp,hi,hf,hn⟩:=hx;simp only at hp hi hf hn;refine kR ?_;refine Ah.PB (UU ts len i AO hl hi) (λ_=>rfl) rfl ?_;refine kW ?_;constructor<;>intro hs
 ·have AA:=Jn hs;obtain⟨f,rfl⟩:∃g,f=g+1:=⟨f-1,by omega⟩;unfold EM PA at hp;rw[hs,cond_true]at hp;simp only[PR.bind_assoc,PR.En]at hp;refine kR ?_;refine Ah.Cr (FT ts len i AO hl hi) hp (λ_=>rfl) rfl (λj e k h hk=>qP h hk) (λ_ i1 hq hp hi=>?_);refine kW ?_;have e1:=Bd hq;refine Ah.Cr (MA ts len i1 ht hi) hp (λ_=>rfl) rfl (λj e k h hk=>qP h hk) (λx i2 hq hp hi=>?_);refine kW ?_;have e2:=JN hq;refine Ah.Cr (CE ts len i2 Aw hl hi) hp (λ_=>rfl) rfl (λj e k h hk=>qP h hk) (λ_ i3 hq hp hi=>?_);refine kW ?_;have e3:=Bd hq;refine⟨rfl,?_⟩;conv=>whnf
  refine⟨⟨by simp,by simp;omega⟩,?_⟩;conv=>whnf
  refine kR ?_;refine⟨(f,i3,{n with opers:=n.opers++[x]}),?_⟩;conv=>whnf
  repeat(refine Ai ?_ ?_;(focus (first|rfl|(simp;done)|(simp[BP];done)));conv=>whnf)
  exact⟨⟨hp,hi,by simp only;omega,by simp;omega⟩,by simp⟩
 have hp:p=.ok n i:=by rw[hp];cases f<;>simp[EM,hs]
 refine kR ?_;exact YaE
theorem gU(ts:List Go.Av.Net.Tok)(i:Nat):J0 (BE ts) i=(Pv ts i).bind λt i=>bif decide (t.kind=2)&&HA t.text then .ok (t.text.map λb=>decide (b.toNat=49)) (i+1)else .fail 90 i:=by
 unfold J0 Pv;rcases Cb i ts.length with h'|h';rw[QZ ts i h',A0 h'];rfl;rw[MG ts i h',A3 h'];rfl
theorem Zf8(ts:List Go.Av.Net.Tok)(len i:Nat) (ht:Lz ts)(hi:i<=ts.length):LZ 100 [.ptr 4 0] ts len i (J0 (BE ts) i) (λl=>.sl 1 (l.map .bool)):=by
 have hl:=ht.len;intro v;generalize hp:J0 (BE ts) i=p;replace hp:=hp.symm;refine Bq.Ak func100 rfl Ab (by kernel_rfl) rfl ?_;refine kW ?_;rw[gU]at hp;refine Ah.Cr (ZaB ts len i hl hi) hp (λ_=>rfl) rfl (λj e k h hk=>qP h hk) (λt i hq hp hi=>?_);refine kW ?_;obtain⟨h,rfl,rfl⟩:=oL hq;constructor<;>intro hk
 ·have hk:ts[i].kind=2:=by simpa using hk
  refine kR ?_;constructor<;>intro h7;·(have h7:¬ts[i].text.length=7:=by simp at h7;omega);refine kR ?_;refine Ah.Mw (p:=p) ts len i hl (by omega) (by rw[if_pos h,hp];simp[HA,h7]) rfl (λj e k h hk=>?_);(conv=>whnf);exact⟨_,_,_,h,hk,rfl,rfl⟩
  have h7:ts[i].text.length=7:=by simp at h7;omega
  refine kR ?_;refine⟨by decide,?_⟩;conv=>whnf
  refine kR ?_;have hw:HA ts[i].text=ts[i].text.all (λb=>decide (b.toNat=48)||decide (b.toNat=49)):=by simp[HA,h7]
  rw[hk]at hp;simp only[decide_true,Dy,hw]at hp;generalize hx:ts[i].text=x at*
  refine Aa.Ar (λk:Nat=>mk 51 [(0,.ptr 4 0),(4,.own 6 1 0 k),(23,.sl 1 (Gt x)),(24,.int .i64 (Gt x).length),(25,.int .i64 k)])
   (λk=>L7 ts len i v++[.cells [.int .i64 ts[i].kind,.str x,.int .i64 ts[i].pos],.arr 4 1 ((x.take k).map λb=>.bool (decide (b.toNat=49)))])
   (λk=>k<=7/\(x.all (λb=>decide (b.toNat=48)||decide (b.toNat=49)))=(x.drop k).all (λb=>decide (b.toNat=48)||decide (b.toNat=49))) (λk=>7-k) (λk hk=>⟨rfl,?_⟩) ⟨0,?_⟩ (λ_=>rfl) λk hk=>?_
  ·(conv=>whnf);refine⟨rfl,?_⟩;(conv=>whnf);refine⟨rfl,?_⟩;(conv=>whnf);refine⟨Ad _ (λ_=>rfl) _,?_⟩;trivial
  refine kQ ?_;rfl;obtain⟨hk7,he⟩:=hk;refine kR ?_;refine⟨λAA=>?_,λET=>?_⟩
  ·(have AA:k<x.length:=by simpa using AA);rw[HR _ x k AA]at he;refine kR ?_;refine⟨by omega,.int .u8 x[k].toNat,I6 _ _ AA,?_⟩;(conv=>whnf);refine kR ?_
   repeat' (first|(refine Ai (λ_=>?_) (λ_=>?_)<;>conv=>whnf)|refine Ql ?_|fail)
   all_goals first
    |(rename_i q1 q2
      have q1:¬x[k].toNat=48:=λq=>by simp[q]at q1
      have q2:¬x[k].toNat=49:=λq=>by simp[q]at q2
      rw[he,decide_eq_false q1,decide_eq_false q2]at hp
      refine Ah.Mw (p:=p) ts len i hl (by omega) (by rw[if_pos h];exact hp) rfl (λj e k h hk=>?_)
      · conv=>whnf
        exact⟨_,_,_,h,hk,rfl,rfl⟩
      done)
    |(have e1:(List.map (λb=>AV.bool (decide (b.toNat=49))) (List.take k x)++[AV.bool (decide ((x[k].toNat:Int)=49))])=List.map (λb=>AV.bool (decide (b.toNat=49))) (List.take (k+1) x):=by
         rw[A6 AA,List.map_append];congr 3
         rw[decide_eq_decide];omega
      have e2:decide (x[k].toNat=48)=true\/decide (x[k].toNat=49)=true:=by
         rename_i q;by_cases q1:x[k].toNat=48
         · exact .inl (decide_eq_true q1)
         refine .inr (decide_eq_true ?_);simp at q
         omega
      have e3:(decide (x[k].toNat=48)||decide (x[k].toNat=49))=true:=by rcases e2 with e|e<;>simp[e]
      rw[e3,Dy]at he
      refine⟨rfl,?_⟩
      conv=>whnf
      refine⟨⟨by simp;omega,by simp;omega⟩,?_⟩
      conv=>whnf
      refine kR ?_
      rw[e1]
      refine⟨k+1,?_⟩
      conv=>whnf
      repeat(refine Ai ?_ ?_;(focus (first|rfl|(simp;done)|((first|(rw[qW];omega)|(simp;omega));done)));conv=>whnf)
      exact⟨⟨by omega,he⟩,by omega⟩)
  have ET:x.length<=k:=by simp at ET;omega
  have:k=x.length:=by omega
  subst this;refine kR ?_;refine⟨⟨by simp,Ad _ (λ_=>rfl) _⟩,?_⟩;conv=>whnf
  rw[he,C2]at hp;refine⟨_,_,hp,h,?_,?_⟩;rw[C3];show _=AV.sl 1 (List.map AV.bool (List.map _ x));rw[List.map_map];rfl;rw[qW];rfl
 exact YaI
theorem VR(x:Bs):Au Pg 102 [.agg [.str x]] (λr=>r=.str x):=by
 exact kBe func102 rfl
theorem VW(x:Bs):Au Pg 104 [.str x] (λr=>r=.str x):=by
 exact kBe func104 rfl
theorem Yz(o:xQ):Au Pg 140 [Dq o] (λr=>r=.str o.name):=by
 exact kBe func140 rfl
theorem UF(x y:Bs)(l:List Bs)(k:Nat)(h:k<l.length):(idxOf x (l.drop k)).map (·+k)=bif decide (l[k]=x)then some k else (idxOf x (l.drop (k+1))).map (·+(k+1)):=by
 rw[Ax h];rw[show idxOf x (l[k]::l.drop (k+1))=bif decide (l[k]=x)then some 0 else (idxOf x (l.drop (k+1))).map (·+1)from rfl];by_cases e:l[k]=x;simp[e];rw[decide_eq_false e,cond_false,cond_false,Option.map_map];congr 1
 funext a
 simp only[Function.comp];omega
theorem YV(x:Bs)(l:List Bs):(idxOf x (l.drop l.length)).map (·+l.length)=none:=by
 rw[C2];rfl
theorem sZ(ts:List Go.Av.Net.Tok)(len i:Nat)(l:List Bs)(ht:Lz ts)(hi:i<=ts.length)(hn:l.length<=3000):LZ 101 [.ptr 4 0,.sl 1 (l.map BP),.fn 102 []] ts len i (FY (BE ts) l i) (λk=>.int .i64 k):=by
 have hl:=ht.len;intro v;generalize hp:FY (BE ts) l i=p;replace hp:=hp.symm;unfold FY at hp;refine Bq.Ak func101 rfl Ab (by kernel_rfl) rfl ?_;refine kW ?_;refine Ah.Cr (MA ts len i ht hi) hp (λ_=>rfl) rfl (λj e k h hk=>qP h hk) (λx j hq hp hi=>?_);refine kW ?_;have hj:=JN hq
 refine Aa.Ar (λk:Nat=>mk 40 [(0,.ptr 4 0),(2,.fn 102 []),(6,.int .i64 0),(7,.str x),(12,.sl 1 (l.map BP)),(13,.int .i64 (l.map BP).length),(14,.int .i64 k)]) (λ_=>L7 ts len j v)
  (λk=>k<=l.length/\idxOf x l=(idxOf x (l.drop k)).map (·+k)) (λk=>l.length-k) (λk hk=>⟨rfl,?_⟩) ⟨0,?_⟩ (λ_=>rfl) λk hk=>?_
 ·(conv=>whnf);exact⟨rfl,trivial⟩
 refine kQ ?_;simp;obtain⟨Jb,he⟩:=hk;refine kR ?_;refine⟨λAA=>?_,λET=>?_⟩
 ·have AA:k<l.length:=by simpa using AA
  rw[UF x x l k AA]at he;refine kR ?_;refine⟨by omega,BP l[k],by simp[AA],?_⟩;conv=>whnf
  refine kR ?_;refine kC (VR l[k]) ?_;exact YaF
 exact YaL
theorem tA(ts:List Go.Av.Net.Tok)(len i:Nat)(l:List Bs)(ht:Lz ts)(hi:i<=ts.length)(hn:l.length<=3000):LZ 103 [.ptr 4 0,.sl 1 (strs l),.fn 104 []] ts len i (FY (BE ts) l i) (λk=>.int .i64 k):=by
 have hl:=ht.len;intro v;generalize hp:FY (BE ts) l i=p;replace hp:=hp.symm;unfold FY at hp;refine Bq.Ak func103 rfl Ab (by kernel_rfl) rfl ?_;refine kW ?_;refine Ah.Cr (MA ts len i ht hi) hp (λ_=>rfl) rfl (λj e k h hk=>qP h hk) (λx j hq hp hi=>?_);refine kW ?_;have hj:=JN hq
 refine Aa.Ar (λk:Nat=>mk 40 [(0,.ptr 4 0),(2,.fn 104 []),(6,.int .i64 0),(7,.str x),(12,.sl 1 (strs l)),(13,.int .i64 (strs l).length),(14,.int .i64 k)]) (λ_=>L7 ts len j v)
  (λk=>k<=l.length/\idxOf x l=(idxOf x (l.drop k)).map (·+k)) (λk=>l.length-k) (λk hk=>⟨rfl,?_⟩) ⟨0,?_⟩ (λ_=>rfl) λk hk=>?_
 ·(conv=>whnf);exact⟨rfl,trivial⟩
 refine kQ ?_;simp;obtain⟨Jb,he⟩:=hk;refine kR ?_;refine⟨λAA=>?_,λET=>?_⟩
 ·have AA:k<l.length:=by simpa using AA
  rw[UF x x l k AA]at he;refine kR ?_;refine⟨by omega,.str l[k],CW _ _ AA,?_⟩;conv=>whnf
  refine kR ?_;refine kC (VW l[k]) ?_;exact YaF
 exact YaL
theorem Zao(ts:List Go.Av.Net.Tok)(len i:Nat)(l:List xQ)(ht:Lz ts)(hi:i<=ts.length)(hn:l.length<=3000):LZ 139 [.ptr 4 0,.sl 7 (l.map Dq),.fn 140 []] ts len i (FY (BE ts) (l.map (·.name)) i) (λk=>.int .i64 k):=by
 have hl:=ht.len;intro v;generalize hp:FY (BE ts) (l.map (·.name)) i=p;replace hp:=hp.symm;unfold FY at hp;refine Bq.Ak func139 rfl Ab (by kernel_rfl) rfl ?_;refine kW ?_;refine Ah.Cr (MA ts len i ht hi) hp (λ_=>rfl) rfl (λj e k h hk=>qP h hk) (λx j hq hp hi=>?_);refine kW ?_;have hj:=JN hq
 refine Aa.Ar (λk:Nat=>mk 40 [(0,.ptr 4 0),(2,.fn 140 []),(6,.int .i64 0),(7,.str x),(12,.sl 7 (l.map Dq)),(13,.int .i64 (l.map Dq).length),(14,.int .i64 k)]) (λ_=>L7 ts len j v)
  (λk=>k<=l.length/\idxOf x (l.map (·.name))=(idxOf x ((l.map (·.name)).drop k)).map (·+k)) (λk=>l.length-k) (λk hk=>⟨rfl,?_⟩) ⟨0,?_⟩ (λ_=>rfl) λk hk=>?_
 ·(conv=>whnf);exact⟨rfl,trivial⟩
 refine kQ ?_;simp;obtain⟨Jb,he⟩:=hk;refine kR ?_;refine⟨λAA=>?_,λET=>?_⟩
 ·have AA:k<l.length:=by simpa using AA
  rw[UF x x (l.map (·.name)) k (by simpa using AA),List.getElem_map]at he;refine kR ?_;refine⟨by omega,Dq l[k],by simp[AA],?_⟩;conv=>whnf
  refine kR ?_;refine kC (Yz l[k]) ?_;refine⟨λht=>?_,λhf=>?_⟩;·(have ht:l[k].name=x:=by simpa using ht);rw[he,decide_eq_true ht]at hp;refine kR ?_;exact⟨_,_,hp,hi,rfl,rfl⟩
  have hf:¬l[k].name=x:=by simpa using hf
  rw[decide_eq_false hf,cond_false]at he;refine kR ?_;refine⟨k+1,?_⟩;refine qG ?_;exact⟨⟨by omega,he⟩,by omega⟩
 have ET:l.length<=k:=by simp at ET;omega
 have:k=l.length:=by omega
 subst this;rw[he,show l.length=(l.map (·.name)).length by simp,YV]at hp;exact YaB
theorem KB{ts:List KT}{w:Bs}{i:Nat}{a:Int}(h:Gb ts w i=.ok a j):j=i+3:=by
 unfold Gb at h;cases h1:AD ts 1 w i with
 |fail e k=>rw[h1]at h;cases h
 |ok a1 i1=>
  rw[h1,PR.En]at h;cases h2:Ca ts i1 with
  |fail e k=>rw[h2]at h;cases h
  |ok a2 i2=>
   rw[h2,PR.En]at h;cases h3:AD ts 3 Aw i2 with
   |fail e k=>rw[h3]at h;cases h
   |ok a3 i3=>
    rw[h3,PR.En]at h;cases h;have:=Bd h1;have:=IM h2;have:=Bd h3;omega
theorem xA(ts:List Go.Av.Net.Tok)(len i:Nat)(n:Nw)(v:V6)(ht:Lz ts)(hi:i<=ts.length)(hn:n.Ao=[]):
  Bq Pg 51 [.ptr 4 0] (PQ ts len i (.raw v.a) (.raw v.b) (.raw v.c) (.raw v.d) (.raw v.e) C6)
   (λr H=>∃n' j,FN (BE ts) ts.length n i=.ok n' j/\j<=ts.length/\r=.tuple []/\H=PQ ts len j (.raw v.a) (.raw v.b) (.raw v.c) (.raw v.d) (.raw v.e) (.sl 3 (n'.Ao.map Ft)))
   (λx H=>∃e k j l,FN (BE ts) ts.length n i=.fail e k/\k<=ts.length/\x=Db ts len e k/\H=PQ ts len j (.raw v.a) (.raw v.b) (.raw v.c) (.raw v.d) (.raw v.e) l):=by
 have hl:=ht.len;generalize hp:FN (BE ts) ts.length n i=p;replace hp:=hp.symm;refine Bq.Ak func51 rfl Ab (by kernel_rfl) rfl ?_;refine kW ?_;refine Aa.Eb 4 8 98 3 rfl rfl ?_
 refine Aa.Ar (λx:Nat×Nat×Nw=>mk 32 [(0,.ptr 4 0)]) (λx=>PQ ts len x.2.1 (.raw v.a) (.raw v.b) (.raw v.c) (.raw v.d) (.raw v.e) (.own 5 3 0 x.2.2.Ao.length)++[.arr 98 3 (x.2.2.Ao.map Ft)])
  (λx=>p=FN (BE ts) x.1 x.2.2 x.2.1/\x.2.1<=ts.length/\ts.length<=x.2.1+x.1/\x.2.2.Ao.length<=x.2.1) (λx=>x.1)
  (λx hx=>⟨rfl,?_⟩) ⟨(ts.length,i,n),?_⟩ (λ_=>rfl) λx hx=>?_
 ·exact YaC
 ·exact YaJ
 obtain⟨f,i,n⟩:=x;obtain⟨hp,hi,hf,hn⟩:=hx;simp only at hp hi hf hn;refine kR ?_;refine Ah.PB (UU ts len i CD hl hi) (λ_=>rfl) rfl ?_;refine kW ?_;constructor<;>intro hs
 ·have AA:=Jn hs;obtain⟨f,rfl⟩:∃g,f=g+1:=⟨f-1,by omega⟩;unfold FN Zo at hp;rw[hs,cond_true]at hp;simp only[PR.bind_assoc,PR.En]at hp;refine kR ?_;refine Ah.Cr (FT ts len i CD hl hi) hp (λ_=>rfl) rfl (λj e k h hk=>qP h hk) (λ_ i1 hq hp hi=>?_);refine kW ?_;have e1:=Bd hq;refine Ah.Cr (MA ts len i1 ht hi) hp (λ_=>rfl) rfl (λj e k h hk=>qP h hk) (λx i2 hq hp hi=>?_);refine kW ?_;have e2:=JN hq;refine Ah.Cr (CE ts len i2 HV hl hi) hp (λ_=>rfl) rfl (λj e k h hk=>qP h hk) (λ_ i3 hq hp hi=>?_);refine kW ?_;have e3:=Bd hq;refine Ah.Cr (P6 ts len i3 LH ht hi) hp (λ_=>rfl) rfl (λj e k h hk=>qP h hk) (λcut i4 hq hp hi=>?_);refine kW ?_;have e4:=KB hq;refine Ah.Cr (P6 ts len i4 DR ht hi) hp (λ_=>rfl) rfl (λj e k h hk=>qP h hk) (λBe i5 hq hp hi=>?_);refine kW ?_;have e5:=KB hq;refine Ah.Cr (CE ts len i5 D2 hl hi) hp (λ_=>rfl) rfl (λj e k h hk=>qP h hk) (λ_ i6 hq hp hi=>?_);refine kW ?_;have e6:=Bd hq;refine Aa.KE [] [8,12] Ab mO (by kernel_rfl) ?_;conv=>whnf
  refine⟨rfl,?_⟩;conv=>whnf
  refine⟨⟨by simp,by simp;omega⟩,?_⟩;conv=>whnf
  refine kR ?_;refine⟨(f,i6,{n with Ao:=n.Ao++[⟨x,cut,Be⟩]}),?_⟩;conv=>whnf
  repeat(refine Ai ?_ ?_;(focus (first|rfl|(simp;done)|(simp[Ft];done)));conv=>whnf)
  exact⟨⟨hp,hi,by simp only;omega,by simp;omega⟩,by simp⟩
 have hp:p=.ok n i:=by rw[hp];cases f<;>simp[FN,hs]
 refine kR ?_;exact YaE
theorem ZaJ(ts:List Go.Av.Net.Tok)(len i:Nat)(l:List xQ)(v:V6)(ht:Lz ts)(hi:i<=ts.length)(hn:l.length<=3000):
  Bq Pg 108 [.ptr 4 0] (PQ ts len i (.raw v.a) (.raw v.b) (.raw v.c) (.sl 7 (l.map Dq)) (.raw v.e) (.raw v.f))
   (λr H=>∃a j,FY (BE ts) (l.map (·.name)) i=.ok a j/\j<=ts.length/\r=.int .i64 (a:Nat)/\H=PQ ts len j (.raw v.a) (.raw v.b) (.raw v.c) (.sl 7 (l.map Dq)) (.raw v.e) (.raw v.f))
   (λx H=>∃e k j,FY (BE ts) (l.map (·.name)) i=.fail e k/\k<=ts.length/\x=Db ts len e k/\H=PQ ts len j (.raw v.a) (.raw v.b) (.raw v.c) (.sl 7 (l.map Dq)) (.raw v.e) (.raw v.f)):=by
 have hl:=ht.len;generalize hp:FY (BE ts) (l.map (·.name)) i=p;replace hp:=hp.symm;replace hp:p=(FY (BE ts) (l.map (·.name)) i).bind λk i=>.ok k i:=by rw[hp];cases FY (BE ts) (l.map (·.name)) i<;>rfl
 refine Bq.Ak func108 rfl Ab (by kernel_rfl) rfl ?_;refine kW ?_;refine Ah.Cr (Zao ts len i l ht hi hn) hp (λ_=>rfl) rfl (λj e k h hk=>qP h hk) (λk i hq hp hi=>?_);refine kW ?_;exact⟨_,_,hp,hi,rfl,rfl⟩
section
variable {α:Type}{ts:List Go.Av.Net.Tok}{len i:Nat}{E:List AV}{H:List HO}{p:PR α}{f:Nat->Nat->PR α}{K:AV->KK}{X:XX}{A B C E' F:AV}
theorem _root_.Go.Av.Ah.WU(l:List xQ)(ht:Lz ts)(hi:i<=ts.length)(hn:l.length<=3000)(hp:p=(FY (BE ts) (l.map (·.name)) i).bind f)
  (hl:H[4]?=some (.cells [.sl 3 (BB ts),.int .i64 i,.int .i64 len,A,B,C,.sl 7 (l.map Dq),E',F]))
  (hX:∀(j:Nat) e k,p=.fail e k->k<=ts.length->Dn H 4 (.cells [.sl 3 (BB ts),.int .i64 j,.int .i64 len,A,B,C,.sl 7 (l.map Dq),E',F]) λH'=>X (.panic (Db ts len e k)) E H')
  (hk:∀(a:Nat)(j:Nat),FY (BE ts) (l.map (·.name)) i=.ok a j->p=f a j->j<=ts.length->Dn H 4 (.cells [.sl 3 (BB ts),.int .i64 j,.int .i64 len,A,B,C,.sl 7 (l.map Dq),E',F]) λH'=>K (.int .i64 (a:Nat)) E H'):
  Ah Pg 108 [.ptr 4 0] E H K X:=by
 have h9:∀vs:List Value,vs.length=9->∃x y z u,∃v:V6,vs=[x,y,z,v.a,v.b,v.c,u,v.e,v.f]:=by
  intro vs EA
  match vs,EA with
  |[x,y,z,a,b,c,d,e,f],_=>exact⟨x,y,z,d,⟨a,b,c,d,e,f⟩,rfl⟩
 refine Ah.bV (l:=4) [false,false,false,true,true,true,false,true,true]
  (R:=λvs r H1=>∃a j,FY (BE ts) (l.map (·.name)) i=.ok a j/\j<=ts.length/\r=.int .i64 (a:Nat)/\∃x y z u,∃v:V6,vs=[x,y,z,v.a,v.b,v.c,u,v.e,v.f]/\H1=PQ ts len j (.raw v.a) (.raw v.b) (.raw v.c) (.sl 7 (l.map Dq)) (.raw v.e) (.raw v.f))
  (X':=λvs r H1=>∃e k j,FY (BE ts) (l.map (·.name)) i=.fail e k/\k<=ts.length/\r=Db ts len e k/\∃x y z u,∃v:V6,vs=[x,y,z,v.a,v.b,v.c,u,v.e,v.f]/\H1=PQ ts len j (.raw v.a) (.raw v.b) (.raw v.c) (.sl 7 (l.map Dq)) (.raw v.e) (.raw v.f)) hl rfl ?_ (λ_=>rfl) ?_ ?_ ?_
 intro vs EA;obtain⟨x,y,z,u,v,rfl⟩:=h9 vs EA;exact(ZaJ ts len i l v ht hi hn).Jw (λr H1 ⟨a,j,q2,q3,q4,q5⟩=>⟨a,j,q2,q3,q4,x,y,z,u,v,rfl,q5⟩) (λr H1 ⟨e,k,j,q2,q3,q4,q5⟩=>⟨e,k,j,q2,q3,q4,x,y,z,u,v,rfl,q5⟩);intro vs EA;obtain⟨x,y,z,u,v,rfl⟩:=h9 vs EA;rfl;·rintro vs r H1 EA ⟨a,j,q1,q2,rfl,x,y,z,u,v,rfl,rfl⟩;exact⟨[.sl 3 (BB ts),.int .i64 j,.int .i64 len,A,B,C,.sl 7 (l.map Dq),E',F],rfl,rfl,hk a j q1 (by rw[hp,q1];rfl) q2⟩
 rintro vs r H1 EA ⟨e,k,j,q1,q2,rfl,x,y,z,u,v,rfl,rfl⟩;exact⟨[.sl 3 (BB ts),.int .i64 j,.int .i64 len,A,B,C,.sl 7 (l.map Dq),E',F],rfl,rfl,hX j e k (by rw[hp,q1];rfl) q2⟩
end
theorem aU{ts:List KT}{l:List Bs}{i a:Nat}(h:FY ts l i=.ok a j):j=i+1/\a<l.length:=by
 unfold FY at h;cases h1:E8 ts i with
 |fail e k=>rw[h1]at h;cases h
 |ok x i1=>
  rw[h1,PR.En]at h;have e1:=JN h1
  have hb:∀(l:List Bs)(a:Nat),idxOf x l=some a->a<l.length:=by
   intro l
   induction l with
   |nil=>intro a h;cases h
   |cons y r ih=>
    intro a h;unfold idxOf at h;by_cases e:y=x;simp[e]at h;simp;omega;simp[e]at h;obtain⟨b,hb,rfl⟩:=h;have:=ih b hb;simp;omega
  cases h2:idxOf x l with
  |none=>rw[h2]at h;cases h
  |some b=>rw[h2]at h;cases h;exact⟨e1,hb l _ h2⟩
theorem ZdY(ts:List Go.Av.Net.Tok)(len i:Nat)(n:Nw)(v:V6)(ht:Lz ts)(hi:i<=ts.length)(hn:n.Am=[])(ho:n.Ag.length<=3000):
  Bq Pg 50 [.ptr 4 0] (PQ ts len i (.raw v.a) (.raw v.b) (.raw v.c) (.sl 7 (n.Ag.map Dq)) C6 (.raw v.f))
   (λr H=>∃n' j,FE (BE ts) ts.length n i=.ok n' j/\j<=ts.length/\r=.tuple []/\H=PQ ts len j (.raw v.a) (.raw v.b) (.raw v.c) (.sl 7 (n.Ag.map Dq)) (.sl 6 (n'.Am.map Kf)) (.raw v.f))
   (λx H=>∃e k j l,FE (BE ts) ts.length n i=.fail e k/\k<=ts.length/\x=Db ts len e k/\H=PQ ts len j (.raw v.a) (.raw v.b) (.raw v.c) (.sl 7 (n.Ag.map Dq)) l (.raw v.f)):=by
 have hl:=ht.len;generalize yE:n.Ag=Ag at*;generalize hp:FE (BE ts) ts.length n i=p;replace hp:=hp.symm;refine Bq.Ak func50 rfl Ab (by kernel_rfl) rfl ?_;refine kW ?_;refine Aa.Eb 4 7 96 6 rfl rfl ?_
 refine Aa.Ar (λx:Nat×Nat×Nw=>mk 49 [(0,.ptr 4 0)]) (λx=>PQ ts len x.2.1 (.raw v.a) (.raw v.b) (.raw v.c) (.sl 7 (Ag.map Dq)) (.own 5 6 0 x.2.2.Am.length) (.raw v.f)++[.arr 96 6 (x.2.2.Am.map Kf)])
  (λx=>p=FE (BE ts) x.1 x.2.2 x.2.1/\x.2.1<=ts.length/\ts.length<=x.2.1+x.1/\x.2.2.Am.length<=x.2.1/\x.2.2.Ag=Ag) (λx=>x.1)
  (λx hx=>⟨rfl,?_⟩) ⟨(ts.length,i,n),?_⟩ (λ_=>rfl) λx hx=>?_
 ·exact YaC
 ·conv=>whnf
  repeat(refine Ai ?_ ?_;(focus (first|rfl|(simp;done)|(simp[hn,PQ,Dg];done)));conv=>whnf)
  exact⟨hp,hi,by simp,by simp[hn],yE⟩
 obtain⟨f,i,n⟩:=x;obtain⟨hp,hi,hf,hn,yE⟩:=hx;simp only at hp hi hf hn yE;refine kR ?_;refine Ah.PB (UU ts len i DA hl hi) (λ_=>rfl) rfl ?_;refine kW ?_;constructor<;>intro hs
 ·have AA:=Jn hs;obtain⟨f,rfl⟩:∃g,f=g+1:=⟨f-1,by omega⟩;unfold FE VZ at hp;rw[hs,cond_true]at hp;simp only[PR.bind_assoc,PR.En,yE]at hp;refine kR ?_;refine Ah.Cr (FT ts len i DA hl hi) hp (λ_=>rfl) rfl (λj e k h hk=>qP h hk) (λ_ i1 hq hp hi=>?_);refine kW ?_;have e1:=Bd hq;refine Ah.Cr (MA ts len i1 ht hi) hp (λ_=>rfl) rfl (λj e k h hk=>qP h hk) (λx i2 hq hp hi=>?_);refine kW ?_;have e2:=JN hq;refine Ah.Cr (CE ts len i2 Ek hl hi) hp (λ_=>rfl) rfl (λj e k h hk=>qP h hk) (λ_ i3 hq hp hi=>?_);refine kW ?_;have e3:=Bd hq;refine Ah.WU Ag ht hi ho hp rfl (λj e k h hk=>qP h hk) (λa i4 hq hp hi=>?_);refine kW ?_;have e4:=aU hq;refine Ah.Cr (CE ts len i4 FP hl hi) hp (λ_=>rfl) rfl (λj e k h hk=>qP h hk) (λ_ i5 hq hp hi=>?_);refine kW ?_;have e5:=Bd hq;refine Ah.WU Ag ht hi ho hp rfl (λj e k h hk=>qP h hk) (λb i6 hq hp hi=>?_);refine kW ?_;have e6:=aU hq;refine Ah.Cr (FT ts len i6 Qs hl hi) hp (λ_=>rfl) rfl (λj e k h hk=>qP h hk) (λ_ i7 hq hp hi=>?_);refine kW ?_;have e7:=Bd hq;refine Ah.Cr (Kb ts len i7 ht hi) hp (λ_=>rfl) rfl (λj e k h hk=>qP h hk) (λat_ i8 hq hp hi=>?_);refine kW ?_;have e8:=IM hq;refine Ah.Cr (FT ts len i8 Ec hl hi) hp (λ_=>rfl) rfl (λj e k h hk=>qP h hk) (λ_ i9 hq hp hi=>?_);refine kW ?_;have e9:=Bd hq;refine Ah.Cr (Kb ts len i9 ht hi) hp (λ_=>rfl) rfl (λj e k h hk=>qP h hk) (λBb i10 hq hp hi=>?_);refine kW ?_;have e10:=IM hq;refine Ah.Cr (FT ts len i10 Hd hl hi) hp (λ_=>rfl) rfl (λj e k h hk=>qP h hk) (λ_ i11 hq hp hi=>?_);refine kW ?_;have e11:=Bd hq;refine Ah.Cr (Kb ts len i11 ht hi) hp (λ_=>rfl) rfl (λj e k h hk=>qP h hk) (λload i12 hq hp hi=>?_);refine kW ?_;have e12:=IM hq;refine Ah.Cr (CE ts len i12 Aw hl hi) hp (λ_=>rfl) rfl (λj e k h hk=>qP h hk) (λ_ i13 hq hp hi=>?_);refine kW ?_;have e13:=Bd hq;refine Aa.KE [] [8,12] Ab mO (by kernel_rfl) ?_;conv=>whnf
  refine⟨rfl,?_⟩;conv=>whnf
  refine⟨⟨by simp,by simp;omega⟩,?_⟩;conv=>whnf
  refine kR ?_;refine⟨(f,i13,{n with Am:=n.Am++[⟨x,a,b,at_,Bb,load⟩]}),?_⟩;conv=>whnf
  repeat(refine Ai ?_ ?_;(focus (first|rfl|(simp;done)|(simp[Kf];done)));conv=>whnf)
  exact⟨⟨by rw[hp,yE],hi,by simp only;omega,by simp;omega,yE⟩,by simp⟩
 have hp:p=.ok n i:=by rw[hp];cases f<;>simp[FE,hs]
 refine kR ?_;exact YaE
def MN(D:Nat->List Nat)(n:Nat):Nat->List Nat->OT
 |0,_=>.done
 |f+1,b=>match (List.range n).filter λk=>!b.contains k&&(D k).all b.contains with
  |[]=>.done
  |r=>r.foldr (λk t=>.one k (MN D n f (b++[k])) t) .none
theorem yW{ts:List KT}{x:List Bool}{i:Nat}(h:J0 ts i=.ok x j):j=i+1:=by
 unfold J0 at h;split at h;cases h;rename_i t _;cases hs:(decide (t.1=2)&&HA t.2)with
 |true=>rw[hs]at h;cases h;rfl
 |false=>rw[hs]at h;cases h
theorem Zbi{ts:List KT}{x:Int}{i:Nat}(h:NQ ts i=.ok x j):i+1<=j:=by
 unfold NQ at h;cases hs:AW ts 3 Fl i with
 |true=>
  rw[hs,cond_true]at h;cases h1:Ca ts (i+1)with
  |fail e k=>rw[h1]at h;cases h
  |ok a i1=>rw[h1]at h;cases h;have:=IM h1;omega
 |false=>rw[hs,cond_false]at h;have:=IM h;omega
set_option maxHeartbeats 4000000 in
theorem fQ(ts:List Go.Av.Net.Tok)(len i:Nat)(n:Nw)(v:V6)(ht:Lz ts)(hi:i<=ts.length)(hn:n.Aq=[])(hn2:n.names=[]):
  Bq Pg 47 [.ptr 4 0] (PQ ts len i C6 C6 (.raw v.c) (.raw v.d) (.raw v.e) (.raw v.f))
   (λr H=>∃n' j,GS (BE ts) ts.length n i=.ok n' j/\j<=ts.length/\r=.tuple []/\H=PQ ts len j (.sl 3 (n'.Aq.map ED)) (.sl 1 (strs n'.names)) (.raw v.c) (.raw v.d) (.raw v.e) (.raw v.f))
   (λx H=>∃e k j l l2,GS (BE ts) ts.length n i=.fail e k/\k<=ts.length/\x=Db ts len e k/\H=PQ ts len j l l2 (.raw v.c) (.raw v.d) (.raw v.e) (.raw v.f)):=by
 have hl:=ht.len;generalize hp:GS (BE ts) ts.length n i=p;replace hp:=hp.symm;refine Bq.Ak func47 rfl Ab (by kernel_rfl) rfl ?_;refine kW ?_;refine Aa.Eb 4 3 65 3 rfl rfl ?_;refine Aa.Eb 4 4 9 1 rfl rfl ?_
 refine Aa.Ar (λx:Nat×Nat×Nw=>mk 65 [(0,.ptr 4 0)]) (λx=>PQ ts len x.2.1 (.own 5 3 0 x.2.2.Aq.length) (.own 6 1 0 x.2.2.names.length) (.raw v.c) (.raw v.d) (.raw v.e) (.raw v.f)++[.arr 65 3 (x.2.2.Aq.map ED),.arr 9 1 (strs x.2.2.names)])
  (λx=>p=GS (BE ts) x.1 x.2.2 x.2.1/\x.2.1<=ts.length/\ts.length<=x.2.1+x.1/\x.2.2.Aq.length<=x.2.1/\x.2.2.names.length<=x.2.1) (λx=>x.1)
  (λx hx=>⟨rfl,?_⟩) ⟨(ts.length,i,n),?_⟩ (λ_=>rfl) λx hx=>?_
 ·(conv=>whnf);refine⟨rfl,?_⟩;(conv=>whnf);refine⟨Ad _ (λ_=>rfl) _,?_⟩;(conv=>whnf);exact⟨Ad _ (λ_=>rfl) _,trivial⟩
 ·conv=>whnf
  repeat(refine Ai ?_ ?_;(focus (first|rfl|(simp;done)|(simp[hn,hn2,PQ,Dg,strs];done)));conv=>whnf)
  exact⟨hp,hi,by simp,by simp[hn],by simp[hn2]⟩
 obtain⟨f,i,n⟩:=x;obtain⟨hp,hi,hf,hn,hn2⟩:=hx;simp only at hp hi hf hn hn2;refine kR ?_;refine Ah.PB (UU ts len i AL hl hi) (λ_=>rfl) rfl ?_;refine kW ?_;constructor<;>intro hs
 ·have AA:=Jn hs;obtain⟨f,rfl⟩:∃g,f=g+1:=⟨f-1,by omega⟩;unfold GS Zr at hp;rw[hs,cond_true]at hp;simp only[PR.bind_assoc,PR.En]at hp;refine kR ?_;refine Ah.Cr (FT ts len i AL hl hi) hp (λ_=>rfl) rfl (λj e k h hk=>qP h hk) (λ_ i1 hq hp hi=>?_);refine kW ?_;have e1:=Bd hq;refine Ah.Cr (MA ts len i1 ht hi) hp (λ_=>rfl) rfl (λj e k h hk=>qP h hk) (λname i2 hq hp hi=>?_);refine kW ?_;have e2:=JN hq;refine Ah.Cr (CE ts len i2 HV hl hi) hp (λ_=>rfl) rfl (λj e k h hk=>qP h hk) (λ_ i3 hq hp hi=>?_);refine kW ?_;have e3:=Bd hq;refine Ah.Cr (FT ts len i3 Hc hl hi) hp (λ_=>rfl) rfl (λj e k h hk=>qP h hk) (λ_ i4 hq hp hi=>?_);refine kW ?_;have e4:=Bd hq;refine Ah.Cr (Zfq ts len i4 ht hi) hp (λ_=>rfl) rfl (λj e k h hk=>qP h hk) (λBc i5 hq hp hi=>?_);refine kW ?_;have e5:=Zbi hq;refine Ah.Cr (CE ts len i5 Aw hl hi) hp (λ_=>rfl) rfl (λj e k h hk=>qP h hk) (λ_ i6 hq hp hi=>?_);refine kW ?_;have e6:=Bd hq;refine Ah.Cr (FT ts len i6 HU hl hi) hp (λ_=>rfl) rfl (λj e k h hk=>qP h hk) (λ_ i7 hq hp hi=>?_);refine kW ?_;have e7:=Bd hq;refine Ah.Cr (Zf8 ts len i7 ht hi) hp (λ_=>rfl) rfl (λj e k h hk=>qP h hk) (λBw i8 hq hp hi=>?_);refine kW ?_;have e8:=yW hq;refine Ah.Cr (CE ts len i8 Aw hl hi) hp (λ_=>rfl) rfl (λj e k h hk=>qP h hk) (λ_ i9 hq hp hi=>?_);refine kW ?_;have e9:=Bd hq;refine Aa.Eb 7 2 3 1 rfl rfl ?_;obtain⟨R,hR,hp⟩:∃R:List Int->Nat->PR Nw,R=(λl i=>(AD (BE ts) 3 D2 i).bind λ_ i=>GS (BE ts) f {n with Aq:=n.Aq++[⟨Bc,Bw,l⟩],names:=n.names++[name]} i)/\p=(Ie (BE ts) (BE ts).length i9).bind R:=⟨_,rfl,hp⟩;have Jb:(BE ts).length=ts.length:=by simp[BE]
  refine kR ?_
  refine Aa.Ar (λx:Nat×Nat×List Int=>mk 65 [(0,.ptr 4 0),(2,.ptr 7 0),(3,.str name)]) (λx=>PQ ts len x.2.1 (.own 5 3 0 n.Aq.length) (.own 6 1 0 n.names.length) (.raw v.c) (.raw v.d) (.raw v.e) (.raw v.f)++[.arr 65 3 (n.Aq.map ED),.arr 9 1 (strs n.names),.cells [.int .i64 Bc,.sl 1 (Bw.map .bool),.own 8 1 0 x.2.2.length],.arr 3 1 (x.2.2.map (.int .i64))])
   (λx=>p=((Ie (BE ts) x.1 x.2.1).bind λl i=>R (x.2.2++l) i)/\x.2.1<=ts.length/\ts.length<=x.2.1+x.1/\x.2.2.length<=x.2.1/\i9<=x.2.1) (λx=>x.1)
   (λx hx=>⟨rfl,?_⟩) ⟨(ts.length,i9,[]),?_⟩ (λ_=>rfl) λx hx=>?_
  ·(conv=>whnf);refine⟨rfl,?_⟩;(conv=>whnf);refine⟨Ad _ (λ_=>rfl) _,?_⟩;(conv=>whnf);refine⟨Ad _ (λ_=>rfl) _,?_⟩;exact YaC
  ·(conv=>whnf);(repeat(refine Ai ?_ ?_;(focus (first|rfl|(simp;done)|(simp[PQ,Dg];done)));conv=>whnf));refine⟨?_,hi,by simp,by simp,C1 _⟩;rw[hp,Jb];rfl
  obtain⟨g,i,acc⟩:=x;obtain⟨hp,hi,hf2,Zhs,hi9⟩:=hx;simp only at hp hi hf2 Zhs hi9;refine kR ?_;refine Ah.PB (UU ts len i Ba hl hi) (λ_=>rfl) rfl ?_;refine kW ?_;constructor<;>intro hs
  ·have AA:=Jn hs;obtain⟨g,rfl⟩:∃g',g=g'+1:=⟨g-1,by omega⟩;unfold Ie at hp;rw[hs,cond_true]at hp;simp only[PR.bind_assoc,PR.En]at hp;refine kR ?_;refine Ah.Cr (FT ts len i Ba hl hi) hp (λ_=>rfl) rfl (λj e k h hk=>qP h hk) (λ_ j1 hq hp hi=>?_);refine kW ?_;have e11:=Bd hq;refine Aa.NK (MN (λ|1=>[0]|3=>[2]|4=>[3]|5=>[1,3,4]|6=>[0,1,2,3,4,5]|7=>[0,1,2,3,4,5,6]|_=>[]) 8 9 []) Ab mO (by kernel_rfl) ?_
   repeat' (first|exact True.intro|(refine EnF.step ?_;conv=>whnf)|(refine Ai ?_ ?_<;>conv=>whnf)|(refine Ah.Cr (Zfq ts len j1 ht hi) hp (λ_=>rfl) rfl (λj e k h hk=>by(conv=>whnf);refine⟨⟨by simp,Ad _ (λ_=>rfl) _⟩,?_⟩;(conv=>whnf);refine⟨⟨by simp[strs],Ad _ (λ_=>rfl) _⟩,?_⟩;(conv=>whnf);exact⟨_,_,_,_,_,h,hk,rfl,rfl⟩) (λhol j2 hq hp hi=>?_);conv=>whnf)|(show(_:Nat)=_;first|rfl|(simp;done)|(simp;omega))|(show(_:Nat)<=_;simp;omega))
   all_goals (
    have e12:=Zbi hq;refine kR ?_;refine Ah.Cr (CE ts len j2 Aw hl hi) hp (λ_=>rfl) rfl (λj e k h hk=>qP h hk) (λ_ j3 hq hp hi=>?_);refine kW ?_;have e13:=Bd hq;refine⟨(g,j3,acc++[hol]),?_⟩;(conv=>whnf);(repeat(refine Ai ?_ ?_;(focus (first|rfl|(simp;done)|(simp;done)));conv=>whnf));exact⟨⟨by rw[hp];simp only[Dp,C4],hi,by simp only;omega,by simp;omega,by simp only;omega⟩,by simp⟩)
  have hp:p=R acc i:=by rw[hp];cases g<;>simp[Ie,hs,PR.bind]
  rw[hR]at hp;refine kR ?_;refine Ah.Cr (CE ts len i D2 hl hi) hp (λ_=>rfl) rfl (λj e k h hk=>qP h hk) (λ_ i11 hq hp hi=>?_);refine kW ?_;have e11:=Bd hq;refine Aa.freeze 8 ?_;conv=>whnf
  refine⟨Ad _ (λ_=>rfl) _,?_⟩;conv=>whnf
  repeat(refine⟨(by first|rfl|(simp;done):(_:Nat)=_),?_⟩;conv=>whnf)
  refine Aa.KE [] [8,12] Ab mO (by kernel_rfl) ?_;conv=>whnf
  refine⟨rfl,?_⟩;conv=>whnf
  refine⟨⟨by simp,by simp;omega⟩,?_⟩;conv=>whnf
  refine kR ?_;refine⟨rfl,?_⟩;conv=>whnf
  refine⟨⟨by simp[strs],by simp[strs];omega⟩,?_⟩;conv=>whnf
  refine kR ?_;refine⟨(f,i11,{n with Aq:=n.Aq++[⟨Bc,Bw,acc⟩],names:=n.names++[name]}),?_⟩;conv=>whnf
  repeat(refine Ai ?_ ?_;(focus (first|rfl|(simp;done)|(simp[ED,strs];done)));conv=>whnf)
  exact⟨⟨hp,hi,by simp only;omega,by simp;omega,by simp;omega⟩,by simp⟩
 have hp:p=.ok n i:=by rw[hp];cases f<;>simp[GS,hs]
 refine kR ?_;refine⟨⟨by simp,Ad _ (λ_=>rfl) _⟩,?_⟩;conv=>whnf
 exact YaE
theorem mH{ts:List KT}{x:Bs}{i:Nat}(h:G9 ts i=.ok x j):j=i+1:=by
 unfold G9 at h;split at h;cases h;rename_i t _;cases hs:((decide (t.1=1)||decide (t.1=2))&&Bt t.2)with
 |true=>rw[hs]at h;cases h;rfl
 |false=>rw[hs]at h;cases h
set_option maxHeartbeats 4000000 in
theorem tS(ts:List Go.Av.Net.Tok)(len i:Nat)(n:Nw)(v:V6)(ht:Lz ts)(hi:i<=ts.length)(hn:n.Ag=[])(G0:n.opers.length<=3000)(hnn:n.names.length<=3000):
  Bq Pg 49 [.ptr 4 0] (PQ ts len i (.raw v.a) (.sl 1 (strs n.names)) (.sl 1 (n.opers.map BP)) C6 (.raw v.e) (.raw v.f))
   (λr H=>∃n' j,GA (BE ts) ts.length n i=.ok n' j/\j<=ts.length/\r=.tuple []/\H=PQ ts len j (.raw v.a) (.sl 1 (strs n.names)) (.sl 1 (n.opers.map BP)) (.sl 7 (n'.Ag.map Dq)) (.raw v.e) (.raw v.f))
   (λx H=>∃e k j l,GA (BE ts) ts.length n i=.fail e k/\k<=ts.length/\x=Db ts len e k/\H=PQ ts len j (.raw v.a) (.sl 1 (strs n.names)) (.sl 1 (n.opers.map BP)) l (.raw v.e) (.raw v.f)):=by
 have hl:=ht.len;generalize hnm:n.names=names at*;generalize YZ:n.opers=opers at*;generalize hp:GA (BE ts) ts.length n i=p;replace hp:=hp.symm;refine Bq.Ak func49 rfl Ab (by kernel_rfl) rfl ?_;refine kW ?_;refine Aa.Eb 4 6 67 7 rfl rfl ?_
 refine Aa.Ar (λx:Nat×Nat×Nw=>mk 82 [(0,.ptr 4 0)]) (λx=>PQ ts len x.2.1 (.raw v.a) (.sl 1 (strs names)) (.sl 1 (opers.map BP)) (.own 5 7 0 x.2.2.Ag.length) (.raw v.e) (.raw v.f)++[.arr 67 7 (x.2.2.Ag.map Dq)])
  (λx=>p=GA (BE ts) x.1 x.2.2 x.2.1/\x.2.1<=ts.length/\ts.length<=x.2.1+x.1/\x.2.2.Ag.length<=x.2.1/\x.2.2.names=names/\x.2.2.opers=opers) (λx=>x.1)
  (λx hx=>⟨rfl,?_⟩) ⟨(ts.length,i,n),?_⟩ (λ_=>rfl) λx hx=>?_
 ·exact YaC
 ·conv=>whnf
  repeat(refine Ai ?_ ?_;(focus (first|rfl|(simp;done)|(simp[hn,PQ,Dg];done)));conv=>whnf)
  exact⟨hp,hi,by simp,by simp[hn],hnm,YZ⟩
 obtain⟨f,i,n⟩:=x;obtain⟨hp,hi,hf,hn,hnm,YZ⟩:=hx;simp only at hp hi hf hn hnm YZ;refine kR ?_;refine Ah.PB (UU ts len i Ct hl hi) (λ_=>rfl) rfl ?_;refine kW ?_;constructor<;>intro hs
 ·have AA:=Jn hs;obtain⟨f,rfl⟩:∃g,f=g+1:=⟨f-1,by omega⟩;unfold GA VT at hp;rw[hs,cond_true]at hp;simp only[PR.bind_assoc,PR.En,hnm,YZ]at hp;refine kR ?_;refine Ah.Cr (FT ts len i Ct hl hi) hp (λ_=>rfl) rfl (λj e k h hk=>qP h hk) (λ_ i1 hq hp hi=>?_);refine kW ?_;have e1:=Bd hq;refine Ah.Cr (MA ts len i1 ht hi) hp (λ_=>rfl) rfl (λj e k h hk=>qP h hk) (λname i2 hq hp hi=>?_);refine kW ?_;have e2:=JN hq;refine Ah.Cr (CE ts len i2 HV hl hi) hp (λ_=>rfl) rfl (λj e k h hk=>qP h hk) (λ_ i3 hq hp hi=>?_);refine kW ?_;have e3:=Bd hq;refine Ah.Cr (FT ts len i3 AO hl hi) hp (λ_=>rfl) rfl (λj e k h hk=>qP h hk) (λ_ i4 hq hp hi=>?_);refine kW ?_;have e4:=Bd hq;refine Ah.Cr (sZ ts len i4 opers ht hi G0) hp (λ_=>rfl) rfl (λj e k h hk=>qP h hk) (λoper i5 hq hp hi=>?_);refine kW ?_;have e5:=aU hq;refine Ah.Cr (CE ts len i5 Aw hl hi) hp (λ_=>rfl) rfl (λj e k h hk=>qP h hk) (λ_ i6 hq hp hi=>?_);refine kW ?_;have e6:=Bd hq;refine Ah.Cr (FT ts len i6 AL hl hi) hp (λ_=>rfl) rfl (λj e k h hk=>qP h hk) (λ_ i7 hq hp hi=>?_);refine kW ?_;have e7:=Bd hq;refine Ah.Cr (tA ts len i7 names ht hi hnn) hp (λ_=>rfl) rfl (λj e k h hk=>qP h hk) (λGs i8 hq hp hi=>?_);refine kW ?_;have e8:=aU hq;refine Ah.Cr (CE ts len i8 Aw hl hi) hp (λ_=>rfl) rfl (λj e k h hk=>qP h hk) (λ_ i9 hq hp hi=>?_);refine kW ?_;have e9:=Bd hq;refine Ah.Cr (P6 ts len i9 EF ht hi) hp (λ_=>rfl) rfl (λj e k h hk=>qP h hk) (λBg i10 hq hp hi=>?_);refine kW ?_;have e10:=KB hq;refine Ah.Cr (P6 ts len i10 Fy ht hi) hp (λ_=>rfl) rfl (λj e k h hk=>qP h hk) (λAs i11 hq hp hi=>?_);refine kW ?_;have e11:=KB hq;refine Ah.Cr (P6 ts len i11 EG ht hi) hp (λ_=>rfl) rfl (λj e k h hk=>qP h hk) (λAp i12 hq hp hi=>?_);refine kW ?_;have e12:=KB hq;obtain⟨R,hR,hp⟩:∃R:List Bs->Nat->PR Nw,R=(λl i=>(AD (BE ts) 3 D2 i).bind λ_ i=>GA (BE ts) f {n with names:=names,opers:=opers,Ag:=n.Ag++[⟨name,oper,Gs,Bg,As,Ap,l⟩]} i)/\p=(Ee (BE ts) i12).bind R:=⟨_,rfl,hp⟩;have Jb:(BE ts).length=ts.length:=by simp[BE]
  refine Ah.Eb 6 6 9 1 rfl rfl ?_;refine Ah.PB (UU ts len i12 CC hl hi) (λ_=>rfl) rfl ?_;refine kW ?_;constructor<;>intro hs
  ·unfold Ee at hp;rw[hs,cond_true]at hp;simp only[PR.bind_assoc,PR.En]at hp;refine kR ?_;refine Ah.Cr (FT ts len i12 CC hl hi) hp (λ_=>rfl) rfl (λj e k h hk=>qP h hk) (λ_ i13 hq hp hi=>?_);refine kW ?_;have e13:=Bd hq;refine Aa.ZhQ (λx:Bs×Nat=>mk 82 [(0,.ptr 4 0),(2,.ptr 6 0)]) (λx=>PQ ts len x.2 (.raw v.a) (.sl 1 (strs names)) (.sl 1 (opers.map BP)) (.own 5 7 0 n.Ag.length) (.raw v.e) (.raw v.f)++[.arr 67 7 (n.Ag.map Dq),.cells [.str name,.int .i64 oper,.int .i64 Gs,.int .i64 Bg,.int .i64 As,.int .i64 Ap,.own 7 1 0 1],.arr 9 1 (strs [x.1])]) (λx=>p=((GM (BE ts) ((BE ts).length+1) x.2).bind λl i=>(AD (BE ts) 3 Aw i).bind λ_ i=>R ([x.1]++l) i)/\x.2<=ts.length/\i13<x.2) (λx hx=>⟨rfl,?_⟩) (λ_=>by simp[PQ,Dg]) ?_ λx hx=>?_;·(conv=>whnf);refine⟨rfl,?_⟩;(conv=>whnf);refine⟨Ad _ (λ_=>rfl) _,?_⟩;(conv=>whnf);refine⟨rfl,?_⟩;(conv=>whnf);exact⟨Ad _ (λ_=>rfl) _,trivial⟩
   ·refine Aa.NK (MN (λ|1=>[0]|3=>[2]|4=>[3]|5=>[1,3,4]|6=>[0,1,2,3,4,5]|7=>[0,1,2,3,4,5,6]|_=>[]) 8 9 []) Ab mO (by kernel_rfl) ?_
    repeat' (first|exact True.intro|(refine EnF.step ?_;conv=>whnf)|(refine Ai ?_ ?_<;>conv=>whnf)|(refine Ah.Cr (Zct ts len i13 ht hi) hp (λ_=>rfl) rfl (λj e k h hk=>by(conv=>whnf);refine⟨⟨by simp,Ad _ (λ_=>rfl) _⟩,?_⟩;(conv=>whnf);exact⟨_,_,_,_,h,hk,rfl,rfl⟩) (λc j2 hq hp hi=>?_);conv=>whnf)|(show(_:Nat)=_;first|rfl|(simp;done)|(simp;omega))|(show(_:Nat)<=_;first|(simp;done)|(simp;omega)))
    all_goals (
     have e14:=mH hq;refine⟨(c,j2),?_⟩;(conv=>whnf);(repeat(refine Ai ?_ ?_;(focus (first|rfl|(simp;done)|(simp[strs];done)));conv=>whnf));exact⟨hp,hi,by simp only;omega⟩)
   obtain⟨c,i14⟩:=x;obtain⟨hp,hi,e14⟩:=hx;simp only at hp hi e14;refine kR ?_
   refine Aa.Ar (λx:Nat×Nat×List Bs=>mk 82 [(0,.ptr 4 0),(2,.ptr 6 0)]) (λx=>PQ ts len x.2.1 (.raw v.a) (.sl 1 (strs names)) (.sl 1 (opers.map BP)) (.own 5 7 0 n.Ag.length) (.raw v.e) (.raw v.f)++[.arr 67 7 (n.Ag.map Dq),.cells [.str name,.int .i64 oper,.int .i64 Gs,.int .i64 Bg,.int .i64 As,.int .i64 Ap,.own 7 1 0 x.2.2.length],.arr 9 1 (strs x.2.2)])
    (λx=>p=((GM (BE ts) x.1 x.2.1).bind λl i=>(AD (BE ts) 3 Aw i).bind λ_ i=>R (x.2.2++l) i)/\x.2.1<=ts.length/\ts.length<x.2.1+x.1/\x.2.2.length<=x.2.1/\i12<x.2.1) (λx=>x.1)
    (λx hx=>⟨rfl,?_⟩) ⟨((BE ts).length+1,i14,[c]),?_⟩ (λ_=>rfl) λx hx=>?_
   ·(conv=>whnf);refine⟨rfl,?_⟩;(conv=>whnf);refine⟨Ad _ (λ_=>rfl) _,?_⟩;exact YaC
   ·(conv=>whnf);(repeat(refine Ai ?_ ?_;(focus (first|rfl|(simp;done)|(simp[PQ,Dg,strs];done)));conv=>whnf));exact⟨hp,hi,by rw[Jb];simp only;omega,by simp;omega,by simp only;omega⟩
   obtain⟨g,i,acc⟩:=x;obtain⟨hp,hi,hf2,Zhs,hi9⟩:=hx;simp only at hp hi hf2 Zhs hi9;refine kR ?_;refine Ah.PB (Sb ts len i Aw hl hi) (λ_=>rfl) rfl ?_;refine kW ?_;obtain⟨g,rfl⟩:∃g',g=g'+1:=⟨g-1,by omega⟩;constructor<;>intro hs
   ·(have hs:AW (BE ts) 3 Aw i=false:=by simpa using hs);unfold GM at hp;rw[hs,cond_false]at hp;simp only[PR.bind_assoc,PR.En]at hp;refine kR ?_;refine Aa.NK (MN (λ|1=>[0]|3=>[2]|4=>[3]|5=>[1,3,4]|6=>[0,1,2,3,4,5]|7=>[0,1,2,3,4,5,6]|_=>[]) 8 9 []) Ab mO (by kernel_rfl) ?_
    repeat' (first|exact True.intro|(refine EnF.step ?_;conv=>whnf)|(refine Ai ?_ ?_<;>conv=>whnf)|(refine Ah.Cr (Zct ts len i ht hi) hp (λ_=>rfl) rfl (λj e k h hk=>by(conv=>whnf);refine⟨⟨by simp,Ad _ (λ_=>rfl) _⟩,?_⟩;(conv=>whnf);exact⟨_,_,_,_,h,hk,rfl,rfl⟩) (λc j2 hq hp hi=>?_);conv=>whnf)|(show(_:Nat)=_;first|rfl|(simp;done)|(simp;omega))|(show(_:Nat)<=_;first|(simp;done)|(simp;omega)))
    all_goals (
     have e14:=mH hq;refine kR ?_;refine⟨(g,j2,acc++[c]),?_⟩;(conv=>whnf);(repeat(refine Ai ?_ ?_;(focus (first|rfl|(simp;done)|(simp[strs];done)));conv=>whnf));exact⟨⟨by rw[hp];simp only[Dp,C4],hi,by simp only;omega,by simp;omega,by simp only;omega⟩,by simp⟩)
   (have hs:AW (BE ts) 3 Aw i=true:=by simpa using hs);(have hp:p=(AD (BE ts) 3 Aw i).bind λ_ i=>R acc i:=by rw[hp];simp[GM,hs,PR.bind]);rw[hR]at hp;refine kR ?_;refine Ah.Cr (CE ts len i Aw hl hi) hp (λ_=>rfl) rfl (λj e k h hk=>qP h hk) (λ_ i19 hq hp hi=>?_);refine kW ?_;have e19:=Bd hq;refine Ah.Cr (CE ts len i19 D2 hl hi) hp (λ_=>rfl) rfl (λj e k h hk=>qP h hk) (λ_ i20 hq hp hi=>?_);refine kW ?_;have e20:=Bd hq;refine Aa.freeze 7 ?_;(conv=>whnf);refine⟨Ad _ (λ_=>rfl) _,?_⟩;(conv=>whnf);(repeat(refine⟨(by first|rfl|(simp;done):(_:Nat)=_),?_⟩;conv=>whnf));refine Aa.KE [] [8,12] Ab mO (by kernel_rfl) ?_;(conv=>whnf);refine⟨rfl,?_⟩;(conv=>whnf);refine⟨⟨by simp,by simp;omega⟩,?_⟩;(conv=>whnf);refine kR ?_;refine⟨(f,i20,{n with names:=names,opers:=opers,Ag:=n.Ag++[⟨name,oper,Gs,Bg,As,Ap,acc⟩]}),?_⟩;(conv=>whnf);(repeat(refine Ai ?_ ?_;(focus (first|rfl|(simp;done)|(simp[Dq,strs];done)));conv=>whnf));exact⟨⟨hp,hi,by simp only;omega,by simp;omega,rfl,rfl⟩,by simp⟩
  have hp:p=R [] i12:=by rw[hp];simp[Ee,hs,PR.bind]
  rw[hR]at hp;refine kR ?_;refine Ah.Cr (CE ts len i12 D2 hl hi) hp (λ_=>rfl) rfl (λj e k h hk=>qP h hk) (λ_ i20 hq hp hi=>?_);refine kW ?_;have e20:=Bd hq;refine Aa.freeze 7 ?_;conv=>whnf
  refine⟨(by simp),?_⟩;conv=>whnf
  repeat(refine⟨(by first|rfl|(simp;done):(_:Nat)=_),?_⟩;conv=>whnf)
  refine Aa.KE [] [8,12] Ab mO (by kernel_rfl) ?_;conv=>whnf
  refine⟨rfl,?_⟩;conv=>whnf
  refine⟨⟨by simp,by simp;omega⟩,?_⟩;conv=>whnf
  refine kR ?_;refine⟨(f,i20,{n with names:=names,opers:=opers,Ag:=n.Ag++[⟨name,oper,Gs,Bg,As,Ap,[]⟩]}),?_⟩;conv=>whnf
  repeat(refine Ai ?_ ?_;(focus (first|rfl|(simp;done)|(simp[Dq,strs];done)));conv=>whnf)
  exact⟨⟨hp,hi,by simp only;omega,by simp;omega,rfl,rfl⟩,by simp⟩
 have hp:p=.ok n i:=by rw[hp];cases f<;>simp[GA,hs]
 refine kR ?_;exact YaE
def RH(n:List AV)(e p:Int):List HO:=[.cells n,.cells [.int .i64 e],.cells [.int .i64 p]]
def Ug:List AV:=[C6,C6,C6,C6,C6,C6]
set_option maxHeartbeats 4000000 in
theorem gA(e p e' p':Int)(n:List AV)(hn:n.length=6):O1 Pg 46 [.ptr 0 0,.ptr 1 0,.ptr 2 0] (RH Ug e p) (some (.iface 103 (.agg [.int .i64 e',.int .i64 p']))) (λH=>H=RH Ug e' p'):=by
 refine O1.Ak func46 rfl rfl Ab (by kernel_rfl) rfl ?_;conv=>whnf
 refine⟨⟨by kernel_rfl,rfl⟩,?_⟩;conv=>whnf
 refine Eu Ab _ ?_;conv=>whnf
 refine Nb.NK (MN (λ|2=>[1]|4=>[3]|5=>[0]|6=>[0,1,2,5]|7=>[4,0,1,2,3,5,6]|_=>[]) 8 9 []) Ab (by kernel_rfl) (by kernel_rfl) (by kernel_rfl) ?_
 repeat' (first|exact True.intro|(refine EnF.step ?_;conv=>whnf)|(refine Ai ?_ ?_<;>conv=>whnf))
 all_goals rfl
theorem RT:∀(s:Bs),(Bz s).2=(Bz s).1->∀b∈s.take (Bz s).1,DG b=true
 |[],_=>by simp[Bz]
 |c::r,h=>by
  have h2:(Bz r).2<=(Bz r).1:=(K8 r).2;unfold Bz at h⊢;cases hw:Dt c with
  |false=>simp
  |true=>
   rw[hw]at h;simp only[cond_true]at h ⊢;cases hd:DG c with
   |false=>rw[hd]at h;simp at h;omega
   |true=>
    rw[hd]at h;simp only[cond_true]at h;intro b hb;simp only[List.take_succ_cons,Dj]at hb;rcases hb with rfl|hb;exact hd;exact RT r (by omega) b hb
theorem nX{s:Bs}{n:Nat}{t:Bs}(h:ES s=some (n,k,t)):1<=n/\n<=s.length/\t.length<=n/\(k=2->1<=t.length/\t.length<=8/\∀b∈t,DG b=true):=by
 have h1:=Kc s;have h2:=Uh s;have h3:=Qu s;have h4:=Ws s;have h5:=(K8 s).1;unfold ES at h;by_cases c1:0<BS s
 ·rw[decide_eq_true c1,cond_true]at h;simp only[De.injEq,Prod.mk.injEq]at h;obtain⟨rfl,rfl,rfl⟩:=h;have e:BS s=(Bz s).1:=by rw[Kc];split<;>rename_i q<;>simp_all[Kc]
  have hc:(Bz s).2=(Bz s).1/\(Bz s).1<=8:=by
   unfold BS at c1;by_cases q:(Bz s).2=(Bz s).1
   ·by_cases q2:8<(Bz s).1;·simp[q,q2]at c1
    exact⟨q,by omega⟩
   simp[q]at c1
  refine⟨c1,by omega,by simp;omega,λ_=>⟨by simp;omega,by simp;omega,?_⟩⟩;rw[e];exact RT s hc.1
 rw[decide_eq_false c1,cond_false]at h;by_cases c2:0<BA s;rw[decide_eq_true c2,cond_true]at h;simp only[De.injEq,Prod.mk.injEq]at h;obtain⟨rfl,rfl,rfl⟩:=h;exact⟨c2,h2,by simp;omega,λh=>by cases h⟩;rw[decide_eq_false c2,cond_false]at h;by_cases c3:0<B9 s;rw[decide_eq_true c3,cond_true]at h;simp only[De.injEq,Prod.mk.injEq]at h;obtain⟨rfl,rfl,rfl⟩:=h;exact⟨c3,h3.1,by simp;omega,λh=>by cases h⟩;rw[decide_eq_false c3,cond_false]at h;by_cases c4:0<BJ s;rw[decide_eq_true c4,cond_true]at h;simp only[De.injEq,Prod.mk.injEq]at h;obtain⟨rfl,rfl,rfl⟩:=h;exact⟨c4,h4,by simp;omega,λh=>by cases h⟩;rw[decide_eq_false c4,cond_false]at h;cases h
theorem cG(s:Bs)(hs:s.length<=8000):∀(f p c:Nat)(l:List Go.Av.Net.Tok),c<=3000->p<=s.length->G7 s f p c=.ok l->c+l.length<=3000/\∀t∈l,ZfX t/\p<=t.pos/\t.pos<s.length
 |0,p,c,l,hc,hp,h=>by cases h;exact⟨by simpa using hc,by simp⟩
 |f+1,p,c,l,hc,hp,h=>by
  have hg:=ON false (s.drop p);simp only[A1]at hg;unfold G7 at h;have hpq:p<=p+F6 false (s.drop p):=Dx _ _;have hqs:p+F6 false (s.drop p)<=s.length:=by omega
  generalize p+F6 false (s.drop p)=q at*;by_cases c1:q=s.length;rw[decide_eq_true c1,cond_true]at h;cases h;exact⟨by simpa using hc,by simp⟩;rw[decide_eq_false c1,cond_false]at h;by_cases c2:c=3000;rw[decide_eq_true c2,cond_true]at h;cases h;rw[decide_eq_false c2,cond_false]at h;cases ht:ES (s.drop q)with
  |none=>rw[ht]at h;cases h
  |some x=>
   obtain⟨n,k,t⟩:=x;rw[ht]at h;simp only at h;obtain⟨k1,k2,k3,k4⟩:=nX ht;simp only[A1]at k2;cases hr:G7 s f (q+n) (c+1)with
   |err e p=>rw[hr]at h;cases h
   |ok r=>
    rw[hr]at h;cases h;obtain⟨m1,m2⟩:=cG s hs f (q+n) (c+1) r (by omega) (by omega) hr;refine⟨by simp only[A4];omega,λt' ht'=>?_⟩;simp only[Dj]at ht';rcases ht' with rfl|ht';exact⟨⟨by simp only;omega,k4⟩,hpq,by simp only;omega⟩;obtain⟨n1,n2,n3⟩:=m2 t' ht';exact⟨n1,by omega,n3⟩
theorem W9(s:Bs):∀(f p c:Nat)(e:Int)(at_:Nat),p<=s.length->G7 s f p c=.err e at_->at_<=s.length/\(e=2\/e=30)
 |0,p,c,e,a,hp,h=>by cases h
 |f+1,p,c,e,a,hp,h=>by
  have hg:=ON false (s.drop p);simp only[A1]at hg;unfold G7 at h;have hqs:p+F6 false (s.drop p)<=s.length:=by omega
  generalize p+F6 false (s.drop p)=q at*;by_cases c1:q=s.length;rw[decide_eq_true c1,cond_true]at h;cases h;rw[decide_eq_false c1,cond_false]at h;by_cases c2:c=3000;rw[decide_eq_true c2,cond_true]at h;cases h;exact⟨hqs,.inl rfl⟩;rw[decide_eq_false c2,cond_false]at h;cases ht:ES (s.drop q)with
  |none=>rw[ht]at h;cases h;exact⟨hqs,.inr rfl⟩
  |some x=>
   obtain⟨n,k,t⟩:=x;rw[ht]at h;simp only at h;obtain⟨k1,k2,k3,k4⟩:=nX ht;simp only[A1]at k2;cases hr:G7 s f (q+n) (c+1)with
   |ok r=>rw[hr]at h;cases h
   |err e' p'=>
    rw[hr]at h;cases h;exact W9 s f (q+n) (c+1) _ _ (by omega) hr
theorem oW{s:Bs}{l:List Go.Av.Net.Tok}(h:NP s=.ok l):Lz l/\s.length<=8000/\∀t∈l,t.pos<s.length:=by
 unfold NP at h;by_cases c:8000<s.length;rw[decide_eq_true c]at h;cases h;rw[decide_eq_false c,cond_false]at h;obtain⟨h1,h2⟩:=cG s (by omega) _ _ _ _ (by omega) (by omega) h;exact⟨⟨by omega,λt ht=>(h2 t ht).1⟩,by omega,λt ht=>(h2 t ht).2.2⟩
theorem cF{s:Bs}{e:Int}{p:Nat}(h:NP s=.err e p):p<=s.length/\(e=2\/e=30):=by
 unfold NP at h;by_cases c:8000<s.length;rw[decide_eq_true c]at h;cases h;exact⟨by omega,.inl rfl⟩;rw[decide_eq_false c,cond_false]at h;exact W9 s _ _ _ _ _ (by omega) h
def CA{α:Type}(p:PR α)(Q:α->Prop):Prop:=match p with|.ok a _=>Q a|.fail e _=>e=90\/e=91\/e=110
theorem CA.bind{α β:Type}{p:PR α}{f:α->Nat->PR β}{Q:α->Prop}{R:β->Prop}(h:CA p Q)(hf:∀a i,Q a->CA (f a i) R):CA (p.bind f) R:=by
 cases p with
 |ok a i=>exact hf a i h
 |fail e i=>exact h
theorem CA.mono{α:Type}{p:PR α}{Q R:α->Prop}(h:CA p Q)(hf:∀a,Q a->R a):CA p R:=by
 cases p with
 |ok a i=>exact hf a h
 |fail e i=>exact h
theorem YG{α:Type}{Q:α->Prop}{x:α}{l:List α}(hx:Q x)(hl:∀y∈l,Q y):∀y∈x::l,Q y:=by
 intro y hy;rcases Dj.1 hy with rfl|hy;exact hx;exact hl y hy
structure Zf2(c:Dm):Prop where
 Bw:c.Bw.length=7
structure ZfZ(no nc:Nat)(o:xQ):Prop where
 name:An o.name=true
 oper:o.oper<no
 Gs:o.Gs<nc
 ZjC:0<=o.Bg/\0<=o.As/\0<=o.Ap
 AK:∀c∈o.AK,Bt c=true
structure Zf0(no:Nat)(l:Lin):Prop where
 name:An l.name=true
 from_:l.from_<no
 VJ:l.VJ<no
 ZjC:0<=l.at_/\0<=l.Bb/\0<=l.load
structure Zf1(c:Io):Prop where
 name:An c.name=true
 ZjC:0<=c.cut/\0<=c.Be
structure RA(n:Nw):Prop where
 Aq:∀c∈n.Aq,Zf2 c
 names:n.names.length=n.Aq.length/\∀x∈n.names,An x=true
 opers:∀x∈n.opers,An x=true
 Ag:∀o∈n.Ag,ZfZ n.opers.length n.names.length o
 Am:∀l∈n.Am,Zf0 n.Ag.length l
 Ao:∀c∈n.Ao,Zf1 c
section
variable {l:List Go.Av.Net.Tok}(Ib:Lz l)
theorem jC{α:Type}{Q:α->Prop}(i:Nat):CA (S5 (BE l) i:PR α) Q:=by
 unfold S5;split<;>simp[CA]
theorem AH(k:Int)(x:Bs)(i:Nat):CA (AD (BE l) k x i) (λ_=>True):=by
 unfold AD;cases AW (BE l) k x i with
 |true=>trivial
 |false=>exact jC i
theorem Is(i:Nat):CA (E8 (BE l) i) (λx=>An x=true):=by
 unfold E8;split;simp[CA];rename_i t _;cases h:(decide (t.1=1)&&An t.2)with
 |true=>simp only[cond_true,CA];simp at h;exact h.2
 |false=>simp[CA]
theorem WL(i:Nat):CA (G9 (BE l) i) (λx=>Bt x=true):=by
 unfold G9;split;simp[CA];rename_i t _;cases h:((decide (t.1=1)||decide (t.1=2))&&Bt t.2)with
 |true=>simp only[cond_true,CA];simp at h;exact h.2
 |false=>simp[CA]
theorem tF(i:Nat):CA (J0 (BE l) i) (λx=>x.length=7):=by
 unfold J0;split;simp[CA];rename_i t _;cases h:(decide (t.1=2)&&HA t.2)with
 |true=>simp only[cond_true,CA];simp[HA]at h;simp[h.2.1]
 |false=>simp[CA]
include Ib in
theorem Gf(i:Nat):CA (Ca (BE l) i) (λx=>0<=x/\x<100000000):=by
 cases h:Ca (BE l) i with
 |ok x j=>exact PD Ib h
 |fail e k=>
  unfold Ca at h;split at h;cases h;simp[CA];rename_i t _;cases hh:decide (t.1=2)with
  |true=>rw[hh]at h;cases h
  |false=>rw[hh]at h;cases h;simp[CA]
include Ib in
theorem bG(i:Nat):CA (NQ (BE l) i) (λx=>-100000000<x/\x<100000000):=by
 unfold NQ;cases AW (BE l) 3 Fl i with
 |true=>exact(Gf Ib (i+1)).bind λa j h=>(by simp only[CA];omega)
 |false=>exact(Gf Ib i).mono λa h=>by omega
include Ib in
theorem IK(w:Bs)(i:Nat):CA (Gb (BE l) w i) (λx=>0<=x/\x<100000000):=by
 unfold Gb;exact(AH 1 w i).bind λ_ i _=>(Gf Ib i).bind λx i hx=>(AH 3 Aw i).bind λ_ i _=>hx
theorem Zbl{x:Bs}:∀{l:List Bs}{k:Nat},idxOf x l=some k->k<l.length
 |[],k,h=>by cases h
 |y::r,k,h=>by unfold idxOf at h;by_cases e:y=x;simp[e]at h;simp;omega;simp[e]at h;obtain⟨b,hb,rfl⟩:=h;have:=Zbl hb;simp;omega
theorem Pu(names:List Bs)(i:Nat):CA (FY (BE l) names i) (λk=>k<names.length):=by
 unfold FY;refine(Is i).bind λx i _=>?_;split;·rename_i k hk;exact Zbl hk
 simp[CA]
include Ib in
theorem WK:∀(f i:Nat),CA (Ie (BE l) f i) (λl=>∀x∈l,-100000000<x/\x<100000000)
 |0,i=>by simp[Ie,CA]
 |f+1,i=>by
  unfold Ie;cases AW (BE l) 1 Ba i with
  |true=>exact(AH 1 Ba i).bind λ_ i _=>(bG Ib i).bind λx i hx=>(AH 3 Aw i).bind λ_ i _=>(WK f i).bind λl i hl=>YG hx hl
  |false=>simp[CA]
include Ib in
theorem Zaz(i:Nat):CA (Zr (BE l) i) (λc=>An c.1=true/\Zf2 c.2):=by
 unfold Zr
 exact(AH 1 AL i).bind λ_ i _=>(Is i).bind λname i hn=>(AH 3 HV i).bind λ_ i _=>(AH 1 Hc i).bind λ_ i _=>(bG Ib i).bind λBc i _=>(AH 3 Aw i).bind λ_ i _=>
  (AH 1 HU i).bind λ_ i _=>(tF i).bind λBw i hw=>(AH 3 Aw i).bind λ_ i _=>(WK Ib _ i).bind λAZ i _=>(AH 3 D2 i).bind λ_ i _=>⟨hn,⟨hw⟩⟩
theorem tG(i:Nat):CA (PA (BE l) i) (λx=>An x=true):=by
 unfold PA;exact(AH 1 AO i).bind λ_ i _=>(Is i).bind λname i hn=>(AH 3 Aw i).bind λ_ i _=>hn
theorem TT:∀(f i:Nat),CA (GM (BE l) f i) (λl=>∀c∈l,Bt c=true)
 |0,i=>by simp[GM,CA]
 |f+1,i=>by
  unfold GM;cases AW (BE l) 3 Aw i with
  |true=>simp[CA]
  |false=>exact(WL i).bind λx i hx=>(TT f i).bind λl i hl=>YG hx hl
theorem VQ(i:Nat):CA (Ee (BE l) i) (λl=>∀c∈l,Bt c=true):=by
 unfold Ee;cases AW (BE l) 1 CC i with
 |true=>exact(AH 1 CC i).bind λ_ i _=>(WL i).bind λc i hc=>(TT _ i).bind λl i hl=>(AH 3 Aw i).bind λ_ i _=>YG hc hl
 |false=>simp[CA]
include Ib in
theorem Zav(n:Nw)(i:Nat):CA (VT (BE l) n i) (ZfZ n.opers.length n.names.length):=by
 unfold VT
 exact(AH 1 Ct i).bind λ_ i _=>(Is i).bind λname i h1=>(AH 3 HV i).bind λ_ i _=>(AH 1 AO i).bind λ_ i _=>(Pu n.opers i).bind λoper i h2=>(AH 3 Aw i).bind λ_ i _=>
  (AH 1 AL i).bind λ_ i _=>(Pu n.names i).bind λGs i h3=>(AH 3 Aw i).bind λ_ i _=>(IK Ib EF i).bind λa i h4=>(IK Ib Fy i).bind λb i h5=>(IK Ib EG i).bind λc i h6=>
  (VQ i).bind λAK i h7=>(AH 3 D2 i).bind λ_ i _=>⟨h1,h2,h3,⟨h4.1,h5.1,h6.1⟩,h7⟩
include Ib in
theorem Zax(n:Nw)(i:Nat):CA (VZ (BE l) n i) (Zf0 n.Ag.length):=by
 unfold VZ
 exact(AH 1 DA i).bind λ_ i _=>(Is i).bind λname i h1=>(AH 3 Ek i).bind λ_ i _=>(Pu _ i).bind λa i h2=>(AH 3 FP i).bind λ_ i _=>(Pu _ i).bind λb i h3=>
  (AH 1 Qs i).bind λ_ i _=>(Gf Ib i).bind λc i h4=>(AH 1 Ec i).bind λ_ i _=>(Gf Ib i).bind λd i h5=>(AH 1 Hd i).bind λ_ i _=>(Gf Ib i).bind λe i h6=>(AH 3 Aw i).bind λ_ i _=>
  ⟨h1,by simpa using h2,by simpa using h3,⟨h4.1,h5.1,h6.1⟩⟩
include Ib in
theorem Zay(i:Nat):CA (Zo (BE l) i) Zf1:=by
 unfold Zo;exact(AH 1 CD i).bind λ_ i _=>(Is i).bind λname i h1=>(AH 3 HV i).bind λ_ i _=>(IK Ib LH i).bind λa i h2=>(IK Ib DR i).bind λb i h3=>(AH 3 D2 i).bind λ_ i _=>⟨h1,h2.1,h3.1⟩
include Ib in
theorem WN:∀(f:Nat)(n:Nw)(i:Nat),RA n->n.Ag=[]->CA (GS (BE l) f n i) (λn'=>RA n'/\n'.opers=n.opers/\n'.Ag=[]/\n'.Am=n.Am/\n'.Ao=n.Ao)
 |0,n,i,hn,h=>by simp[GS,CA,hn,h]
 |f+1,n,i,hn,h=>by
  unfold GS;cases AW (BE l) 1 AL i with
  |true=>
   refine(Zaz Ib i).bind λc i hc=>(WN f _ i ⟨?_,⟨by simp[hn.names.1],?_⟩,hn.opers,by simp[h],hn.Am,hn.Ao⟩ h);intro x hx;simp only[BQ,A5]at hx;rcases hx with hx|rfl;exact hn.Aq x hx;exact hc.2;intro x hx;simp only[BQ,A5]at hx;rcases hx with hx|rfl;exact hn.names.2 x hx;exact hc.1
  |false=>simp[CA,hn,h]
theorem TS:∀(f:Nat)(n:Nw)(i:Nat),RA n->n.Ag=[]->CA (EM (BE l) f n i) (λn'=>RA n'/\n'.Aq=n.Aq/\n'.names=n.names/\n'.Ag=[]/\n'.Am=n.Am/\n'.Ao=n.Ao)
 |0,n,i,hn,h=>by simp[EM,CA,hn,h]
 |f+1,n,i,hn,h=>by
  unfold EM;cases AW (BE l) 1 AO i with
  |true=>
   refine(tG i).bind λc i hc=>(TS f _ i ⟨hn.Aq,hn.names,?_,by simp[h],hn.Am,hn.Ao⟩ h);intro x hx;simp only[BQ,A5]at hx;rcases hx with hx|rfl;exact hn.opers x hx;exact hc
  |false=>simp[CA,hn,h]
include Ib in
theorem WI:∀(f:Nat)(n:Nw)(i:Nat),RA n->n.Am=[]->CA (GA (BE l) f n i) (λn'=>RA n'/\n'.Aq=n.Aq/\n'.names=n.names/\n'.opers=n.opers/\n'.Am=[]/\n'.Ao=n.Ao)
 |0,n,i,hn,h=>by simp[GA,CA,hn,h]
 |f+1,n,i,hn,h=>by
  unfold GA;cases AW (BE l) 1 Ct i with
  |true=>
   refine(Zav Ib n i).bind λc i hc=>(WI f _ i ⟨hn.Aq,hn.names,hn.opers,?_,by simp[h],hn.Ao⟩ h);intro x hx;simp only[BQ,A5]at hx;rcases hx with hx|rfl;exact hn.Ag x hx;exact hc
  |false=>simp[CA,hn,h]
include Ib in
theorem WJ:∀(f:Nat)(n:Nw)(i:Nat),RA n->CA (FE (BE l) f n i) (λn'=>RA n'/\n'.Aq=n.Aq/\n'.names=n.names/\n'.opers=n.opers/\n'.Ag=n.Ag/\n'.Ao=n.Ao)
 |0,n,i,hn=>by simp[FE,CA,hn]
 |f+1,n,i,hn=>by
  unfold FE;cases AW (BE l) 1 DA i with
  |true=>
   refine(Zax Ib n i).bind λc i hc=>(WJ f _ i ⟨hn.Aq,hn.names,hn.opers,hn.Ag,?_,hn.Ao⟩);intro x hx;simp only[BQ,A5]at hx;rcases hx with hx|rfl;exact hn.Am x hx;exact hc
  |false=>simp[CA,hn]
include Ib in
theorem WM:∀(f:Nat)(n:Nw)(i:Nat),RA n->CA (FN (BE l) f n i) (λn'=>RA n'/\n'.Aq=n.Aq/\n'.names=n.names/\n'.opers=n.opers/\n'.Ag=n.Ag/\n'.Am=n.Am)
 |0,n,i,hn=>by simp[FN,CA,hn]
 |f+1,n,i,hn=>by
  unfold FN;cases AW (BE l) 1 CD i with
  |true=>
   refine(Zay Ib i).bind λc i hc=>(WM f _ i ⟨hn.Aq,hn.names,hn.opers,hn.Ag,hn.Am,?_⟩);intro x hx;simp only[BQ,A5]at hx;rcases hx with hx|rfl;exact hn.Ao x hx;exact hc
  |false=>simp[CA,hn]
theorem Zgz:RA dW:=by constructor<;>simp[dW]
include Ib in
theorem Zaw:CA (PG (BE l)) RA:=by
 unfold PG;refine(WN Ib _ _ 0 Zgz rfl).bind λn1 i h1=>(TS _ _ i h1.1 h1.2.2.1).bind λn2 i h2=>(WI Ib _ _ i h2.1 (by rw[h2.2.2.2.2.1,h1.2.2.2.1];rfl)).bind λn3 i h3=>(WJ Ib _ _ i h3.1).bind λn4 i h4=>(WM Ib _ _ i h4.1).bind λn5 i h5=>?_;cases decide (i<(BE l).length)with
 |true=>simp[CA]
 |false=>exact h5.1
end
theorem jD(s:Bs):match FZ s with|.ok n=>RA n/\s.length<=8000|.err e p=>p<=s.length/\(e=90\/e=91\/e=110\/e=2\/e=30):=by
 unfold FZ;cases h:NP s with
 |err e p=>obtain⟨h1,h2⟩:=cF h;exact⟨h1,by rcases h2 with rfl|rfl<;>simp⟩
 |ok l=>
  obtain⟨h1,h2,h3⟩:=oW h;have:=Zaw h1;simp only;cases hn:PG (BE l)with
  |ok n i=>rw[hn]at this;exact⟨this,h2⟩
  |fail e i=>
   rw[hn]at this;refine⟨?_,by rcases this with rfl|rfl|rfl<;>simp⟩;unfold Ag;split;·rename_i t ht;have:=h3 t (List.mem_of_getElem? ht);omega
   omega
section
variable {α:Type}{ts:List Go.Av.Net.Tok}{len:Nat}{E:List AV}{H:List HO}{K:AV->KK}{X:XX}
theorem Ua{g:Nat}(m:List Bool){cs:List AV}{q:PR α}(fin:α->Nat->List AV)(hl:H[4]?=some (.cells cs))(h9:cs.length=9)(hm:m.length=9)
  (h:∀vs:List Value,vs.length=9->Bq Pg g [.ptr 4 0] (Dg 4 (Co m cs vs)) (λr H1=>∃a j,q=.ok a j/\j<=ts.length/\r=.tuple []/\∃GL,GL.length=9/\back m GL cs=fin a j/\H1=Dg 4 (Co m GL vs))
   (λx H1=>∃e k GL,q=.fail e k/\k<=ts.length/\x=Db ts len e k/\GL.length=9/\H1=Dg 4 (Co m GL vs)))
  (hwc:∀vs:List Value,vs.length=9->AR (Dg 4 (Co m cs vs)) (Co m cs vs)=true)
  (hk:∀a j,q=.ok a j->j<=ts.length->Dn H 4 (.cells (fin a j)) λH'=>K (.tuple []) E H')
  (hX:∀e k cs',q=.fail e k->k<=ts.length->Dn H 4 (.cells cs') λH'=>X (.panic (Db ts len e k)) E H'):Ah Pg g [.ptr 4 0] E H K X:=by
 refine Ah.bV (l:=4) m
  (R:=λvs r H1=>∃a j,q=.ok a j/\j<=ts.length/\r=.tuple []/\∃GL,GL.length=9/\back m GL cs=fin a j/\H1=Dg 4 (Co m GL vs))
  (X':=λvs x H1=>∃e k GL,q=.fail e k/\k<=ts.length/\x=Db ts len e k/\GL.length=9/\H1=Dg 4 (Co m GL vs)) hl (by rw[h9,hm]) (λvs EA=>h vs (by rw[EA,h9])) (λ_=>rfl) (λvs EA=>hwc vs (by rw[EA,h9])) ?_ ?_
 ·rintro vs r H1 EA ⟨a,j,q1,q2,rfl,GL,q3,q4,rfl⟩;exact⟨GL,rfl,by rw[q3,h9],by rw[q4];exact hk a j q1 q2⟩
 rintro vs r H1 EA ⟨e,k,GL,q1,q2,rfl,q3,rfl⟩;exact⟨GL,rfl,by rw[q3,h9],hX e k _ q1 q2⟩
theorem nine(vs:List Value)(EA:vs.length=9):∃x y z,∃v:V6,vs=[x,y,z,v.a,v.b,v.c,v.d,v.e,v.f]:=by
 match vs,EA with
 |[x,y,z,a,b,c,d,e,f],_=>exact⟨x,y,z,⟨a,b,c,d,e,f⟩,rfl⟩
variable {i:Nat}{n:Nw}(ht:Lz ts)(hi:i<=ts.length){A B C D E' F:AV}
include ht hi
theorem _root_.Go.Av.Ah.YC(hn:n.Aq=[])(hn2:n.names=[])(hl:H[4]?=some (.cells [.sl 3 (BB ts),.int .i64 i,.int .i64 len,C6,C6,C,D,E',F]))
  (hk:∀n' (j:Nat),GS (BE ts) ts.length n i=.ok n' j->j<=ts.length->Dn H 4 (.cells [.sl 3 (BB ts),.int .i64 j,.int .i64 len,.sl 3 (n'.Aq.map ED),.sl 1 (strs n'.names),C,D,E',F]) λH'=>K (.tuple []) E H')
  (hX:∀e k cs',GS (BE ts) ts.length n i=.fail e k->k<=ts.length->Dn H 4 (.cells cs') λH'=>X (.panic (Db ts len e k)) E H'):Ah Pg 47 [.ptr 4 0] E H K X:=by
 refine Ua [false,false,false,false,false,true,true,true,true] (λn' (j:Nat)=>[.sl 3 (BB ts),.int .i64 j,.int .i64 len,.sl 3 (n'.Aq.map ED),.sl 1 (strs n'.names),C,D,E',F]) hl rfl rfl (λvs EA=>?_) (λvs EA=>?_) hk hX
 ·obtain⟨x,y,z,v,rfl⟩:=nine vs EA
  exact(fQ ts len i n v ht hi hn hn2).Jw (λr H1 ⟨n',j,q1,q2,q3,q4⟩=>⟨n',j,q1,q2,q3,[.sl 3 (BB ts),.int .i64 j,.int .i64 len,.sl 3 (n'.Aq.map ED),.sl 1 (strs n'.names),C,D,E',F],rfl,rfl,q4⟩)
   (λx H1 ⟨e,k,j,l,l2,q1,q2,q3,q4⟩=>⟨e,k,[.sl 3 (BB ts),.int .i64 j,.int .i64 len,l,l2,C,D,E',F],q1,q2,q3,rfl,q4⟩)
 obtain⟨x,y,z,v,rfl⟩:=nine vs EA;rfl
theorem _root_.Go.Av.Ah.YB(hn:n.opers=[])(hl:H[4]?=some (.cells [.sl 3 (BB ts),.int .i64 i,.int .i64 len,A,B,C6,D,E',F]))
  (hk:∀n' (j:Nat),EM (BE ts) ts.length n i=.ok n' j->j<=ts.length->Dn H 4 (.cells [.sl 3 (BB ts),.int .i64 j,.int .i64 len,A,B,.sl 1 (n'.opers.map BP),D,E',F]) λH'=>K (.tuple []) E H')
  (hX:∀e k cs',EM (BE ts) ts.length n i=.fail e k->k<=ts.length->Dn H 4 (.cells cs') λH'=>X (.panic (Db ts len e k)) E H'):Ah Pg 48 [.ptr 4 0] E H K X:=by
 refine Ua [false,false,false,true,true,false,true,true,true] (λn' (j:Nat)=>[.sl 3 (BB ts),.int .i64 j,.int .i64 len,A,B,.sl 1 (n'.opers.map BP),D,E',F]) hl rfl rfl (λvs EA=>?_) (λvs EA=>?_) hk hX
 ·obtain⟨x,y,z,v,rfl⟩:=nine vs EA
  exact(bN ts len i n v ht hi hn).Jw (λr H1 ⟨n',j,q1,q2,q3,q4⟩=>⟨n',j,q1,q2,q3,[.sl 3 (BB ts),.int .i64 j,.int .i64 len,A,B,.sl 1 (n'.opers.map BP),D,E',F],rfl,rfl,q4⟩)
   (λx H1 ⟨e,k,j,l,q1,q2,q3,q4⟩=>⟨e,k,[.sl 3 (BB ts),.int .i64 j,.int .i64 len,A,B,l,D,E',F],q1,q2,q3,rfl,q4⟩)
 obtain⟨x,y,z,v,rfl⟩:=nine vs EA;rfl
theorem _root_.Go.Av.Ah.jS(hn:n.Ag=[])(G0:n.opers.length<=3000)(hnn:n.names.length<=3000)(hl:H[4]?=some (.cells [.sl 3 (BB ts),.int .i64 i,.int .i64 len,A,.sl 1 (strs n.names),.sl 1 (n.opers.map BP),C6,E',F]))
  (hk:∀n' (j:Nat),GA (BE ts) ts.length n i=.ok n' j->j<=ts.length->Dn H 4 (.cells [.sl 3 (BB ts),.int .i64 j,.int .i64 len,A,.sl 1 (strs n.names),.sl 1 (n.opers.map BP),.sl 7 (n'.Ag.map Dq),E',F]) λH'=>K (.tuple []) E H')
  (hX:∀e k cs',GA (BE ts) ts.length n i=.fail e k->k<=ts.length->Dn H 4 (.cells cs') λH'=>X (.panic (Db ts len e k)) E H'):Ah Pg 49 [.ptr 4 0] E H K X:=by
 refine Ua [false,false,false,true,false,false,false,true,true] (λn' (j:Nat)=>[.sl 3 (BB ts),.int .i64 j,.int .i64 len,A,.sl 1 (strs n.names),.sl 1 (n.opers.map BP),.sl 7 (n'.Ag.map Dq),E',F]) hl rfl rfl (λvs EA=>?_) (λvs EA=>?_) hk hX
 ·obtain⟨x,y,z,v,rfl⟩:=nine vs EA
  exact(tS ts len i n v ht hi hn G0 hnn).Jw (λr H1 ⟨n',j,q1,q2,q3,q4⟩=>⟨n',j,q1,q2,q3,[.sl 3 (BB ts),.int .i64 j,.int .i64 len,A,.sl 1 (strs n.names),.sl 1 (n.opers.map BP),.sl 7 (n'.Ag.map Dq),E',F],rfl,rfl,q4⟩)
   (λx H1 ⟨e,k,j,l,q1,q2,q3,q4⟩=>⟨e,k,[.sl 3 (BB ts),.int .i64 j,.int .i64 len,A,.sl 1 (strs n.names),.sl 1 (n.opers.map BP),l,E',F],q1,q2,q3,rfl,q4⟩)
 obtain⟨x,y,z,v,rfl⟩:=nine vs EA;rfl
theorem _root_.Go.Av.Ah.ZaN(hn:n.Am=[])(ho:n.Ag.length<=3000)(hl:H[4]?=some (.cells [.sl 3 (BB ts),.int .i64 i,.int .i64 len,A,B,C,.sl 7 (n.Ag.map Dq),C6,F]))
  (hk:∀n' (j:Nat),FE (BE ts) ts.length n i=.ok n' j->j<=ts.length->Dn H 4 (.cells [.sl 3 (BB ts),.int .i64 j,.int .i64 len,A,B,C,.sl 7 (n.Ag.map Dq),.sl 6 (n'.Am.map Kf),F]) λH'=>K (.tuple []) E H')
  (hX:∀e k cs',FE (BE ts) ts.length n i=.fail e k->k<=ts.length->Dn H 4 (.cells cs') λH'=>X (.panic (Db ts len e k)) E H'):Ah Pg 50 [.ptr 4 0] E H K X:=by
 refine Ua [false,false,false,true,true,true,false,false,true] (λn' (j:Nat)=>[.sl 3 (BB ts),.int .i64 j,.int .i64 len,A,B,C,.sl 7 (n.Ag.map Dq),.sl 6 (n'.Am.map Kf),F]) hl rfl rfl (λvs EA=>?_) (λvs EA=>?_) hk hX
 ·obtain⟨x,y,z,v,rfl⟩:=nine vs EA
  exact(ZdY ts len i n v ht hi hn ho).Jw (λr H1 ⟨n',j,q1,q2,q3,q4⟩=>⟨n',j,q1,q2,q3,[.sl 3 (BB ts),.int .i64 j,.int .i64 len,A,B,C,.sl 7 (n.Ag.map Dq),.sl 6 (n'.Am.map Kf),F],rfl,rfl,q4⟩)
   (λx H1 ⟨e,k,j,l,q1,q2,q3,q4⟩=>⟨e,k,[.sl 3 (BB ts),.int .i64 j,.int .i64 len,A,B,C,.sl 7 (n.Ag.map Dq),l,F],q1,q2,q3,rfl,q4⟩)
 obtain⟨x,y,z,v,rfl⟩:=nine vs EA;rfl
theorem _root_.Go.Av.Ah.jT(hn:n.Ao=[])(hl:H[4]?=some (.cells [.sl 3 (BB ts),.int .i64 i,.int .i64 len,A,B,C,D,E',C6]))
  (hk:∀n' (j:Nat),FN (BE ts) ts.length n i=.ok n' j->j<=ts.length->Dn H 4 (.cells [.sl 3 (BB ts),.int .i64 j,.int .i64 len,A,B,C,D,E',.sl 3 (n'.Ao.map Ft)]) λH'=>K (.tuple []) E H')
  (hX:∀e k cs',FN (BE ts) ts.length n i=.fail e k->k<=ts.length->Dn H 4 (.cells cs') λH'=>X (.panic (Db ts len e k)) E H'):Ah Pg 51 [.ptr 4 0] E H K X:=by
 refine Ua [false,false,false,true,true,true,true,true,false] (λn' (j:Nat)=>[.sl 3 (BB ts),.int .i64 j,.int .i64 len,A,B,C,D,E',.sl 3 (n'.Ao.map Ft)]) hl rfl rfl (λvs EA=>?_) (λvs EA=>?_) hk hX
 ·obtain⟨x,y,z,v,rfl⟩:=nine vs EA
  exact(xA ts len i n v ht hi hn).Jw (λr H1 ⟨n',j,q1,q2,q3,q4⟩=>⟨n',j,q1,q2,q3,[.sl 3 (BB ts),.int .i64 j,.int .i64 len,A,B,C,D,E',.sl 3 (n'.Ao.map Ft)],rfl,rfl,q4⟩)
   (λx H1 ⟨e,k,j,l,q1,q2,q3,q4⟩=>⟨e,k,[.sl 3 (BB ts),.int .i64 j,.int .i64 len,A,B,C,D,E',l],q1,q2,q3,rfl,q4⟩)
 obtain⟨x,y,z,v,rfl⟩:=nine vs EA;rfl
end
def Ge{α:Type}(p:PR α)(i:Nat):Prop:=match p with|.ok _ j=>i<=j|.fail _ _=>True
theorem Ge.bind{α β:Type}{p:PR α}{f:α->Nat->PR β}{i:Nat}(h:Ge p i)(hf:∀a j,Ge (f a j) j):Ge (p.bind f) i:=by
 cases p with
 |ok a j=>
  have:=hf a j;unfold Ge at h this⊢;simp only[PR.En];cases hh:f a j with
  |ok b k=>rw[hh]at this;simp only at this⊢;omega
  |fail e k=>trivial
 |fail e k=>trivial
section
variable {ts:List KT}
theorem Bp(k:Int)(x:Bs)(i:Nat):Ge (AD ts k x i) i:=by
 cases h:AD ts k x i with
 |ok a j=>have:=Bd h;simp only[Ge];omega
 |fail e k=>trivial
theorem OM(k:Int)(x:Bs)(i:Nat):Ge (AD ts k x i) (i+1):=by
 cases h:AD ts k x i with
 |ok a j=>have:=Bd h;simp only[Ge];omega
 |fail e k=>trivial
theorem P2(i:Nat):Ge (E8 ts i) i:=by
 cases h:E8 ts i with
 |ok a j=>have:=JN h;simp only[Ge];omega
 |fail e k=>trivial
theorem Q9(i:Nat):Ge (Ca ts i) i:=by
 cases h:Ca ts i with
 |ok a j=>have:=IM h;simp only[Ge];omega
 |fail e k=>trivial
theorem Zb4(i:Nat):Ge (NQ ts i) i:=by
 cases h:NQ ts i with
 |ok a j=>have:=Zbi h;simp only[Ge];omega
 |fail e k=>trivial
theorem ZeF(i:Nat):Ge (J0 ts i) i:=by
 cases h:J0 ts i with
 |ok a j=>have:=yW h;simp only[Ge];omega
 |fail e k=>trivial
theorem qC(i:Nat):Ge (G9 ts i) i:=by
 cases h:G9 ts i with
 |ok a j=>have:=mH h;simp only[Ge];omega
 |fail e k=>trivial
theorem MP(w:Bs)(i:Nat):Ge (Gb ts w i) i:=by
 cases h:Gb ts w i with
 |ok a j=>have:=KB h;simp only[Ge];omega
 |fail e k=>trivial
theorem Za(l:List Bs)(i:Nat):Ge (FY ts l i) i:=by
 cases h:FY ts l i with
 |ok a j=>have:=aU h;simp only[Ge];omega
 |fail e k=>trivial
theorem HK{α:Type}(a:α)(i:Nat):Ge (PR.ok a i) i:=C1 _
theorem qB:∀(f i:Nat),Ge (Ie ts f i) i
 |0,i=>HK _ _
 |f+1,i=>by
  unfold Ie;cases AW ts 1 Ba i with
  |true=>exact(Bp 1 Ba i).bind λ_ i=>(Zb4 i).bind λ_ i=>(Bp 3 Aw i).bind λ_ i=>(qB f i).bind λ_ i=>HK _ _
  |false=>exact HK _ _
theorem dZ:∀(f i:Nat),Ge (GM ts f i) i
 |0,i=>HK _ _
 |f+1,i=>by
  unfold GM;cases AW ts 3 Aw i with
  |true=>exact HK _ _
  |false=>exact(qC i).bind λ_ i=>(dZ f i).bind λ_ i=>HK _ _
theorem dY(i:Nat):Ge (Ee ts i) i:=by
 unfold Ee;cases AW ts 1 CC i with
 |true=>exact(Bp 1 CC i).bind λ_ i=>(qC i).bind λ_ i=>(dZ _ i).bind λ_ i=>(Bp 3 Aw i).bind λ_ i=>HK _ _
 |false=>exact HK _ _
theorem ZhF(i:Nat):Ge (Zr ts i) (i+1):=by
 unfold Zr
 exact(OM 1 AL i).bind λ_ i=>(P2 i).bind λ_ i=>(Bp 3 HV i).bind λ_ i=>(Bp 1 Hc i).bind λ_ i=>(Zb4 i).bind λ_ i=>(Bp 3 Aw i).bind λ_ i=>
  (Bp 1 HU i).bind λ_ i=>(ZeF i).bind λ_ i=>(Bp 3 Aw i).bind λ_ i=>(qB _ i).bind λ_ i=>(Bp 3 D2 i).bind λ_ i=>HK _ _
theorem ZeG(i:Nat):Ge (PA ts i) (i+1):=by
 unfold PA;exact(OM 1 AO i).bind λ_ i=>(P2 i).bind λ_ i=>(Bp 3 Aw i).bind λ_ i=>HK _ _
theorem ZhC(n:Nw)(i:Nat):Ge (VT ts n i) (i+1):=by
 unfold VT
 exact(OM 1 Ct i).bind λ_ i=>(P2 i).bind λ_ i=>(Bp 3 HV i).bind λ_ i=>(Bp 1 AO i).bind λ_ i=>(Za _ i).bind λ_ i=>(Bp 3 Aw i).bind λ_ i=>(Bp 1 AL i).bind λ_ i=>(Za _ i).bind λ_ i=>(Bp 3 Aw i).bind λ_ i=>
  (MP EF i).bind λ_ i=>(MP Fy i).bind λ_ i=>(MP EG i).bind λ_ i=>(dY i).bind λ_ i=>(Bp 3 D2 i).bind λ_ i=>HK _ _
end
theorem fO{ts:List KT}:∀(f:Nat)(n:Nw)(i:Nat){n':Nw}{j:Nat},GS ts f n i=.ok n' j->i<=j/\n'.names.length+i<=n.names.length+j/\n'.opers=n.opers/\n'.Ag=n.Ag/\n'.Am=n.Am/\n'.Ao=n.Ao
 |0,n,i,n',j,h=>by cases h;simp
 |f+1,n,i,n',j,h=>by
  unfold GS at h;cases hs:AW ts 1 AL i with
  |false=>rw[hs]at h;cases h;simp
  |true=>
   rw[hs,cond_true]at h;have hg:=ZhF (ts:=ts) i;cases hc:Zr ts i with
   |fail e k=>rw[hc]at h;cases h
   |ok c i1=>
    rw[hc]at h hg;have:=fO f _ _ h;exact YaK
theorem WR{ts:List KT}:∀(f:Nat)(n:Nw)(i:Nat){n':Nw}{j:Nat},EM ts f n i=.ok n' j->i<=j/\n'.opers.length+i<=n.opers.length+j/\n'.Aq=n.Aq/\n'.names=n.names/\n'.Ag=n.Ag/\n'.Am=n.Am/\n'.Ao=n.Ao
 |0,n,i,n',j,h=>by cases h;simp
 |f+1,n,i,n',j,h=>by
  unfold EM at h;cases hs:AW ts 1 AO i with
  |false=>rw[hs]at h;cases h;simp
  |true=>
   rw[hs,cond_true]at h;have hg:=ZeG (ts:=ts) i;cases hc:PA ts i with
   |fail e k=>rw[hc]at h;cases h
   |ok c i1=>
    rw[hc]at h hg;have:=WR f _ _ h;exact YaK
theorem bS{ts:List KT}:∀(f:Nat)(n:Nw)(i:Nat){n':Nw}{j:Nat},GA ts f n i=.ok n' j->i<=j/\n'.Ag.length+i<=n.Ag.length+j/\n'.Aq=n.Aq/\n'.names=n.names/\n'.opers=n.opers/\n'.Am=n.Am/\n'.Ao=n.Ao
 |0,n,i,n',j,h=>by cases h;simp
 |f+1,n,i,n',j,h=>by
  unfold GA at h;cases hs:AW ts 1 Ct i with
  |false=>rw[hs]at h;cases h;simp
  |true=>
   rw[hs,cond_true]at h;have hg:=ZhC (ts:=ts) n i;cases hc:VT ts n i with
   |fail e k=>rw[hc]at h;cases h
   |ok c i1=>
    rw[hc]at h hg;have:=bS f _ _ h;exact YaK
theorem cD{ts:List KT}:∀(f:Nat)(n:Nw)(i:Nat){n':Nw}{j:Nat},FE ts f n i=.ok n' j->n'.Aq=n.Aq/\n'.names=n.names/\n'.opers=n.opers/\n'.Ag=n.Ag/\n'.Ao=n.Ao
 |0,n,i,n',j,h=>by cases h;simp
 |f+1,n,i,n',j,h=>by
  unfold FE at h;cases hs:AW ts 1 DA i with
  |false=>rw[hs]at h;cases h;simp
  |true=>
   rw[hs,cond_true]at h;cases hc:VZ ts n i with
   |fail e k=>rw[hc]at h;cases h
   |ok c i1=>rw[hc,PR.En]at h;have:=cD f _ _ h;exact this
theorem fL{ts:List KT}:∀(f:Nat)(n:Nw)(i:Nat){n':Nw}{j:Nat},FN ts f n i=.ok n' j->n'.Aq=n.Aq/\n'.names=n.names/\n'.opers=n.opers/\n'.Ag=n.Ag/\n'.Am=n.Am
 |0,n,i,n',j,h=>by cases h;simp
 |f+1,n,i,n',j,h=>by
  unfold FN at h;cases hs:AW ts 1 CD i with
  |false=>rw[hs]at h;cases h;simp
  |true=>
   rw[hs,cond_true]at h;cases hc:Zo ts i with
   |fail e k=>rw[hc]at h;cases h
   |ok c i1=>rw[hc,PR.En]at h;have:=fL f _ _ h;exact this
theorem IS(F:List HO):∀(rest:List HO)(K:List HO->Prop),Cg F [] [] rest K↔K (rest.map (GX F))
 |[],K=>by simp[Cg]
 |o::r,K=>by rw[Cg,J5,IS F r];simp
def VV(n:Nw):AV:=.agg [.sl 3 (n.Aq.map ED),.sl 1 (strs n.names),.sl 1 (n.opers.map BP),.sl 7 (n.Ag.map Dq),.sl 6 (n.Am.map Kf),.sl 3 (n.Ao.map Ft)]
def oJ:Res->AV
 |.ok n=>.tuple [VV n,.int .i64 0,.int .i64 (-1)]
 |.err e p=>.tuple [VV dW,.int .i64 e,.int .i64 p]
theorem Za2(F:List HO)(a b c:List AV)(o1 o2 o3 x1 x2 x3:HO)(r:List HO)(K:List HO->Prop):Cg F [.cells a,.cells b,.cells c] [o1,o2,o3] (x1::x2::x3::r) K↔K (o1::o2::o3::r.map (GX F)):=by
 simp only[Cg,IS]
theorem Zak(n:List AV)(e p:Int):∀i,KJ (RH n e p) i=false
 |0=>rfl
 |1=>rfl
 |2=>rfl
 |i+3=>rfl
theorem xP(a b c d f g:List AV)(e p:Int):O1 Pg 46 [.ptr 0 0,.ptr 1 0,.ptr 2 0] (RH [.sl 3 a,.sl 1 b,.sl 1 c,.sl 7 d,.sl 6 f,.sl 3 g] e p) none (λH=>H=RH [.sl 3 a,.sl 1 b,.sl 1 c,.sl 7 d,.sl 6 f,.sl 3 g] e p):=by
 refine O1.Ak func46 rfl rfl Ab (by kernel_rfl) rfl ?_;conv=>whnf
 refine⟨⟨by kernel_rfl,rfl⟩,?_⟩;conv=>whnf
 refine Eu Ab _ ?_;conv=>whnf
 rfl
theorem Zoa(s:Bs)(R:AV->Prop)(vs:List Value){E:List AV}(rest:List HO)(e p:Int)(a b c d f g:List AV)(hR:R (.tuple [.agg [.sl 3 a,.sl 1 b,.sl 1 c,.sl 7 d,.sl 6 f,.sl 3 g],.int .i64 e,.int .i64 p])):
  V9 Pg N0 f11.results.toList R 46 3 none (.str s::.any::.ptr 0 0::.ptr 1 0::.ptr 2 0::E) (RH [.sl 3 a,.sl 1 b,.sl 1 c,.sl 7 d,.sl 6 f,.sl 3 g] e p++.ghost [.ptr 0 0,.ptr 1 0,.ptr 2 0] vs []::rest):=by
 unfold V9;refine(PH _ _ _).2 ⟨.ghost [.ptr 0 0,.ptr 1 0,.ptr 2 0] vs [],rfl,?_⟩;refine Oi.tT (xP a b c d f g e p) rfl rfl ⟨rfl,rfl,rfl,rfl,rfl,rfl,trivial⟩ ?_;rintro H1 rfl;rw[Bk,Jo (Zak _ _ _)];show Cg (RH [.sl 3 a,.sl 1 b,.sl 1 c,.sl 7 d,.sl 6 f,.sl 3 g] e p) [.cells [.sl 3 a,.sl 1 b,.sl 1 c,.sl 7 d,.sl 6 f,.sl 3 g],.cells [.int .i64 e],.cells [.int .i64 p]] [.cells [.sl 3 a,.sl 1 b,.sl 1 c,.sl 7 d,.sl 6 f,.sl 3 g],.cells [.int .i64 e],.cells [.int .i64 p]] (.cells [.sl 3 a,.sl 1 b,.sl 1 c,.sl 7 d,.sl 6 f,.sl 3 g]::.cells [.int .i64 e]::.cells [.int .i64 p]::.ghost [.ptr 0 0,.ptr 1 0,.ptr 2 0] vs []::rest) _;rw[Za2];generalize List.map _ (HO.ghost [.ptr 0 0,.ptr 1 0,.ptr 2 0] vs []::rest)=r;conv=>whnf
 exact hR
theorem Zn9(s:Bs)(R:AV->Prop)(vs:List Value){E:List AV}(rest:List HO)(e p:Int)(hR:R (.tuple [VV dW,.int .i64 e,.int .i64 p])):
  V9 Pg N0 f11.results.toList R 46 3 (some (.iface 103 (.agg [.int .i64 e,.int .i64 p]))) (.str s::.any::.ptr 0 0::.ptr 1 0::.ptr 2 0::E) (RH Ug 0 (-1)++.ghost [.ptr 0 0,.ptr 1 0,.ptr 2 0] vs []::rest):=by
 unfold V9;refine(PH _ _ _).2 ⟨.ghost [.ptr 0 0,.ptr 1 0,.ptr 2 0] vs [],rfl,?_⟩;refine Oi.tT (gA 0 (-1) e p Ug rfl) rfl rfl ⟨rfl,rfl,rfl,rfl,rfl,rfl,trivial⟩ ?_;rintro H1 rfl;rw[Bk,Jo (Zak _ _ _)];show Cg (RH Ug 0 (-1)) [.cells Ug,.cells [.int .i64 0],.cells [.int .i64 (-1)]] [.cells Ug,.cells [.int .i64 e],.cells [.int .i64 p]] (.cells Ug::.cells [.int .i64 0]::.cells [.int .i64 (-1)]::.ghost [.ptr 0 0,.ptr 1 0,.ptr 2 0] vs []::rest) _;rw[Za2];generalize List.map (GX (RH Ug 0 (-1))) (HO.ghost [.ptr 0 0,.ptr 1 0,.ptr 2 0] vs []::rest)=r;conv=>whnf
 refine⟨3,?_⟩;conv=>whnf
 refine⟨1,?_⟩;conv=>whnf
 refine⟨1,?_⟩;conv=>whnf
 refine⟨7,?_⟩;conv=>whnf
 refine⟨6,?_⟩;conv=>whnf
 refine⟨3,?_⟩;conv=>whnf
 exact hR
theorem ZhD{ts:List KT}(n:Nw)(i:Nat):Ge (VZ ts n i) i:=by
 unfold VZ
 exact(Bp 1 DA i).bind λ_ i=>(P2 i).bind λ_ i=>(Bp 3 Ek i).bind λ_ i=>(Za _ i).bind λ_ i=>(Bp 3 FP i).bind λ_ i=>(Za _ i).bind λ_ i=>(Bp 1 Qs i).bind λ_ i=>(Q9 i).bind λ_ i=>
  (Bp 1 Ec i).bind λ_ i=>(Q9 i).bind λ_ i=>(Bp 1 Hd i).bind λ_ i=>(Q9 i).bind λ_ i=>(Bp 3 Aw i).bind λ_ i=>HK _ _
theorem ZhE{ts:List KT}(i:Nat):Ge (Zo ts i) i:=by
 unfold Zo;exact(Bp 1 CD i).bind λ_ i=>(P2 i).bind λ_ i=>(Bp 3 HV i).bind λ_ i=>(MP LH i).bind λ_ i=>(MP DR i).bind λ_ i=>(Bp 3 D2 i).bind λ_ i=>HK _ _
theorem qA{ts:List KT}:∀(f:Nat)(n:Nw)(i:Nat),Ge (FE ts f n i) i
 |0,n,i=>HK _ _
 |f+1,n,i=>by
  unfold FE;cases AW ts 1 DA i with
  |true=>exact(ZhD n i).bind λ_ i=>qA f _ i
  |false=>exact HK _ _
theorem qD{ts:List KT}:∀(f:Nat)(n:Nw)(i:Nat),Ge (FN ts f n i) i
 |0,n,i=>HK _ _
 |f+1,n,i=>by
  unfold FN;cases AW ts 1 CD i with
  |true=>exact(ZhE i).bind λ_ i=>qD f _ i
  |false=>exact HK _ _
theorem Zb3{ts:List KT}{f:Nat}{n n':Nw}{i:Nat}(h:FE ts f n i=.ok n' j):i<=j:=by
 have:=qA (ts:=ts) f n i;rw[h]at this;exact this
theorem lM{ts:List KT}{f:Nat}{n n':Nw}{i:Nat}(h:FN ts f n i=.ok n' j):i<=j:=by
 have:=qD (ts:=ts) f n i;rw[h]at this;exact this
def ch5(ts:List KT)(L:Nat)(n:Nw)(i:Nat):PR Nw:=bif decide (i<L)then .fail 90 i else .ok n i
def ch4(ts:List KT)(L:Nat)(n:Nw)(i:Nat):PR Nw:=(FN ts L n i).bind (ch5 ts L)
def ch3(ts:List KT)(L:Nat)(n:Nw)(i:Nat):PR Nw:=(FE ts L n i).bind (ch4 ts L)
def ch2(ts:List KT)(L:Nat)(n:Nw)(i:Nat):PR Nw:=(GA ts L n i).bind (ch3 ts L)
def ch1(ts:List KT)(L:Nat)(n:Nw)(i:Nat):PR Nw:=(EM ts L n i).bind (ch2 ts L)
def ch0(ts:List KT)(L:Nat)(n:Nw)(i:Nat):PR Nw:=(GS ts L n i).bind (ch1 ts L)
def chain(ts:List KT)(L:Nat):Nat->Nw->Nat->PR Nw
 |0=>ch0 ts L
 |1=>ch1 ts L
 |2=>ch2 ts L
 |3=>ch3 ts L
 |4=>ch4 ts L
 |_=>ch5 ts L
def wK(k m:Nat)(l:AV):AV:=bif Nat.ble k m then C6 else l
def PC(ts:List Go.Av.Net.Tok)(len k i:Nat)(n:Nw):List AV:=
 [.sl 3 (BB ts),.int .i64 i,.int .i64 len,wK k 0 (.sl 3 (n.Aq.map ED)),wK k 0 (.sl 1 (strs n.names)),wK k 1 (.sl 1 (n.opers.map BP)),wK k 2 (.sl 7 (n.Ag.map Dq)),wK k 3 (.sl 6 (n.Am.map Kf)),wK k 4 (.sl 3 (n.Ao.map Ft))]
def Zjq:List AV:=[.mv 47 [.ptr 4 0],.mv 48 [.ptr 4 0],.mv 49 [.ptr 4 0],.mv 50 [.ptr 4 0],.mv 51 [.ptr 4 0]]
structure ZhZ(ts:List Go.Av.Net.Tok)(k i:Nat)(n:Nw):Prop where
 k5:k<=5
 hi:i<=ts.length
 xV:PG (BE ts)=chain (BE ts) ts.length k n i
 Aq:k<=0->n.Aq=[]/\n.names=[]
 opers:k<=1->n.opers=[]
 Ag:k<=2->n.Ag=[]
 Am:k<=3->n.Am=[]
 Ao:k<=4->n.Ao=[]
 ln:n.names.length<=i
 lo:n.opers.length<=i
 lf:n.Ag.length<=i
set_option maxHeartbeats 4000000 in
theorem fZ(s:Bs)(hs:s.length<=9223372036854775807):Au Pg 11 [.str s] (λr=>r=oJ (FZ s)):=by
 refine Au.JM func11 rfl Ab (by kernel_rfl) ?_;conv=>whnf
 refine Jj.seq1 (Ay Ab _ ?_);conv=>whnf
 refine Jj.seq1 (Ay Ab _ ?_);conv=>whnf
 refine cS (ZcI s hs) rfl ?_;conv=>whnf
 have hpp:=jD s;cases hL:NP s with
 |err e q=>
  obtain⟨h1,h2⟩:=cF hL;have hP:FZ s=.err e q:=by unfold FZ;rw[hL]
  rw[hP];conv=>whnf
  refine Jj.seq1 (Ay Ab _ ?_);conv=>whnf
  refine⟨λh=>?_,λh=>absurd h (by rcases h2 with rfl|rfl<;>simp)⟩;conv=>whnf
  refine Aa.NK (MN (λ|3=>[0]|4=>[0,1,3]|5=>[0,1,2,3,4]|_=>[]) 6 7 []) Ab mO (by kernel_rfl) ?_
  repeat' (first|exact True.intro|(refine EnF.step ?_;conv=>whnf)|(refine Ai ?_ ?_<;>conv=>whnf))
  all_goals (
   refine⟨3,?_⟩;(conv=>whnf);refine⟨1,?_⟩;(conv=>whnf);refine⟨1,?_⟩;(conv=>whnf);refine⟨7,?_⟩;(conv=>whnf);refine⟨6,?_⟩;(conv=>whnf);refine⟨3,?_⟩;rfl)
 |ok ts=>
  obtain⟨ht,h8,Fw⟩:=oW hL;have hl:=ht.len;have hP:FZ s=match PG (BE ts)with|.ok n _=>.ok n|.fail e i=>.err e (Ag ts s.length i):=by unfold FZ;rw[hL]<;>rfl
  conv=>whnf
  refine Jj.seq1 (Ay Ab _ ?_);conv=>whnf
  refine⟨λh=>absurd h (by simp),λh=>?_⟩;conv=>whnf
  refine Jj.Zgk (Jj.region Ab ?_);conv=>whnf
  refine⟨by kernel_rfl,?_⟩;conv=>whnf
  intro vs;refine kR ?_;have hlen:(BE ts).length=ts.length:=by simp[BE]
  have Znc:PG (BE ts)=ch0 (BE ts) ts.length dW 0:=by unfold PG;rw[hlen];rfl
  have fin:∀{E:List AV}(rest:List HO)(e:Int)(k:Nat),PG (BE ts)=.fail e k->V9 Pg N0 f11.results.toList (λr=>r=oJ (FZ s)) 46 3 (some (Db ts s.length e k)) (.str s::.any::.ptr 0 0::.ptr 1 0::.ptr 2 0::E) (RH Ug 0 (-1)++.ghost [.ptr 0 0,.ptr 1 0,.ptr 2 0] vs []::rest):=
   λrest e k h=>Zn9 s _ vs rest e _ (by rw[hP,h];rfl)
  refine Aa.G6 (λx:Nat×Nat×Nw=>mk 61 [(0,.str s),(2,.ptr 0 0),(3,.ptr 1 0),(4,.ptr 2 0),(6,.ptr 4 0),(36,.own 5 1 0 5),(37,.int .i64 5),(38,.int .i64 x.1)]) (λx=>RH Ug 0 (-1)++[.ghost [.ptr 0 0,.ptr 1 0,.ptr 2 0] vs [],.cells (PC ts s.length x.1 x.2.1 x.2.2),.arr 1 1 Zjq])
   (λx=>ZhZ ts x.1 x.2.1 x.2.2) (λx=>5-x.1) ⟨(0,0,dW),?_⟩ λx hx=>?_
  refine kQ ?_;exact⟨by simp only;omega,by simp only;omega,Znc,λ_=>⟨rfl,rfl⟩,λ_=>rfl,λ_=>rfl,λ_=>rfl,λ_=>rfl,C1 _,C1 _,C1 _⟩;obtain⟨k,i,n⟩:=x;simp only at hx;refine kR ?_;constructor<;>intro hk
  ·(have hk:k<5:=by simp at hk;omega);refine kR ?_;(have pR:k=0\/k=1\/k=2\/k=3\/k=4:=by omega);rcases pR with rfl|rfl|rfl|rfl|rfl
   ·refine⟨⟨by simp,by simp⟩,_,rfl,?_⟩;(conv=>whnf);refine kR ?_;refine Ah.YC ht hx.hi (hx.Aq (by omega)).1 (hx.Aq (by omega)).2 rfl (λn' j hq hj=>?_) (λe k' cs' h kZ=>?_);·(conv=>whnf);refine kR ?_;have lq:=fO _ _ _ hq;obtain⟨c1,c2,c3,c4,c5,c6⟩:=n;simp only at lq;obtain⟨l1,l2,rfl,rfl,rfl,rfl⟩:=lq;refine⟨(1,j,n'),?_⟩;refine qG ?_;exact⟨⟨by simp only;omega,hj,by rw[hx.xV];show ch0 _ _ _ _=_;unfold ch0;rw[hq];rfl,λh=>absurd h (by simp),λh=>hx.opers (by omega),λh=>hx.Ag (by omega),λh=>hx.Am (by omega),λh=>hx.Ao (by omega),by have:=hx.ln;simp only at this⊢;omega,by have:=hx.opers (by omega);simp only at this;rw[this];exact BK _,by have:=hx.Ag (by omega);simp only at this;rw[this];exact BK _⟩,by simp⟩
    (conv=>whnf);exact⟨⟨_,rfl⟩,fin _ e k' (by rw[hx.xV];show ch0 _ _ _ _=_;unfold ch0;rw[h];rfl)⟩
   ·refine⟨⟨by simp,by simp⟩,_,rfl,?_⟩;(conv=>whnf);refine kR ?_;refine Ah.YB ht hx.hi (hx.opers (by omega)) rfl (λn' j hq hj=>?_) (λe k' cs' h kZ=>?_);·(conv=>whnf);refine kR ?_;have lq:=WR _ _ _ hq;obtain⟨c1,c2,c3,c4,c5,c6⟩:=n;simp only at lq;obtain⟨l1,l2,rfl,rfl,rfl,rfl,rfl⟩:=lq;refine⟨(2,j,n'),?_⟩;refine qG ?_;exact⟨⟨by simp only;omega,hj,by rw[hx.xV];show ch1 _ _ _ _=_;unfold ch1;rw[hq];rfl,λh=>absurd h (by simp),λh=>absurd h (by simp),λh=>hx.Ag (by omega),λh=>hx.Am (by omega),λh=>hx.Ao (by omega),by have:=hx.ln;simp only at this⊢;omega,by have:=hx.lo;simp only at this⊢;omega,by have:=hx.Ag (by omega);simp only at this;rw[this];exact BK _⟩,by simp⟩
    (conv=>whnf);exact⟨⟨_,rfl⟩,fin _ e k' (by rw[hx.xV];show ch1 _ _ _ _=_;unfold ch1;rw[h];rfl)⟩
   ·refine⟨⟨by simp,by simp⟩,_,rfl,?_⟩;(conv=>whnf);refine kR ?_;refine Ah.jS ht hx.hi (hx.Ag (by omega)) (by have:=hx.lo;have:=hx.hi;omega) (by have:=hx.ln;have:=hx.hi;omega) rfl (λn' j hq hj=>?_) (λe k' cs' h kZ=>?_);·(conv=>whnf);refine kR ?_;have lq:=bS _ _ _ hq;obtain⟨c1,c2,c3,c4,c5,c6⟩:=n;simp only at lq;obtain⟨l1,l2,rfl,rfl,rfl,rfl,rfl⟩:=lq;refine⟨(3,j,n'),?_⟩;refine qG ?_;exact⟨⟨by simp only;omega,hj,by rw[hx.xV];show ch2 _ _ _ _=_;unfold ch2;rw[hq];rfl,λh=>absurd h (by simp),λh=>absurd h (by simp),λh=>absurd h (by simp),λh=>hx.Am (by omega),λh=>hx.Ao (by omega),by have:=hx.ln;simp only at this⊢;omega,by have:=hx.lo;simp only at this⊢;omega,by have:=hx.lf;simp only at this⊢;omega⟩,by simp⟩
    (conv=>whnf);exact⟨⟨_,rfl⟩,fin _ e k' (by rw[hx.xV];show ch2 _ _ _ _=_;unfold ch2;rw[h];rfl)⟩
   ·refine⟨⟨by simp,by simp⟩,_,rfl,?_⟩;(conv=>whnf);refine kR ?_;refine Ah.ZaN ht hx.hi (hx.Am (by omega)) (by have:=hx.lf;have:=hx.hi;omega) rfl (λn' j hq hj=>?_) (λe k' cs' h kZ=>?_);·(conv=>whnf);refine kR ?_;have lq:=cD _ _ _ hq;have l1:i<=j:=Zb3 hq;obtain⟨c1,c2,c3,c4,c5,c6⟩:=n;simp only at lq;obtain⟨rfl,rfl,rfl,rfl,rfl⟩:=lq;refine⟨(4,j,n'),?_⟩;refine qG ?_;exact⟨⟨by simp only;omega,hj,by rw[hx.xV];show ch3 _ _ _ _=_;unfold ch3;rw[hq];rfl,λh=>absurd h (by simp),λh=>absurd h (by simp),λh=>absurd h (by simp),λh=>absurd h (by simp),λh=>hx.Ao (by omega),by have:=hx.ln;simp only at this⊢;omega,by have:=hx.lo;simp only at this⊢;omega,by have:=hx.lf;simp only at this⊢;omega⟩,by simp⟩
    (conv=>whnf);exact⟨⟨_,rfl⟩,fin _ e k' (by rw[hx.xV];show ch3 _ _ _ _=_;unfold ch3;rw[h];rfl)⟩
   refine⟨⟨by simp,by simp⟩,_,rfl,?_⟩;(conv=>whnf);refine kR ?_;refine Ah.jT ht hx.hi (hx.Ao (by omega)) rfl (λn' j hq hj=>?_) (λe k' cs' h kZ=>?_);·(conv=>whnf);refine kR ?_;have lq:=fL _ _ _ hq;have l1:i<=j:=lM hq;obtain⟨c1,c2,c3,c4,c5,c6⟩:=n;simp only at lq;obtain⟨rfl,rfl,rfl,rfl,rfl⟩:=lq;refine⟨(5,j,n'),?_⟩;refine qG ?_;exact⟨⟨by simp only;omega,hj,by rw[hx.xV];show ch4 _ _ _ _=_;unfold ch4;rw[hq];rfl,λh=>absurd h (by simp),λh=>absurd h (by simp),λh=>absurd h (by simp),λh=>absurd h (by simp),λh=>absurd h (by simp),by have:=hx.ln;simp only at this⊢;omega,by have:=hx.lo;simp only at this⊢;omega,by have:=hx.lf;simp only at this⊢;omega⟩,by simp⟩
   (conv=>whnf);exact⟨⟨_,rfl⟩,fin _ e k' (by rw[hx.xV];show ch4 _ _ _ _=_;unfold ch4;rw[h];rfl)⟩
  have hk:k=5:=by have:=hx.k5;simp at hk;omega
  subst hk;have hi:=hx.hi;refine kR ?_;refine Aa.draw [] Ab mO (by kernel_rfl) ?_;conv=>whnf
  constructor<;>intro h;·(have h:i<ts.length:=by simp[BB]at h;omega);refine kW ?_;refine Ah.Mw (p:=PG (BE ts)) ts s.length i hl hi (by rw[hx.xV,if_pos h];show ch5 (BE ts) ts.length n i=_;unfold ch5;rw[decide_eq_true h];rfl) rfl (λj e k h hk=>?_);(conv=>whnf);exact⟨⟨_,rfl⟩,fin _ e k h⟩
  have h:¬i<ts.length:=by simp[BB]at h;omega
  have Nz:PG (BE ts)=.ok n i:=by rw[hx.xV];show ch5 (BE ts) ts.length n i=_;unfold ch5;rw[decide_eq_false h];rfl
  refine kW ?_;exact⟨⟨_,rfl⟩,Zoa s _ vs _ 0 (-1) _ _ _ _ _ _ (by rw[hP,Nz];rfl)⟩
theorem _root_.Go.Av.Au.lits{f:Nat}{args:List AV}{b:Bool}(h:Au P f args (λr=>r=.lit b\/r=.bool b)):Au P f args (λr=>r=.bool b):=
 ⟨h.D7,λC w vs h1 h2=>(h.out C w vs h1 h2).mono λe w' hp=>by
  obtain⟨r,v,h3,h4,h5,h6⟩:=hp
  refine⟨.bool b,v,h3,rfl,h5,?_⟩
  rcases h4 with rfl|rfl<;>(unfold Aj at*;exact h6)⟩
theorem drop_eq{α:Type}{a b:List α}(hl:a.length=b.length)(k:Nat)(h:k<a.length)(hp:a.take k=b.take k):(a=b↔a[k]=b[k]/\a.drop (k+1)=b.drop (k+1))/\(a[k]=b[k]->a.take (k+1)=b.take (k+1)):=by
 have h':k<b.length:=by omega
 have e1:a=a.take k++a[k]::a.drop (k+1):=by rw[<-Ax h,C5]
 have e2:b=b.take k++b[k]::b.drop (k+1):=by rw[<-Ax h',C5]
 refine⟨⟨λe=>by subst e;exact⟨rfl,rfl⟩,λ⟨q1,q2⟩=>by rw[e1,e2,hp,q1,q2]⟩,λq=>by rw[A6 h,A6 h',hp,q]⟩
theorem Tl{α:Type}{a b:List α}(hl:a.length=b.length)(hp:a.take a.length=b.take a.length):a=b:=by
 rw[C3,hl,C3]at hp;exact hp
theorem Pa(a b:List Bs)(ha:a.length<=100000)(hb:b.length<=100000):Au Pg 58 [.sl 1 (strs a),.sl 1 (strs b)] (λr=>r=.bool (decide (a=b))):=by
 refine Au.lits ?_;refine kB func58 rfl ?_;constructor<;>intro h
 ·have h:¬a.length=b.length:=by simp[strs]at h;omega
  refine kR ?_;rw[decide_eq_false (show ¬a=b from λe=>h (by rw[e]))];first|exact .inl rfl|exact .inr rfl
 have hl:a.length=b.length:=by simp[strs]at h;omega
 refine kR ?_;refine Aa.Ar (λk:Nat=>mk 26 [(0,.sl 1 (strs a)),(1,.sl 1 (strs b)),(5,.int .i64 k)]) (λ_=>[]) (λk=>k<=a.length/\a.take k=b.take k) (λk=>a.length-k) (λk hk=>⟨rfl,trivial⟩) ⟨0,?_⟩ (λ_=>rfl) λk hk=>?_;refine kQ ?_;simp;obtain⟨hk,hp⟩:=hk;refine kR ?_;constructor<;>intro h
 ·have h:k<a.length:=by simp[strs]at h;omega
  have h':k<b.length:=by omega
  obtain⟨q1,q2⟩:=drop_eq hl k h hp;refine kR ?_;refine Aa.draw [] Ab mO (by kernel_rfl) ?_;conv=>whnf
  refine⟨by omega,.str a[k],CW _ _ h,?_⟩;conv=>whnf
  refine⟨by omega,.str b[k],CW _ _ h',?_⟩;conv=>whnf
  constructor<;>intro hc;·(have hc:¬a[k]=b[k]:=by simpa using hc);refine kW ?_;rw[decide_eq_false (show ¬a=b from λe=>hc (q1.1 e).1)];first|exact .inl rfl|exact .inr rfl
  have hc:a[k]=b[k]:=by simpa using hc
  refine kW ?_;refine⟨k+1,?_⟩;refine qG ?_;exact⟨⟨by omega,q2 hc⟩,by omega⟩
 have h:k=a.length:=by simp[strs]at h;omega
 subst h;refine kR ?_;rw[decide_eq_true (Tl hl hp)];first|exact .inl rfl|exact .inr rfl
def Ed(a b:Dm):Bool:=decide (a.Bc=b.Bc)&&decide (a.Bw=b.Bw)&&decide (a.AZ=b.AZ)
theorem Yn(a b:Dm)(h1:a.Bw.length<=100000)(h2:b.Bw.length<=100000)(h3:a.AZ.length<=100000)(h4:b.AZ.length<=100000):Au Pg 59 [ED a,ED b] (λr=>r=.bool (Ed a b)):=by
 refine Au.lits ?_;refine kB func59 rfl ?_;have hF:¬(a.Bc=b.Bc/\a.Bw=b.Bw/\a.AZ=b.AZ)->Ed a b=false:=λh=>by rw[Dv];intro hh;unfold Ed at hh;simp only[CL,decide_eq_true_eq]at hh;exact h ⟨hh.1.1,hh.1.2,hh.2⟩
 repeat' (first|(refine Ai (λ_=>?_) (λ_=>?_)<;>conv=>whnf)|refine Ql ?_|fail)
 rotate_left
 rotate_left
 all_goals try (rw[hF (λ⟨e1,e2,e3⟩=>by simp_all)];first|exact .inl rfl|exact .inr rfl)
 rename_i x1 x2 x3;have e1:a.Bc=b.Bc:=by simpa using x1
 have e2:a.Bw.length=b.Bw.length:=by simp at x2;omega
 have e3:a.AZ.length=b.AZ.length:=by simp at x3;omega
 refine Aa.Ar (λk:Nat=>mk 66 [(2,.ptr 0 0),(3,.ptr 1 0),(5,.int .i64 k)]) (λ_=>[.cells [.int .i64 a.Bc,.sl 1 (a.Bw.map .bool),.sl 1 (a.AZ.map (.int .i64))],.cells [.int .i64 b.Bc,.sl 1 (b.Bw.map .bool),.sl 1 (b.AZ.map (.int .i64))]]) (λk=>k<=a.Bw.length/\a.Bw.take k=b.Bw.take k) (λk=>a.Bw.length-k) (λk hk=>⟨rfl,rfl,rfl,trivial⟩) ⟨0,?_⟩ (λ_=>rfl) λk hk=>?_;refine kQ ?_;simp;obtain⟨hk,hp⟩:=hk;refine kR ?_;constructor<;>intro h
 ·have h:k<a.Bw.length:=by simp at h;omega
  have h':k<b.Bw.length:=by omega
  obtain⟨q1,q2⟩:=drop_eq e2 k h hp;refine kR ?_;refine Aa.draw [] Ab mO (by kernel_rfl) ?_;conv=>whnf
  refine⟨by omega,.bool a.Bw[k],by simp[h],?_⟩;conv=>whnf
  constructor<;>intro g1<;>(conv=>whnf)
  all_goals
   refine⟨by omega,.bool b.Bw[k],by simp[h'],?_⟩;(conv=>whnf);constructor<;>intro g2<;>(conv=>whnf)
  all_goals
   constructor<;>intro g3<;>(conv=>whnf)
  all_goals first
   |(exfalso;simp at g3;done)
   |(repeat(refine sT rfl ?_;conv=>whnf)
     rw[hF (λe=>by have:=(q1.1 e.2.1).1;rw[g1,g2]at this;cases this)]
     first|exact .inl rfl|exact .inr rfl)
   |(repeat(refine sT rfl ?_;conv=>whnf)
     refine⟨k+1,?_⟩
     conv=>whnf
     refine qG ?_
     exact⟨⟨by omega,q2 (by rw[g1,g2])⟩,by omega⟩)
 have h:k=a.Bw.length:=by simp at h;omega
 subst h;have e4:=Tl e2 hp;refine kR ?_;refine Aa.Ar (λk:Nat=>mk 66 [(2,.ptr 0 0),(3,.ptr 1 0),(6,.int .i64 k)]) (λ_=>[.cells [.int .i64 a.Bc,.sl 1 (a.Bw.map .bool),.sl 1 (a.AZ.map (.int .i64))],.cells [.int .i64 b.Bc,.sl 1 (b.Bw.map .bool),.sl 1 (b.AZ.map (.int .i64))]]) (λk=>k<=a.AZ.length/\a.AZ.take k=b.AZ.take k) (λk=>a.AZ.length-k) (λk hk=>⟨rfl,rfl,rfl,trivial⟩) ⟨0,?_⟩ (λ_=>rfl) λk hk=>?_;refine kQ ?_;simp;obtain⟨hk,hp⟩:=hk;refine kR ?_;constructor<;>intro h
 ·have h:k<a.AZ.length:=by simp at h;omega
  have h':k<b.AZ.length:=by omega
  obtain⟨q1,q2⟩:=drop_eq e3 k h hp;refine kR ?_;refine Aa.draw [] Ab mO (by kernel_rfl) ?_;conv=>whnf
  refine⟨by omega,.int .i64 a.AZ[k],by simp[h],?_⟩;conv=>whnf
  refine⟨by omega,.int .i64 b.AZ[k],by simp[h'],?_⟩;conv=>whnf
  constructor<;>intro hc;·(have hc:¬a.AZ[k]=b.AZ[k]:=by simpa using hc);refine kW ?_;rw[hF (λe=>hc (q1.1 e.2.2).1)];first|exact .inl rfl|exact .inr rfl
  have hc:a.AZ[k]=b.AZ[k]:=by simpa using hc
  refine kW ?_;refine⟨k+1,?_⟩;refine qG ?_;exact⟨⟨by omega,q2 hc⟩,by omega⟩
 have h:k=a.AZ.length:=by simp at h;omega
 subst h;have e5:=Tl e3 hp;refine kR ?_;rw[show Ed a b=true by unfold Ed;simp[e1,e4,e5]];first|exact .inl rfl|exact .inr rfl
def Fz(a b:xQ):Bool:=decide (a.name=b.name)&&decide (a.oper=b.oper)&&decide (a.Gs=b.Gs)&&decide (a.Bg=b.Bg)&&decide (a.As=b.As)&&decide (a.Ap=b.Ap)&&decide (a.AK=b.AK)
theorem Ym(a b:xQ)(h1:a.AK.length<=100000)(h2:b.AK.length<=100000):Au Pg 60 [Dq a,Dq b] (λr=>r=.bool (Fz a b)):=by
 refine Au.lits ?_;refine kB func60 rfl ?_
 repeat' (first|(refine Ai (λ_=>?_) (λ_=>?_)<;>conv=>whnf)|(refine kC (Pa a.AK b.AK h1 h2) ?_)|refine Ql ?_|fail)
 all_goals (right;congr 1;unfold Fz;simp_all[A9])
def Ji{α:Type}(f:α->α->Bool):List α->List α->Bool
 |[],[]=>true
 |x::xs,y::ys=>f x y&&Ji f xs ys
 |_,_=>false
theorem Da{α:Type}{f:α->α->Bool}:∀{a b:List α},Ji f a b=true↔a.length=b.length/\∀(k:Nat)(h:k<a.length)(h':k<b.length),f a[k] b[k]=true
 |[],[]=>by simp[Ji]
 |[],_::_=>by simp[Ji]
 |_::_,[]=>by simp[Ji]
 |x::xs,y::ys=>by
  unfold Ji;rw[CL,Da];constructor
  ·rintro⟨h1,h2,h3⟩;refine⟨by simp[h2],λk h h'=>?_⟩;cases k with
   |zero=>exact h1
   |succ k=>exact h3 k (by simpa using h) (by simpa using h')
  rintro⟨h1,h2⟩;exact⟨h2 0 (by simp) (by simp),by simpa using h1,λk h h'=>h2 (k+1) (by simpa using h) (by simpa using h')⟩
def FA(a b:Lin):Bool:=decide (a.name=b.name)&&decide (a.from_=b.from_)&&decide (a.VJ=b.VJ)&&decide (a.at_=b.at_)&&decide (a.Bb=b.Bb)&&decide (a.load=b.load)
def FB(a b:Io):Bool:=decide (a.name=b.name)&&decide (a.cut=b.cut)&&decide (a.Be=b.Be)
def Fk(a b:Nw):Bool:=Ji Ed a.Aq b.Aq&&decide (a.names=b.names)&&Ji (λx y=>decide (x=y)) a.opers b.opers&&Ji Fz a.Ag b.Ag&&Ji FA a.Am b.Am&&Ji FB a.Ao b.Ao
structure Sml(n:Nw):Prop where
 Aq:n.Aq.length<=100000
 names:n.names.length<=100000
 opers:n.opers.length<=100000
 Ag:n.Ag.length<=100000
 Am:n.Am.length<=100000
 Ao:n.Ao.length<=100000
 Bw:∀c∈n.Aq,c.Bw.length<=100000/\c.AZ.length<=100000
 AK:∀o∈n.Ag,o.AK.length<=100000
structure ZcG(a b:Nw):Prop where
 e1:a.names=b.names
 e2:Ji Ed a.Aq b.Aq=true
 e3:Ji (λx y=>decide (x=y)) a.opers b.opers=true
 e4:Ji Fz a.Ag b.Ag=true
 e5:Ji FA a.Am b.Am=true
 e6:Ji FB a.Ao b.Ao=true
theorem TA{a b:Nw}:Fk a b=true↔ZcG a b:=by
 unfold Fk;simp only[CL,decide_eq_true_eq];exact⟨λ⟨⟨⟨⟨⟨h1,h2⟩,h3⟩,h4⟩,h5⟩,h6⟩=>⟨h2,h1,h3,h4,h5,h6⟩,λh=>⟨⟨⟨⟨⟨h.e2,h.e1⟩,h.e3⟩,h.e4⟩,h.e5⟩,h.e6⟩⟩
set_option maxHeartbeats 4000000 in
theorem QB(a b:Nw)(ha:Sml a)(hb:Sml b):Au Pg 13 [VV a,VV b] (λr=>r=.bool (Fk a b)):=by
 refine Au.lits ?_;refine kB func13 rfl ?_;have hF:¬ZcG a b->Fk a b=false:=λh=>by rw[Dv];intro hh;exact h (TA.1 hh)
 have hL:¬(a.Aq.length=b.Aq.length/\a.names=b.names/\a.opers.length=b.opers.length/\a.Ag.length=b.Ag.length/\a.Am.length=b.Am.length/\a.Ao.length=b.Ao.length)->Fk a b=false:=λh=>hF λe=>h ⟨(Da.1 e.e2).1,e.e1,(Da.1 e.e3).1,(Da.1 e.e4).1,(Da.1 e.e5).1,(Da.1 e.e6).1⟩
 repeat' (first|(refine Ai (λ_=>?_) (λ_=>?_)<;>conv=>whnf)|(refine kC (Pa a.names b.names ha.names hb.names) ?_)|refine Ql ?_|fail)
 rotate_left
 rotate_left
 all_goals try (rw[hL (λ⟨q1,q2,q3,q4,q5,q6⟩=>by simp_all)];first|exact .inl rfl|exact .inr rfl)
 rename_i x1 x2 x3 x4 x5 x6;obtain⟨m1,m2,m3,m4,m5,m6,m7,m8⟩:=ha;have l1:a.Aq.length=b.Aq.length:=by simp at x1;omega
 have enm:a.names=b.names:=by simpa using x2
 have l3:a.opers.length=b.opers.length:=by simp at x3;omega
 have l4:a.Ag.length=b.Ag.length:=by simp at x4;omega
 have l5:a.Am.length=b.Am.length:=by simp at x5;omega
 have l6:a.Ao.length=b.Ao.length:=by simp at x6;omega
 refine Aa.Ar (λk:Nat=>mk 153 [(2,.ptr 0 0),(3,.ptr 1 0),(5,.int .i64 k)]) (λ_=>[.cells [.sl 3 (a.Aq.map ED),.sl 1 (strs a.names),.sl 1 (a.opers.map BP),.sl 7 (a.Ag.map Dq),.sl 6 (a.Am.map Kf),.sl 3 (a.Ao.map Ft)],.cells [.sl 3 (b.Aq.map ED),.sl 1 (strs b.names),.sl 1 (b.opers.map BP),.sl 7 (b.Ag.map Dq),.sl 6 (b.Am.map Kf),.sl 3 (b.Ao.map Ft)]]) (λk=>k<=a.Aq.length/\∀(j:Nat)(h:j<a.Aq.length)(h':j<b.Aq.length),j<k->Ed a.Aq[j] b.Aq[j]=true) (λk=>a.Aq.length-k) (λk hk=>⟨rfl,rfl,rfl,trivial⟩) ⟨0,?_⟩ (λ_=>rfl) λk hk=>?_;refine kQ ?_;first|exact⟨BK _,λj h h' q=>absurd q (by omega)⟩|exact λj h h' q=>absurd q (by omega)
 obtain⟨hk,hp⟩:=hk;refine kR ?_;constructor<;>intro h
 ·have h:k<a.Aq.length:=by simp at h;omega
  have h':k<b.Aq.length:=by omega
  have NV:¬Ed a.Aq[k] b.Aq[k]=true->Fk a b=false:=λhn=>hF λe=>hn ((Da.1 e.e2).2 k h h');have Kt:Ed a.Aq[k] b.Aq[k]=true->∀(j:Nat)(h:j<a.Aq.length)(h':j<b.Aq.length),j<k+1->Ed a.Aq[j] b.Aq[j]=true:=λhg j h h' q=>by by_cases e:j=k;subst e;exact hg;exact hp j h h' (by omega)
  refine kR ?_;refine Aa.draw [] Ab mO (by kernel_rfl) ?_;conv=>whnf
  refine⟨by omega,ED a.Aq[k],by simp[h],?_⟩;conv=>whnf
  refine⟨by omega,ED b.Aq[k],by simp[h'],?_⟩;conv=>whnf
  refine⟨_,⟨Yn a.Aq[k] b.Aq[k] (m7 _ (A2 h)).1 (hb.Bw _ (A2 h')).1 (m7 _ (A2 h)).2 (hb.Bw _ (A2 h')).2,rfl⟩,?_⟩;exact YaG
 have h:k=a.Aq.length:=by simp at h;omega
 subst h;have z0:Ji Ed a.Aq b.Aq=true:=Da.2 ⟨by omega,λj h h'=>hp j h h' h⟩;refine kR ?_;refine Aa.Ar (λk:Nat=>mk 153 [(2,.ptr 0 0),(3,.ptr 1 0),(6,.int .i64 k)]) (λ_=>[.cells [.sl 3 (a.Aq.map ED),.sl 1 (strs a.names),.sl 1 (a.opers.map BP),.sl 7 (a.Ag.map Dq),.sl 6 (a.Am.map Kf),.sl 3 (a.Ao.map Ft)],.cells [.sl 3 (b.Aq.map ED),.sl 1 (strs b.names),.sl 1 (b.opers.map BP),.sl 7 (b.Ag.map Dq),.sl 6 (b.Am.map Kf),.sl 3 (b.Ao.map Ft)]]) (λk=>k<=a.opers.length/\∀(j:Nat)(h:j<a.opers.length)(h':j<b.opers.length),j<k->(λx y=>decide (x=y)) a.opers[j] b.opers[j]=true) (λk=>a.opers.length-k) (λk hk=>⟨rfl,rfl,rfl,trivial⟩) ⟨0,?_⟩ (λ_=>rfl) λk hk=>?_;refine kQ ?_;first|exact⟨BK _,λj h h' q=>absurd q (by omega)⟩|exact λj h h' q=>absurd q (by omega)
 obtain⟨hk,hp⟩:=hk;refine kR ?_;constructor<;>intro h
 ·have h:k<a.opers.length:=by simp at h;omega
  have h':k<b.opers.length:=by omega
  have NV:¬(λx y=>decide (x=y)) a.opers[k] b.opers[k]=true->Fk a b=false:=λhn=>hF λe=>hn ((Da.1 e.e3).2 k h h');have Kt:(λx y=>decide (x=y)) a.opers[k] b.opers[k]=true->∀(j:Nat)(h:j<a.opers.length)(h':j<b.opers.length),j<k+1->(λx y=>decide (x=y)) a.opers[j] b.opers[j]=true:=λhg j h h' q=>by by_cases e:j=k;subst e;exact hg;exact hp j h h' (by omega)
  refine kR ?_;refine Aa.draw [] Ab mO (by kernel_rfl) ?_;conv=>whnf
  refine⟨by omega,BP a.opers[k],by simp[h],?_⟩;conv=>whnf
  refine⟨by omega,BP b.opers[k],by simp[h'],?_⟩;conv=>whnf
  constructor<;>intro hg<;>(conv=>whnf);refine kR ?_;rw[NV (λq=>by simp[A9]at q hg;simp_all)];first|exact .inl rfl|exact .inr rfl
  refine kR ?_;refine⟨k+1,?_⟩;refine qG ?_;exact⟨⟨by omega,Kt (by simp[A9]at hg ⊢;simp_all)⟩,by omega⟩
 have h:k=a.opers.length:=by simp at h;omega
 subst h;have z1:Ji (λx y=>decide (x=y)) a.opers b.opers=true:=Da.2 ⟨by omega,λj h h'=>hp j h h' h⟩;refine kR ?_;refine Aa.Ar (λk:Nat=>mk 153 [(2,.ptr 0 0),(3,.ptr 1 0),(7,.int .i64 k)]) (λ_=>[.cells [.sl 3 (a.Aq.map ED),.sl 1 (strs a.names),.sl 1 (a.opers.map BP),.sl 7 (a.Ag.map Dq),.sl 6 (a.Am.map Kf),.sl 3 (a.Ao.map Ft)],.cells [.sl 3 (b.Aq.map ED),.sl 1 (strs b.names),.sl 1 (b.opers.map BP),.sl 7 (b.Ag.map Dq),.sl 6 (b.Am.map Kf),.sl 3 (b.Ao.map Ft)]]) (λk=>k<=a.Ag.length/\∀(j:Nat)(h:j<a.Ag.length)(h':j<b.Ag.length),j<k->Fz a.Ag[j] b.Ag[j]=true) (λk=>a.Ag.length-k) (λk hk=>⟨rfl,rfl,rfl,trivial⟩) ⟨0,?_⟩ (λ_=>rfl) λk hk=>?_;refine kQ ?_;first|exact⟨BK _,λj h h' q=>absurd q (by omega)⟩|exact λj h h' q=>absurd q (by omega)
 obtain⟨hk,hp⟩:=hk;refine kR ?_;constructor<;>intro h
 ·have h:k<a.Ag.length:=by simp at h;omega
  have h':k<b.Ag.length:=by omega
  have NV:¬Fz a.Ag[k] b.Ag[k]=true->Fk a b=false:=λhn=>hF λe=>hn ((Da.1 e.e4).2 k h h');have Kt:Fz a.Ag[k] b.Ag[k]=true->∀(j:Nat)(h:j<a.Ag.length)(h':j<b.Ag.length),j<k+1->Fz a.Ag[j] b.Ag[j]=true:=λhg j h h' q=>by by_cases e:j=k;subst e;exact hg;exact hp j h h' (by omega)
  refine kR ?_;refine Aa.draw [] Ab mO (by kernel_rfl) ?_;conv=>whnf
  refine⟨by omega,Dq a.Ag[k],by simp[h],?_⟩;conv=>whnf
  refine⟨by omega,Dq b.Ag[k],by simp[h'],?_⟩;conv=>whnf
  refine⟨_,⟨Ym a.Ag[k] b.Ag[k] (m8 _ (A2 h)) (hb.AK _ (A2 h')),rfl⟩,?_⟩;exact YaG
 have h:k=a.Ag.length:=by simp at h;omega
 subst h;have z2:Ji Fz a.Ag b.Ag=true:=Da.2 ⟨by omega,λj h h'=>hp j h h' h⟩;refine kR ?_;refine Aa.Ar (λk:Nat=>mk 153 [(2,.ptr 0 0),(3,.ptr 1 0),(8,.int .i64 k)]) (λ_=>[.cells [.sl 3 (a.Aq.map ED),.sl 1 (strs a.names),.sl 1 (a.opers.map BP),.sl 7 (a.Ag.map Dq),.sl 6 (a.Am.map Kf),.sl 3 (a.Ao.map Ft)],.cells [.sl 3 (b.Aq.map ED),.sl 1 (strs b.names),.sl 1 (b.opers.map BP),.sl 7 (b.Ag.map Dq),.sl 6 (b.Am.map Kf),.sl 3 (b.Ao.map Ft)]]) (λk=>k<=a.Am.length/\∀(j:Nat)(h:j<a.Am.length)(h':j<b.Am.length),j<k->FA a.Am[j] b.Am[j]=true) (λk=>a.Am.length-k) (λk hk=>⟨rfl,rfl,rfl,trivial⟩) ⟨0,?_⟩ (λ_=>rfl) λk hk=>?_;refine kQ ?_;first|exact⟨BK _,λj h h' q=>absurd q (by omega)⟩|exact λj h h' q=>absurd q (by omega)
 obtain⟨hk,hp⟩:=hk;refine kR ?_;constructor<;>intro h
 ·have h:k<a.Am.length:=by simp at h;omega
  have h':k<b.Am.length:=by omega
  have NV:¬FA a.Am[k] b.Am[k]=true->Fk a b=false:=λhn=>hF λe=>hn ((Da.1 e.e5).2 k h h');have Kt:FA a.Am[k] b.Am[k]=true->∀(j:Nat)(h:j<a.Am.length)(h':j<b.Am.length),j<k+1->FA a.Am[j] b.Am[j]=true:=λhg j h h' q=>by by_cases e:j=k;subst e;exact hg;exact hp j h h' (by omega)
  refine kR ?_;refine Aa.draw [] Ab mO (by kernel_rfl) ?_;conv=>whnf
  refine⟨by omega,Kf a.Am[k],by simp[h],?_⟩;conv=>whnf
  refine⟨by omega,Kf b.Am[k],by simp[h'],?_⟩;conv=>whnf
  constructor<;>intro hg<;>(conv=>whnf);refine kR ?_;rw[NV (λq=>by unfold FA at q;simp[A9]at q hg;simp_all)];first|exact .inl rfl|exact .inr rfl
  refine kR ?_;refine⟨k+1,?_⟩;refine qG ?_;exact⟨⟨by omega,Kt (by unfold FA;simp[A9]at hg ⊢;simp_all)⟩,by omega⟩
 have h:k=a.Am.length:=by simp at h;omega
 subst h;have z3:Ji FA a.Am b.Am=true:=Da.2 ⟨by omega,λj h h'=>hp j h h' h⟩;refine kR ?_;refine Aa.Ar (λk:Nat=>mk 153 [(2,.ptr 0 0),(3,.ptr 1 0),(9,.int .i64 k)]) (λ_=>[.cells [.sl 3 (a.Aq.map ED),.sl 1 (strs a.names),.sl 1 (a.opers.map BP),.sl 7 (a.Ag.map Dq),.sl 6 (a.Am.map Kf),.sl 3 (a.Ao.map Ft)],.cells [.sl 3 (b.Aq.map ED),.sl 1 (strs b.names),.sl 1 (b.opers.map BP),.sl 7 (b.Ag.map Dq),.sl 6 (b.Am.map Kf),.sl 3 (b.Ao.map Ft)]]) (λk=>k<=a.Ao.length/\∀(j:Nat)(h:j<a.Ao.length)(h':j<b.Ao.length),j<k->FB a.Ao[j] b.Ao[j]=true) (λk=>a.Ao.length-k) (λk hk=>⟨rfl,rfl,rfl,trivial⟩) ⟨0,?_⟩ (λ_=>rfl) λk hk=>?_;refine kQ ?_;first|exact⟨BK _,λj h h' q=>absurd q (by omega)⟩|exact λj h h' q=>absurd q (by omega)
 obtain⟨hk,hp⟩:=hk;refine kR ?_;constructor<;>intro h
 ·have h:k<a.Ao.length:=by simp at h;omega
  have h':k<b.Ao.length:=by omega
  have NV:¬FB a.Ao[k] b.Ao[k]=true->Fk a b=false:=λhn=>hF λe=>hn ((Da.1 e.e6).2 k h h');have Kt:FB a.Ao[k] b.Ao[k]=true->∀(j:Nat)(h:j<a.Ao.length)(h':j<b.Ao.length),j<k+1->FB a.Ao[j] b.Ao[j]=true:=λhg j h h' q=>by by_cases e:j=k;subst e;exact hg;exact hp j h h' (by omega)
  refine kR ?_;refine Aa.draw [] Ab mO (by kernel_rfl) ?_;conv=>whnf
  refine⟨by omega,Ft a.Ao[k],by simp[h],?_⟩;conv=>whnf
  refine⟨by omega,Ft b.Ao[k],by simp[h'],?_⟩;conv=>whnf
  constructor<;>intro hg<;>(conv=>whnf);refine kR ?_;rw[NV (λq=>by unfold FB at q;simp[A9]at q hg;simp_all)];first|exact .inl rfl|exact .inr rfl
  refine kR ?_;refine⟨k+1,?_⟩;refine qG ?_;exact⟨⟨by omega,Kt (by unfold FB;simp[A9]at hg ⊢;simp_all)⟩,by omega⟩
 have h:k=a.Ao.length:=by simp at h;omega
 subst h;have z4:Ji FB a.Ao b.Ao=true:=Da.2 ⟨by omega,λj h h'=>hp j h h' h⟩;refine kR ?_;rw[show Fk a b=true by unfold Fk;simp[z0,z1,z2,z3,z4,enm]];first|exact .inl rfl|exact .inr rfl
end Go.Proofs.YtmmhehdlnjojjaaGreatDoor.Np