/- Words of a line: what lies between blanks and tabs. -/
import Derived.Lib.FieldsP
import Derived.Lib.DecodeN
import Derived.Test.YtdadkhcdoaeabaaGreatDoorKf2
import Derived.Lib.Join
import Derived.Lib.ItoaNum
import Derived.Lib.AtoiAll
import Derived.Lib.Case
import Derived.Lib.SlTrimSet
import Derived.Lib.IndexLaws
import Derived.Lib.Bytealg
set_option linter.unusedVariables false
set_option maxRecDepth 100000
set_option linter.unusedSectionVars false
set_option linter.unusedSimpArgs false
open List renaming getElem?_eq_getElem → Af, drop_eq_nil_of_le → Ak, drop_eq_getElem_cons → Ax, length_append → AP, flatMap_cons → A0, flatten_cons → A7, length_cons → Bl, mem_cons → Bv, getElem_of_mem → BI, map_congr_left → BM, range_succ → BW, flatMap_append → BY, mem_singleton → Cb, drop_zero → Cg, getElem?_eq_some_iff → Cr, range → CL, map_cons → CM, all_reverse → C1, mem_flatten → C2, filter_cons → C3, take_append_drop → C4, singleton_append → Ds, getElem?_eq_none → DE, mem_cons_of_mem → DG, mem_of_mem_drop → D0, dropWhile_cons → Ef, sum_cons → Eu, getElem_take → EI, cons_append → E2, length_take → E4, length_drop → E5, nil_append → E8, mem_filter → Fk, drop_drop → Fl, all_cons → Fy
open Nat renaming add_zero → Bh, pow_le_pow_right → Bm, mul_le_mul_right → Bq, add_mul → Eg, zero_le → El, pow_succ → E0, le_trans → E1, strongRecOn → Fi
open Bool renaming and_eq_true → C0, or_eq_true → Fj
namespace Go.Proofs.YtdadkhcdoaeabaaGreatDoor.Ff
namespace Pl
abbrev Bs:=List UInt8
def Ej(c:UInt8):Bool:=decide (c.toNat=32)||decide (c.toNat=9)
def Fz:Bs->Bs->List Bs
 |cur,[]=>if cur=[]then []else [cur]
 |cur,c::r=>if Ej c then (if cur=[]then Fz [] r else cur::Fz [] r)else Fz (cur++[c]) r
def AB(s:Bs):List Bs:=Fz [] s
theorem PD:∀(x cur r:Bs),(∀c∈x,Ej c=false)->Fz cur (x++r)=Fz (cur++x) r
 |[],cur,r,_=>by simp
 |c::x,cur,r,h=>by
  have hc:=h c (by simp)
  rw[E2,Fz,if_neg (by simp[hc]),PD x (cur++[c]) r λd hd=>h d (by simp[hd])]
  simp
def D3(n:Nat):Bool:=decide (n=32)||decide (n=9)
theorem dN(s:ByteArray)(pos:Nat)(hp:pos<s.size):1<=(Utf8.decode s pos).2/\pos+(Utf8.decode s pos).2<=s.size/\
  ((D3 (Utf8.decode s pos).1=true/\(Utf8.decode s pos).2=1/\Ej (s.get! pos)=true)\/(D3 (Utf8.decode s pos).1=false/\∀j,j<(Utf8.decode s pos).2->Ej (s.get! (pos+j))=false)):=by
 rw[Lib.decode_at];generalize lO:(s.get! pos).toNat=b0;generalize PC:(s.get! (pos+1)).toNat=b1;generalize G0:(s.get! (pos+2)).toNat=b2;generalize pE:(s.get! (pos+3)).toNat=b3;have g0:∀n,(s.get! (pos+0)).toNat=n->n=b0:=λn h=>by rw[Bh,lO]at h;exact h.symm
 have nb:∀(c:UInt8),64<=c.toNat->Ej c=false:=λc h=>by unfold Ej;simp;omega
 unfold Lib.decodeN;split
 ·rename_i h0;refine⟨Nat.le_refl _,by simp only;omega,?_⟩
  by_cases Ur:D3 b0=true
  ·refine .inl ⟨Ur,rfl,?_⟩;unfold D3 at Ur;unfold Ej;rw[lO];exact Ur
  ·refine .inr ⟨by simpa using Ur,λj hj=>?_⟩
   have:j=0:=by simp only at hj;omega
   subst this;unfold D3 at Ur;unfold Ej;rw[Bh,lO];simpa using Ur
 ·rename_i h0
  have one:(1:Nat)<=1/\pos+1<=s.size/\((D3 65533=true/\(1:Nat)=1/\Ej (s.get! pos)=true)\/(D3 65533=false/\∀j,j<1->Ej (s.get! (pos+j))=false)):=by
   refine⟨Nat.le_refl _,by omega,.inr ⟨by decide,λj hj=>?_⟩⟩
   have:j=0:=by omega
   subst this;exact nb _ (by rw[Bh,lO];omega)
  split
  ·rename_i h1;split
   ·refine⟨by simp,by simp only;omega,.inr ⟨by unfold D3;simp;omega,λj hj=>?_⟩⟩
    have:j=0\/j=1:=by simp only at hj;omega
    rcases this with rfl|rfl;·exact nb _ (by rw[Bh,lO];omega)
    ·exact nb _ (by rw[PC];omega)
   ·exact one
  ·split
   ·rename_i h1;split
    ·refine⟨by simp,by simp only;omega,.inr ⟨by unfold D3;simp;omega,λj hj=>?_⟩⟩
     have:j=0\/j=1\/j=2:=by simp only at hj;omega
     rcases this with rfl|rfl|rfl;·exact nb _ (by rw[Bh,lO];omega)
     ·exact nb _ (by rw[PC];omega)
     ·exact nb _ (by rw[G0];omega)
    ·exact one
   ·split
    ·rename_i h1;split
     ·refine⟨by simp,by simp only;omega,.inr ⟨by unfold D3;simp;omega,λj hj=>?_⟩⟩
      have:j=0\/j=1\/j=2\/j=3:=by simp only at hj;omega
      rcases this with rfl|rfl|rfl|rfl;·exact nb _ (by rw[Bh,lO];omega)
      ·exact nb _ (by rw[PC];omega)
      ·exact nb _ (by rw[G0];omega)
      ·exact nb _ (by rw[pE];omega)
     ·exact one
    ·exact one
theorem Ln(s:ByteArray)(i:Nat)(h:i<s.size):s.data.toList[i]?=some (s.get! i):=by
 have h':i<s.data.size:=h;rw[Array.getElem?_toList,Array.getElem?_eq_getElem h'];congr 1;show s.data[i]=s.data[i]!
 rw[getElem!_pos s.data i h']
def Ee(l:Bs)(x:Nat×Nat):Bs:=(l.drop x.1).take (x.2-x.1)
theorem Nr(l:Bs)(a pos k:Nat)(h:a<=pos):Ee l (a,pos)++(l.drop pos).take k=Ee l (a,pos+k):=by
 unfold Ee;simp only;rw[show pos+k-a=(pos-a)+k by omega,List.take_add,Fl,show a+(pos-a)=pos by omega]
theorem piece_ne(l:Bs)(a pos:Nat)(h:a<pos)(hp:pos<=l.length):Ee l (a,pos)≠[]:=by
 unfold Ee;intro hc;have:=congrArg List.length hc;simp at this;omega
def Es(l:Bs)(st:Option Nat)(pos:Nat):Bs:=match st with|some a=>Ee l (a,pos)|none=>[]
theorem YX(s:ByteArray):∀(f pos:Nat)(st:Option Nat)(acc:List (Nat×Nat)),s.size<=pos+f->pos<=s.size->(∀a,st=some a->a<pos)->
  (Lib.closeSpans s (Lib.spansFromP D3 s f pos st acc)).map (Ee s.data.toList)=acc.map (Ee s.data.toList)++Fz (Es s.data.toList st pos) (s.data.toList.drop pos):=by
 have hlen:s.data.toList.length=s.size:=Array.length_toList;intro f;induction f with
 |zero=>
  intro pos st acc h1 h2 h3;have hp:pos=s.size:=by omega
  subst hp;unfold Lib.spansFromP Lib.closeSpans;rw[Ak (by omega)]
  cases st with
  |none=>simp[Es,Fz]
  |some a=>
   have:=piece_ne s.data.toList a s.size (h3 a rfl) (by omega)
   simp[Es,Fz,this]
 |succ f ih=>
  intro pos st acc h1 h2 h3;by_cases hp:pos<s.size
  ·obtain⟨k1,k2,k3⟩:=dN s pos hp;unfold Lib.spansFromP;rw[if_pos hp];generalize Utf8.decode s pos=d at*;obtain⟨r,k⟩:=d;simp only at k1 k2 k3⊢;rcases k3 with⟨hb,rfl,Yy⟩|⟨hb,Yy⟩
   ·rw[if_pos hb]
    have hd:s.data.toList.drop pos=s.get! pos::s.data.toList.drop (pos+1):=by
     have h':pos<s.data.toList.length:=by omega
     rw[Ax h'];have:=Ln s pos hp;rw[Af h']at this;injection this with this
     rw[this]
    rw[hd,Fz,if_pos Yy];cases st with
    |none=>simp only;rw[ih (pos+1) none acc (by omega) (by omega) (by simp)];simp[Es]
    |some a=>
     simp only;rw[ih (pos+1) none _ (by omega) (by omega) (by simp)]
     have:=piece_ne s.data.toList a pos (h3 a rfl) (by omega)
     simp[Es,this]
   ·rw[if_neg (by simp[hb])]
    have hd:s.data.toList.drop pos=(s.data.toList.drop pos).take k++s.data.toList.drop (pos+k):=by
     rw[<-Fl,C4]
    have yI:∀c∈(s.data.toList.drop pos).take k,Ej c=false:=by
     intro c hc;obtain⟨j,hj,rfl⟩:=BI hc;simp only[E4,E5]at hj;have O1:j<k:=by omega
     have:=Ln s (pos+j) (by omega)
     rw[EI,List.getElem_drop];rw[Af (by omega)]at this
     injection this with this
     rw[this];exact Yy j O1
    rw[hd,PD _ _ _ yI];cases st with
    |none=>
     simp only;rw[ih (pos+k) (some pos) acc (by omega) (by omega) (by intro a ha;injection ha with ha;omega)]
     simp only[Es,E8];unfold Ee;simp only[Nat.add_sub_cancel_left]
    |some a=>
     simp only;rw[ih (pos+k) (some a) acc (by omega) (by omega) (by intro b hb;injection hb with hb;have:=h3 a rfl;omega)]
     simp only[Es];rw[Nr _ _ _ _ (Nat.le_of_lt (h3 a rfl))]
  ·have hp:pos=s.size:=by omega
   subst hp;rw[Lib.spansFromP_end _ _ _ _ _ _ (by omega)]
   unfold Lib.closeSpans;rw[Ak (by omega)]
   cases st with
   |none=>simp[Es,Fz]
   |some a=>
    have:=piece_ne s.data.toList a s.size (h3 a rfl) (by omega)
    simp[Es,Fz,this]
theorem X4(s:ByteArray):(Lib.goFieldsP D3 s).map (λx=>x.data.toList)=AB s.data.toList:=by
 unfold Lib.goFieldsP Lib.spansOfP AB;have h:=YX s s.size 0 none [] (by omega) (by omega) (by simp)
 simp only[List.map_nil,E8,Cg,Es]at h;rw[<-h,List.map_map];refine BM λx _=>?_
 simp only[Function.comp];unfold Ee;rw[ByteArray.data_extract];simp
end Pl
open Go.Av Pl
theorem Pr(n:Int)(h0:-9223372036854775808<=n)(h1:n<=9223372036854775807):Wr .i64 n=n:=by
 unfold Wr;simp[IntKind.wrap,IntKind.bits,IntKind.signed];omega
structure Pt where
 k:Int
 t:Bs
deriving DecidableEq
def Pt.v(p:Pt):AV:=.agg [.int .i64 p.k,.str p.t]
def CP(l:List Pt):AV:=.sl 2 (l.map Pt.v)
structure Fm where
 name:Bs
 lines:List (List Pt)
def Fm.v(f:Fm):AV:=.agg [.str f.name,.sl 1 (f.lines.map CP)]
structure Ad where
 pe:Bs
 st:Bs
 nu:Int
 co:Bs
 to:Bs
deriving DecidableEq
def Ad.v(a:Ad):AV:=.agg [.str a.pe,.str a.st,.int .i64 a.nu,.str a.co,.str a.to]
def HT:Ad:=⟨[],[],0,[],[]⟩
abbrev strs(l:List Bs):List AV:=l.map AV.str
def AQ(l:List Bs):AV:=.sl 1 (strs l)
def BJ(c:UInt8):Bool:=decide (97<=c.toNat)&&decide (c.toNat<=122)
def F6(c:UInt8):Bool:=decide (65<=c.toNat)&&decide (c.toNat<=90)
def DF(c:UInt8):Bool:=BJ c||F6 c
def Dg(c:UInt8):Bool:=decide (48<=c.toNat)&&decide (c.toNat<=57)
def IK(c:UInt8):Bool:=DF c||Dg c||decide (c.toNat=45)||decide (c.toNat=39)||decide (c.toNat=46)
def DL(w:Bs):Bool:=decide (1<=w.length)&&decide (w.length<=20)&&w.all IK
def JN(c:UInt8):Bool:=decide (c.toNat=57)||decide (c.toNat=65)
def Vq(t:Bs):Bool:=decide (1<=t.length)&&decide (t.length<=8)&&t.all JN
def B5(c:UInt8):Bool:=BJ c||Dg c||decide (c.toNat=95)
def H9(s:Bs):Bool:=decide (1<=s.length)&&decide (s.length<=16)&&(match s with|c::_=>BJ c|[]=>false)&&s.all B5
def BV(p:Pt):Bool:=if p.k=1 then DL p.t else if p.k=3 then Vq p.t else if p.k=2\/p.k=4\/p.k=5\/p.k=6 then decide (p.t=[])else false
def Ce:Bs->Bs->Bool
 |[],[]=>true
 |c::w,d::p=>(!decide (d.toNat=57)||Dg c)&&(!decide (d.toNat=65)||DF c)&&Ce w p
 |_,_=>false
def upC(c:UInt8):UInt8:=if BJ c then c-32 else c
def CU(c:UInt8):UInt8:=if F6 c then c+32 else c
def qU(s:Bs):Bs:=s.map upC
def CF(s:Bs):Bs:=s.map CU
def Km(s:Bs):Nat:=s.foldl (λn c=>10*n+(c.toNat-48)) 0
def Et(w:Bs):Bool:=decide (w.length<=4)&&!decide (w.head?=some 48)&&w.all Dg&&decide (1<=w.length)
def EH(l:List Pt):List Int:=(l.filter λp=>decide (p.k≠1)).map Pt.k
def A1(f:Fm):Bool:=H9 f.name&&decide (1<=f.lines.length)&&decide (f.lines.length<=8)&&f.lines.all (λl=>decide (1<=l.length)&&decide (l.length<=8))&&f.lines.flatten.all BV&&decide (EH f.lines.flatten).Nodup
def Cy(p:Pt):Nat:=if p.k=1\/p.k=2\/p.k=3 then 1 else 4
def ZcH(p:Pt)(l:List Bs)(a:Ad):Option Ad:=
 let w:=l.headD []
 if p.k=1 then (if CF w=CF p.t then some a else none)
 else if p.k=2 then (if Et w then some {a with nu:=Km w} else none)
 else if p.k=3 then (if Ce w p.t then some {a with co:=qU w} else none)
 else if p.k=4 then some {a with st:=Lib.join l [32]}
 else if p.k=5 then some {a with to:=Lib.join l [32]}
 else some {a with pe:=Lib.join l [32]}
def Er:List Pt->List Bs->Ad->List Ad
 |[],[],a=>[a]
 |[],_::_,_=>[]
 |p::ps,ws,a=>(CL (min (Cy p) ws.length)).flatMap λi=>match ZcH p (ws.take (i+1)) a with
  |some b=>Er ps (ws.drop (i+1)) b
  |none=>[]
def ER:List (List Pt)->List (List Bs)->Ad->List Ad
 |[],[],a=>[a]
 |l::ls,w::ws,a=>(Er l w a).flatMap (ER ls ws)
 |_,_,_=>[]
def splitB:Bs->List Bs
 |[]=>[[]]
 |x::r=>if x=32 then []::splitB r else match splitB r with
  |[]=>[[x]]
  |y::ys=>(x::y)::ys
theorem DN(x:UInt8)(r:Bs):splitB (x::r)=if x=32 then []::splitB r else match splitB r with
  |[]=>[[x]]
  |y::ys=>(x::y)::ys:=rfl
theorem FN:∀s:Bs,1<=(splitB s).length
 |[]=>by simp[splitB]
 |x::r=>by
  unfold splitB;split;·simp
  ·split<;>simp
theorem Gh:∀{s:Bs},(32:UInt8)∉s->splitB s=[s]
 |[],_=>rfl
 |x::r,h=>by
  simp only[Bv,not_or]at h;unfold splitB;rw[if_neg (Ne.symm h.1),Gh h.2]
theorem Hh:∀{a:Bs}(r:Bs),(32:UInt8)∉a->splitB (a++32::r)=a::splitB r
 |[],r,_=>by simp[splitB]
 |x::a,r,h=>by
  simp only[Bv,not_or]at h;rw[E2,DN,if_neg (Ne.symm h.1),Hh r h.2]
theorem EC:∀s:Bs,(splitB s).length=s.count 32+1
 |[]=>rfl
 |x::r=>by
  have ih:=EC r;unfold splitB;by_cases hx:x=32;·rw[if_pos hx,hx];simp[ih]
  ·rw[if_neg hx];have hb:(x == 32)=false:=by simpa using hx
   rw[List.count_cons,hb];cases hs:splitB r with
   |nil=>rw[hs]at ih;simp at ih
   |cons y ys=>rw[hs]at ih;simpa using ih
theorem Tc:∀(s:Bs),∀w∈splitB s,w.length<=s.length
 |[],w,h=>by simp[splitB]at h;simp[h]
 |x::r,w,h=>by
  have ih:=Tc r;rw[DN]at h;split at h
  ·rcases Bv.1 h with rfl|h;·simp
   ·have:=ih w h;simp;omega
  ·split at h;·rw[Cb]at h;subst h;simp
   ·rename_i y ys hs;rw[hs]at ih;rcases Bv.1 h with rfl|h;·have:=ih y (by simp);simp;omega
    ·have:=ih w (by simp[h]);simp;omega
theorem PH{s:Bs}{m:Nat}(h:s[m]?=some 32)(hb:∀k,k<m->s[k]?≠some 32):splitB s=s.take m::splitB (s.drop (m+1)):=by
 have hm:m<s.length:=(Cr.1 h).1
 have e:s=s.take m++32::s.drop (m+1):=by
  have h2:s.drop m=s[m]::s.drop (m+1):=Ax hm;have h3:s[m]=32:=by have:=Af hm;rw[h]at this;exact(Option.some.inj this).symm
  rw[<-h3,<-h2,C4]
 have hn:(32:UInt8)∉s.take m:=by
  intro hc;obtain⟨i,hi,he⟩:=BI hc;simp only[E4]at hi;refine hb i (by omega) ?_
  rw[EI]at he;rw[Af (by omega),he]
 have:=Hh (s.drop (m+1)) hn;rw[<-e]at this;exact this
theorem Gi{s:Bs}(h:∀k:Nat,s[k]?≠some 32):splitB s=[s]:=by
 refine Gh λhc=>?_
 obtain⟨i,hi,he⟩:=BI hc;exact h i (by rw[Af hi,he])
theorem Lw(d:Nat)(h:d<10):(UInt8.ofNat (48+d)).toNat=48+d:=by
 simp[UInt8.toNat_ofNat'];omega
theorem WU:∀(u:Nat),∀c∈Lib.decDigits u,48<=c.toNat/\c.toNat<=57:=by
 intro u;induction u using Fi with
 |_ u ih=>
  intro c hc;rw[Lib.decDigits]at hc;split at hc
  ·rename_i h;rw[Cb]at hc;subst hc
   rw[Lw u h];omega
  ·rename_i h;rcases List.mem_append.1 hc with hc|hc;·exact ih (u/10) (by omega) c hc
   ·simp only[Cb]at hc;subst hc
    rw[Lw _ (Nat.mod_lt _ (by omega))];omega
theorem qF:∀(u:Nat),u<1000000000000->∀r,Lib.parseUint10 0 (Lib.decDigits u++r)=Lib.parseUint10 u r:=by
 intro u;induction u using Fi with
 |_ u ih=>
  intro hu r;rw[Lib.decDigits];split
  ·rename_i h;rw[Ds,Lib.parseUint10,Lw u h,if_pos (by omega),if_neg (by omega),if_neg (by omega)]
   simp
  ·rename_i h;rw[List.append_assoc,ih (u/10) (by omega) (by omega),Ds,Lib.parseUint10,Lw _ (Nat.mod_lt _ (by omega)),if_pos (by omega),if_neg (by omega),if_neg (by omega)]
   congr 1;omega
theorem iK(u:Nat):Lib.decDigits u≠[]:=by
 rw[Lib.decDigits];split<;>simp
theorem qN{n:Int}(h0:0<=n)(h1:n<=1000000):Lib.atoiAll (Lib.itoa n)=.ok n:=by
 obtain⟨u,rfl⟩:∃u:Nat,n=u:=⟨n.toNat,by omega⟩
 have e:Lib.itoa (u:Int)=Lib.decDigits u:=by unfold Lib.itoa;rw[if_neg (by omega)];simp
 rw[e];have hb:=WU u;have hp:=qF u (by omega) []
 have hn:=iK u;rw[List.append_nil]at hp;cases hd:Lib.decDigits u with
 |nil=>exact absurd hd hn
 |cons c r=>
  rw[hd]at hb hp;have hc:=hb c (by simp)
  unfold Lib.atoiAll;simp only;rw[if_neg (by omega)]
  unfold Lib.parseMag;rw[if_neg (by simp),hp]
  simp only[Lib.parseUint10];rw[if_neg (by omega),if_neg (by omega),if_neg (by omega)]
theorem nC(c:UInt8):Lib.isLowerB c=BJ c:=by
 unfold Lib.isLowerB BJ;simp only[UInt8.le_iff_toNat_le];rfl
theorem Zbk(c:UInt8):Lib.isUpperB c=F6 c:=by
 unfold Lib.isUpperB F6;simp only[UInt8.le_iff_toNat_le];rfl
theorem Zfy(s:Bs):Lib.toUpperA s=qU s:=by
 unfold Lib.toUpperA qU;refine BM λc _=>?_
 unfold Lib.upperB upC;rw[nC]
theorem Zc8(s:Bs):Lib.toLowerA s=CF s:=by
 unfold Lib.toLowerA CF;refine BM λc _=>?_
 unfold Lib.lowerB CU;rw[Zbk]
theorem gZ{c:UInt8}(h:IK c=true):c.toNat<128:=by
 unfold IK DF BJ F6 Dg at h;simp only[Fj,C0,decide_eq_true_eq]at h;omega
theorem Vp(c:UInt8):([57,65]:Bs).contains c=JN c:=by
 unfold JN;rw[Bool.eq_iff_iff];simp only[List.contains_cons,List.contains_nil,Bool.or_false,Fj,beq_iff_eq,decide_eq_true_eq,<-UInt8.toNat_inj];rfl
theorem DH(p:UInt8->Bool):∀l:Bs,l.dropWhile p=[]↔l.all p=true
 |[]=>by simp
 |c::r=>by
  rw[Ef];cases h:p c with
  |true=>simpa[h]using DH p r
  |false=>simp[h]
theorem MS(p:UInt8->Bool):∀l:Bs,(l.dropWhile p).all p=true->l.dropWhile p=[]
 |[],_=>rfl
 |c::r,h=>by
  rw[Ef]at h ⊢;cases hc:p c with
  |true=>rw[hc]at h;exact MS p r h
  |false=>rw[hc]at h;simp[hc]at h
theorem rV(t:Bs):(Lib.trimS t [57,65]=[])↔t.all JN=true:=by
 unfold Lib.trimS Lib.trimLeftS Lib.trimRightS;have e:(λb=>([57,65]:Bs).contains b)=JN:=funext Vp
 rw[show((([57,65]:Bs).contains ·))=JN from e]
 rw[DH];constructor
 ·intro h;rw[C1]at h;have:=MS JN t.reverse h;rw[DH,C1]at this;exact this
 ·intro h;have:t.reverse.dropWhile JN=[]:=by rw[DH,C1];exact h
  rw[this];rfl
theorem Fp(c:UInt8):Dg c=true↔48<=c.toNat/\c.toNat<=57:=by simp[Dg]
theorem eP{c:UInt8}{r:Bs}{acc:Nat}(h:Dg c=true)(ha:acc<1000000):Lib.parseUint10 acc (c::r)=Lib.parseUint10 (10*acc+(c.toNat-48)) r:=by
 have:=(Fp c).1 h;simp only[Lib.parseUint10];rw[if_pos this,if_neg (by omega),if_neg (by omega)]
 congr 1;omega
theorem Q3:∀(r:Bs)(n acc:Nat),r.length<=n->n<=4->acc<10^(5-n)->r.all Dg=true->Lib.parseUint10 acc r=.ok (r.foldl (λn c=>10*n+(c.toNat-48)) acc)/\r.foldl (λn c=>10*n+(c.toNat-48)) acc<10^5
 |[],n,acc,_,hn,ha,_=>⟨rfl,by
   simp only[List.foldl_nil];exact Nat.lt_of_lt_of_le ha (Bm (by omega) (by omega))⟩
 |c::r,n,acc,hl,hn,ha,h=>by
  simp only[Fy,C0]at h;obtain⟨n',rfl⟩:∃m,n=m+1:=⟨n-1,by simp at hl;omega⟩
  have hb:10^(5-(n'+1))<=10^4:=Bm (by omega) (by omega)
  have hc:=(Fp c).1 h.1
  have h2:10^(5-n')=10*10^(5-(n'+1)):=by
   rw[show 5-n'=(5-(n'+1))+1 by omega,E0];omega
  rw[eP h.1 (by omega)]
  exact Q3 r n' _ (by simp at hl;omega) (by omega) (by omega) h.2
theorem bO{w:Bs}(h:w.all Dg=true)(h1:1<=w.length)(h4:w.length<=4):Lib.atoiAll w=.ok (Km w:Int)/\Km w<100000:=by
 have hp:=Q3 w 4 0 h4 (by omega) (by omega) h
 refine⟨?_,by simpa[Km]using hp.2⟩
 cases w with
 |nil=>simp at h1
 |cons c r=>
  simp only[Fy,C0]at h;have hc:=(Fp c).1 h.1;unfold Lib.atoiAll;simp only;rw[if_neg (by omega)]
  unfold Lib.parseMag;rw[if_neg (by simp),hp.1]
  have h5:=hp.2;simp only;rw[if_neg (by omega),if_neg (by omega),if_neg (by omega)]
  rfl
theorem Yd:∀(k u:Nat),u<10^(k+1)->(Lib.decDigits u).length<=k+1
 |0,u,h=>by
  unfold Lib.decDigits;rw[dif_pos (by simpa using h)]
  simp
 |k+1,u,h=>by
  unfold Lib.decDigits;split;·simp
  ·have:=Yd k (u/10) (by rw[E0]at h;omega)
   simp;omega
theorem T9{n:Int}(h0:0<=n)(h1:n<=1000000):(Lib.itoa n).length<=7:=by
 unfold Lib.itoa;rw[if_neg (by omega)]
 exact Yd 6 _ (by omega)
theorem YQ(sep:Bs)(M:Nat):∀l:List Bs,(∀x∈l,x.length<=M)->(Lib.joinTail sep l).length<=l.length*(M+sep.length)
 |[],_=>by simp[Lib.joinTail]
 |x::l,h=>by
  have:=YQ sep M l (λz hz=>h z (DG _ hz))
  have hx:=h x (by simp)
  unfold Lib.joinTail at*;simp only[CM,A7,AP,Bl]at this ⊢;rw[Eg];omega
theorem OU(sep:Bs)(M:Nat):∀l:List Bs,(∀x∈l,x.length<=M)->(Lib.join l sep).length<=l.length*(M+sep.length)
 |[],_=>by simp[Lib.join_nil]
 |x::l,h=>by
  have:=YQ sep M l (λz hz=>h z (DG _ hz))
  have hx:=h x (by simp)
  rw[Lib.join_cons];simp only[AP,Bl];rw[Eg];omega
def Df(p:Pt)(l:List Bs)(a:Ad):Ad:=
 if p.k=1 then a
 else if p.k=2 then ⟨a.pe,a.st,if Et (l.headD [])then Km (l.headD [])else 0,a.co,a.to⟩
 else if p.k=3 then ⟨a.pe,a.st,a.nu,qU (l.headD []),a.to⟩
 else if p.k=4 then ⟨a.pe,Lib.join l [32],a.nu,a.co,a.to⟩
 else if p.k=5 then ⟨a.pe,a.st,a.nu,a.co,Lib.join l [32]⟩
 else ⟨Lib.join l [32],a.st,a.nu,a.co,a.to⟩
def Q7(p:Pt)(l:List Bs):Bool:=
 if p.k=1 then decide (CF (l.headD [])=CF p.t)
 else if p.k=2 then Et (l.headD [])
 else if p.k=3 then Ce (l.headD []) p.t
 else true
theorem jR(p:Pt)(l:List Bs)(a:Ad):ZcH p l a=if Q7 p l=true then some (Df p l a)else none:=by
 unfold ZcH Q7 Df;by_cases h1:p.k=1;·simp[h1]
 ·by_cases h2:p.k=2;·simp only[h2];cases Et (l.headD [])<;>simp
  ·by_cases h3:p.k=3;·simp[h3]
   ·simp only[h1,h2,h3,if_false,if_true];repeat' split
    all_goals rfl
def MD(P:List Pt)(k:Int):Prop:=∃p∈P,p.k=k
structure HN(P:List Pt)(a b:Ad):Prop where
 nu:¬MD P 2->a.nu=b.nu
 co:¬MD P 3->a.co=b.co
 st:¬MD P 4->a.st=b.st
 to:¬MD P 5->a.to=b.to
 pe:¬MD P 6->a.pe=b.pe
theorem HN.refl(P:List Pt)(a:Ad):HN P a a:=⟨λ_=>rfl,λ_=>rfl,λ_=>rfl,λ_=>rfl,λ_=>rfl⟩
theorem HN.trans{P:List Pt}{a b c:Ad}(h:HN P a b)(k:HN P b c):HN P a c:=
 ⟨λx=>(h.nu x).trans (k.nu x),λx=>(h.co x).trans (k.co x),λx=>(h.st x).trans (k.st x),λx=>(h.to x).trans (k.to x),λx=>(h.pe x).trans (k.pe x)⟩
theorem HN.symm{P:List Pt}{a b:Ad}(h:HN P a b):HN P b a:=
 ⟨λx=>(h.nu x).symm,λx=>(h.co x).symm,λx=>(h.st x).symm,λx=>(h.to x).symm,λx=>(h.pe x).symm⟩
theorem Jj{P Q:List Pt}(h:∀p∈P,p∈Q){k:Int}(hk:¬MD Q k):¬MD P k:=λ⟨p,hp,e⟩=>hk ⟨p,h p hp,e⟩
theorem HN.mono{P Q:List Pt}{a b:Ad}(h:∀p∈P,p∈Q)(k:HN P a b):HN Q a b:=
 ⟨λx=>k.nu (Jj h x),λx=>k.co (Jj h x),λx=>k.st (Jj h x),λx=>k.to (Jj h x),λx=>k.pe (Jj h x)⟩
theorem HN.nil{a b:Ad}(h:HN [] a b):a=b:=by
 have n:∀k,¬MD [] k:=λk ⟨p,hp,_⟩=>by cases hp
 obtain⟨a1,a2,a3,a4,a5⟩:=a;obtain⟨b1,b2,b3,b4,b5⟩:=b;have h1:=h.nu (n _);have h2:=h.co (n _);have h3:=h.st (n _);have h4:=h.to (n _);have h5:=h.pe (n _)
 simp only at h1 h2 h3 h4 h5;subst h1 h2 h3 h4 h5;rfl
theorem BT{p:Pt}{P:List Pt}{k:Int}(h1:p.k≠k)(h:¬MD P k):¬MD (p::P) k:=λ⟨q,hq,e⟩=>by
 rcases Bv.1 hq with rfl|hq;·exact h1 e
 ·exact h ⟨q,hq,e⟩
theorem tE{p:Pt}{l:List Bs}{a:Ad}(h:p.k=1\/p.k=2\/p.k=3\/p.k=4\/p.k=5\/p.k=6):HN [p] a (Df p l a):=by
 have n:∀k,p.k=k->¬¬MD [p] k:=λk e h=>h ⟨p,by simp,e⟩
 unfold Df;rcases h with h|h|h|h|h|h<;>simp only[h]<;>constructor<;>intro x<;>first|rfl|exact absurd x (n _ h)
theorem kE{p:Pt}{l:List Bs}{P:List Pt}{a b:Ad}(hp:p.k=1\/p.k=2\/p.k=3\/p.k=4\/p.k=5\/p.k=6)(h:HN (p::P) a b):HN P (Df p l a) (Df p l b):=by
 unfold Df
 rcases hp with hk|hk|hk|hk|hk|hk<;>simp only[hk]<;>constructor<;>intro x<;>first
  |rfl
  |exact h.nu (BT (by omega) x)
  |exact h.co (BT (by omega) x)
  |exact h.st (BT (by omega) x)
  |exact h.to (BT (by omega) x)
  |exact h.pe (BT (by omega) x)
def Ih(P:List Pt):Prop:=∀p∈P,p.k=1\/p.k=2\/p.k=3\/p.k=4\/p.k=5\/p.k=6
def Kb(p:Pt)(ps:List Pt)(ws:List Bs)(a:Ad)(i:Nat):List Ad:=
 if Q7 p (ws.take (i+1))=true then Er ps (ws.drop (i+1)) (Df p (ws.take (i+1)) a)else []
theorem EE(p:Pt)(ps:List Pt)(ws:List Bs)(a:Ad):Er (p::ps) ws a=(CL (min (Cy p) ws.length)).flatMap (Kb p ps ws a):=by
 rw[Er];congr 1;funext i
 unfold Kb;rw[jR];by_cases h:Q7 p (ws.take (i+1))=true;·rw[if_pos h,if_pos h]
 ·rw[if_neg h,if_neg h]
def A2(R:Ad->Ad->Prop):List Ad->List Ad->Prop
 |[],[]=>True
 |x::l,y::m=>R x y/\A2 R l m
 |_,_=>False
theorem RG{R:Ad->Ad->Prop}:∀{l m l' m':List Ad},A2 R l m->A2 R l' m'->A2 R (l++l') (m++m')
 |[],[],_,_,_,h=>h
 |_::_,_::_,_,_,h,k=>⟨h.1,RG h.2 k⟩
 |[],_::_,_,_,h,_|_::_,[],_,_,h,_=>h.elim
theorem Pq{R:Ad->Ad->Prop}:∀(l:List Nat)(f g:Nat->List Ad),(∀i∈l,A2 R (f i) (g i))->A2 R (l.flatMap f) (l.flatMap g)
 |[],_,_,_=>trivial
 |i::l,f,g,h=>by
  rw[A0,A0];have h1:=h i (by simp)
  have h2:=Pq l f g λj hj=>h j (by simp[hj])
  exact RG h1 h2
theorem P8(R:List Pt):∀(ps:List Pt)(ws:List Bs)(a b:Ad),Ih ps->HN (ps++R) a b->A2 (HN R) (Er ps ws a) (Er ps ws b)
 |[],[],a,b,_,h=>⟨by simpa using h,trivial⟩
 |[],_::_,a,b,_,h=>trivial
 |p::ps,ws,a,b,hg,h=>by
  rw[EE,EE];refine Pq _ _ _ λi _=>?_
  unfold Kb;split;·exact P8 R ps _ _ _ (λq hq=>hg q (by simp[hq])) (kE (hg p (by simp)) h)
  ·trivial
theorem Lq{R:Ad->Ad->Prop}{f:Ad->List Ad}(hf:∀a b,R a b->f a=f b):∀{l m:List Ad},A2 R l m->l.flatMap f=m.flatMap f
 |[],[],_=>rfl
 |_::_,_::_,h=>by rw[A0,A0,hf _ _ h.1,Lq hf h.2]
 |[],_::_,h|_::_,[],h=>h.elim
theorem Wo:∀(ls:List (List Pt)) (W:List (List Bs)) (a b:Ad),Ih ls.flatten->HN ls.flatten a b->ER ls W a=ER ls W b
 |[],[],a,b,_,h=>by
  have e:a=b:=HN.nil (by simpa using h)
  rw[e]
 |[],_::_,a,b,_,_|_::_,[],a,b,_,_=>rfl
 |l::ls,w::W,a,b,hg,h=>by
  rw[A7]at h hg;show(Er l w a).flatMap (ER ls W)=(Er l w b).flatMap (ER ls W)
  exact Lq (λx y hxy=>Wo ls W x y (λq hq=>hg q (by simp[hq])) hxy) (P8 ls.flatten l w a b (λq hq=>hg q (by simp[hq])) h)
def Ik(F:List (List Pt))(W:List (List Bs))(i j w:Nat)(a:Ad):List Ad:=
 match F[i]?,W[i]? with
 |some l,some x=>(Er (l.drop j) (x.drop w) a).flatMap (ER (F.drop (i+1)) (W.drop (i+1)))
 |_,_=>[a]
def dY(F:List (List Pt))(i j:Nat):List Pt:=((F[i]?.getD []).drop j)++(F.drop (i+1)).flatten
theorem aS{F:List (List Pt)}{W:List (List Bs)}{i j w:Nat}(h:i<F.length)(h2:i<W.length)(a:Ad):Ik F W i j w a=(Er (F[i].drop j) (W[i].drop w) a).flatMap (ER (F.drop (i+1)) (W.drop (i+1))):=by
 unfold Ik;rw[Af h,Af h2]
theorem QA{F:List (List Pt)}{W:List (List Bs)}{i j w:Nat}(h:F.length<=i)(a:Ad):Ik F W i j w a=[a]:=by
 unfold Ik;rw[DE h]
theorem kA{F:List (List Pt)}{i j:Nat}(h:i<F.length):dY F i j=F[i].drop j++(F.drop (i+1)).flatten:=by
 unfold dY;rw[Af h];rfl
theorem Uz{F:List (List Pt)}{W:List (List Bs)}(hl:F.length=W.length)(i:Nat)(h:i<=F.length)(a:Ad):Ik F W i 0 0 a=ER (F.drop i) (W.drop i) a:=by
 by_cases h2:i<F.length
 ·rw[aS h2 (by omega),Cg,Cg,Ax h2,Ax (by omega:i<W.length)]
  rfl
 ·rw[QA (by omega),Ak (by omega),Ak (by omega)]
  rfl
theorem nP{F:List (List Pt)}(i:Nat)(h:i<=F.length):dY F i 0=(F.drop i).flatten:=by
 by_cases h2:i<F.length;·rw[kA h2,Cg,Ax h2,A7]
 ·unfold dY;rw[DE (by omega),Ak (by omega:F.length<=i),Ak (by omega:F.length<=i+1)]
  rfl
theorem pS{F:List (List Pt)}{W:List (List Bs)}(hl:F.length=W.length){i j w:Nat}{a b:Ad}(hg:Ih F.flatten)(h:HN (dY F i j) a b):Ik F W i j w a=Ik F W i j w b:=by
 unfold Ik;unfold dY at h;cases hF:F[i]? with
 |none=>
  rw[hF]at h;have:F.length<=i:=by simpa using hF
  rw[Ak (by omega:F.length<=i+1)]at h
  have e:a=b:=HN.nil (by simpa using h)
  rw[e]
 |some l=>
  rw[hF]at h;cases hW:W[i]? with
  |none=>
   have h1:W.length<=i:=by simpa using hW
   have h2:i<F.length:=(Cr.1 hF).1;omega
  |some x=>
   have hm:l∈F:=List.mem_of_getElem? hF
   exact Lq (λx y hxy=>Wo _ _ x y (λq hq=>hg q (by
    obtain⟨m,hm2,hq2⟩:=C2.1 hq;exact C2.2 ⟨m,D0 hm2,hq2⟩)) hxy) (P8 _ _ _ a b (λq hq=>hg q (C2.2 ⟨l,hm,D0 hq⟩)) h)
def uM(p:Pt):Bool:=decide (Cy p=4)
def CE(l:List Pt):Nat:=(l.filter uM).length
theorem TS(p:Pt):Cy p=1\/Cy p=4:=by unfold Cy;split<;>simp
theorem TX(p:Pt)(l:List Pt):CE (p::l)=(if Cy p=4 then 1 else 0)+CE l:=by
 unfold CE uM;rw[C3];by_cases h:Cy p=4;·simp[h];omega
 ·simp[h]
theorem N7(p:Pt)(ps:List Pt)(ws:List Bs)(a:Ad)(i:Nat):Kb p ps ws a i=[]\/Kb p ps ws a i=Er ps (ws.drop (i+1)) (Df p (ws.take (i+1)) a):=by
 unfold Kb;split;·exact .inr rfl
 ·exact .inl rfl
theorem Jk(f:Nat->List Ad)(B:Nat):∀N,(∀i,i<N->(f i).length<=B)->((CL N).flatMap f).length<=N*B:=by
 intro N;induction N with
 |zero=>intro _;simp
 |succ N ih=>
  intro h;rw[BW,BY,AP];have h1:=ih λi hi=>h i (by omega)
  have h2:=h N (by omega)
  have e:[N].flatMap f=f N:=by simp
  rw[Eg,e];omega
theorem Si(f:Nat->List Ad):∀N,(∀i,i<N->f i=[])->(CL N).flatMap f=[]:=by
 intro N;induction N with
 |zero=>intro _;simp
 |succ N ih=>
  intro h;rw[BW,BY,ih λi hi=>h i (by omega)]
  simp[h N (by omega)]
theorem UE(f:Nat->List Ad)(i0:Nat):∀N,(∀i,i<N->(f i).length<=1/\(f i≠[]->i=i0))->((CL N).flatMap f).length<=1:=by
 intro N;induction N with
 |zero=>intro _;simp
 |succ N ih=>
  intro h;have e:[N].flatMap f=f N:=by simp
  rw[BW,BY,AP,e];by_cases hN:f N=[]
  ·have h1:=ih λi hi=>h i (by omega)
   rw[hN,List.length_nil];omega
  ·have hN0:=(h N (by omega)).2 hN
   have h2:=(h N (by omega)).1
   rw[Si f N λi hi=>by
    by_cases hf:f i=[];·exact hf
    ·have:=(h i (by omega)).2 hf;omega]
   simpa using h2
theorem Tr:∀(ps:List Pt)(ws:List Bs)(a:Ad),CE ps=0->(Er ps ws a).length<=1/\(Er ps ws a≠[]->ws.length=ps.length)
 |[],[],a,_=>⟨by show [a].length<=1;simp,λ_=>rfl⟩
 |[],_::_,a,_=>⟨by show([]:List Ad).length<=1;simp,λh=>absurd rfl h⟩
 |p::ps,ws,a,h=>by
  rw[TX]at h
  have hm:Cy p=1:=by
   rcases TS p with h2|h2;·exact h2
   ·rw[if_pos h2]at h;omega
  rw[EE,hm];cases ws with
  |nil=>simp
  |cons w ws=>
   have e:min 1 (w::ws).length=1:=by rw[Bl];omega
   rw[e];have e2:(CL 1).flatMap (Kb p ps (w::ws) a)=Kb p ps (w::ws) a 0:=by simp[BW]
   rw[e2];have ih:=Tr ps ((w::ws).drop 1) (Df p ((w::ws).take 1) a) (by omega)
   rcases N7 p ps (w::ws) a 0 with h3|h3;·rw[h3];simp
   ·rw[h3];exact⟨ih.1,λh4=>by have:=ih.2 h4;simp at this;simp[this]⟩
theorem K8:∀(ps:List Pt)(ws:List Bs)(a:Ad),(Er ps ws a).length<=4^(CE ps-1)
 |[],[],a=>by show [a].length<=_;simp[CE]
 |[],_::_,a=>El _
 |p::ps,ws,a=>by
  rw[EE,TX];rcases TS p with hm|hm
  ·rw[if_neg (by omega),hm,Nat.zero_add]
   refine E1 (Jk _ (4^(CE ps-1)) _ λi hi=>?_) ?_
   ·rcases N7 p ps ws a i with h3|h3;·rw[h3];exact El _
    ·rw[h3];exact K8 ps _ _
   ·calc min 1 ws.length*4^(CE ps-1)<=1*4^(CE ps-1):=Bq _ (by omega)
     _=4^(CE ps-1):=Nat.one_mul _
  ·rw[if_pos hm,hm];by_cases h0:CE ps=0
   ·rw[h0];refine UE _ (ws.length-ps.length-1) _ λi hi=>?_
    have ih:=Tr ps (ws.drop (i+1)) (Df p (ws.take (i+1)) a) h0;rcases N7 p ps ws a i with h3|h3;·rw[h3];exact⟨by simp,λh=>absurd rfl h⟩
    ·rw[h3];refine⟨ih.1,λh4=>?_⟩
     have:=ih.2 h4;rw[E5]at this;omega
   ·refine E1 (Jk _ (4^(CE ps-1)) _ λi hi=>?_) ?_
    ·rcases N7 p ps ws a i with h3|h3;·rw[h3];exact El _
     ·rw[h3];exact K8 ps _ _
    ·have e:4^(1+CE ps-1)=4*4^(CE ps-1):=by
      obtain⟨k,hk⟩:∃k,CE ps=k+1:=⟨CE ps-1,by omega⟩
      rw[hk,show 1+(k+1)-1=k+1 by omega,show k+1-1=k by omega,E0];omega
     rw[e];exact Bq _ (by omega)
def Ke(ls:List (List Pt)):Nat:=(ls.map λl=>CE l-1).sum
theorem MR(f:Ad->List Ad)(B:Nat)(hf:∀a,(f a).length<=B):∀l:List Ad,(l.flatMap f).length<=l.length*B
 |[]=>by simp
 |a::l=>by
  rw[A0,AP,Bl,Eg];have:=MR f B hf l;have:=hf a;omega
theorem QX:∀(ls:List (List Pt)) (W:List (List Bs)) (a:Ad),(ER ls W a).length<=4^Ke ls
 |[],[],a=>by show [a].length<=_;simp[Ke]
 |[],_::_,a|_::_,[],a=>El _
 |l::ls,w::W,a=>by
  show((Er l w a).flatMap (ER ls W)).length<=_
  refine E1 (MR _ (4^Ke ls) (λa=>QX ls W a) _) ?_
  have h1:=K8 l w a;have e:4^Ke (l::ls)=4^(CE l-1)*4^Ke ls:=by unfold Ke;rw[CM,Eu,Nat.pow_add]
  rw[e];exact Bq _ h1
theorem ZJ:∀(ls:List (List Pt)),Ke ls<=CE ls.flatten-1/\CE ls.flatten=(ls.map CE).sum
 |[]=>by simp[Ke,CE]
 |l::ls=>by
  have ih:=ZJ ls;have e:CE (l::ls).flatten=CE l+CE ls.flatten:=by unfold CE;rw[A7,List.filter_append,AP]
  have e2:Ke (l::ls)=(CE l-1)+Ke ls:=by unfold Ke;rw[CM,Eu]
  rw[e,e2,CM,Eu];omega
theorem Zx:∀(l:List Int),l.Nodup->(∀x∈l,x=4\/x=5\/x=6)->l.length<=3:=by
 intro l hn h
 have h1:∀(v:Int)(m:List Int),m.Nodup->(m.filter λx=>decide (x=v)).length<=1:=by
  intro v m;induction m with
  |nil=>intro _;simp
  |cons x m ih=>
   intro hn;rw[List.nodup_cons]at hn;rw[C3];by_cases hx:x=v
   ·rw[if_pos (by simp[hx])]
    have:m.filter (λx=>decide (x=v))=[]:=by
     rw[List.filter_eq_nil_iff];intro y hy hyv;simp at hyv;exact hn.1 (by rw[hx,<-hyv];exact hy)
    rw[this];simp
   ·rw[if_neg (by simp[hx])]
    exact ih hn.2
 have h2:∀(m:List Int),(∀x∈m,x=4\/x=5\/x=6)->m.length=(m.filter λx=>decide (x=4)).length+(m.filter λx=>decide (x=5)).length+(m.filter λx=>decide (x=6)).length:=by
  intro m;induction m with
  |nil=>intro _;simp
  |cons x m ih=>
   intro h;have:=ih λy hy=>h y (by simp[hy])
   rcases h x (by simp)with rfl|rfl|rfl<;>simp[C3]<;>omega
 have:=h1 4 l hn;have:=h1 5 l hn;have:=h1 6 l hn;have:=h2 l h;omega
theorem fL{l:List Pt}(hg:Ih l)(hn:(EH l).Nodup):CE l<=3:=by
 have e:CE l=((EH l).filter λk=>decide (k≠2)&&decide (k≠3)).length:=by
  unfold CE EH;rw[List.filter_map,List.length_map,List.filter_filter];congr 1;refine List.filter_congr λp hp=>?_
  unfold uM Cy;rcases hg p hp with h|h|h|h|h|h<;>simp[h]
 rw[e];refine Zx _ (hn.filter _) λx hx=>?_
 obtain⟨h1,h2⟩:=Fk.1 hx;unfold EH at h1;obtain⟨p,hp,rfl⟩:=List.mem_map.1 h1;obtain⟨h3,h4⟩:=Fk.1 hp;simp at h2 h4;have:=hg p h3;omega
theorem Wn{ls:List (List Pt)}(hg:Ih ls.flatten)(hn:(EH ls.flatten).Nodup)(W:List (List Bs))(a:Ad):(ER ls W a).length<=16:=by
 have h1:=QX ls W a;have h2:=ZJ ls;have h3:=fL hg hn;have h4:4^Ke ls<=4^2:=Bm (by omega) (by omega)
 omega
end Go.Proofs.YtdadkhcdoaeabaaGreatDoor.Ff