/- Forwarding. -/
import Derived.Test.YtdadkhcdoaeabaaGreatDoorQf
import Derived.Test.YtdadkhcdoaeabaaGreatDoorQr
import Derived.DeepKeys4
set_option linter.unusedVariables false
set_option maxRecDepth 100000
open And renaming intro → Aq
open Int renaming toNat_natCast → AO
open List renaming take_succ_eq_append_getElem → AZ, getElem?_eq_getElem → Bc, getD_eq_getElem?_getD → Bh, length_take → BC, mem_map → BJ, length_map → BV, length_append → Cb, mem_cons → Cf, getElem_mem → Cm, mem_of_getElem? → Cu, take_length → CA, pairwise_cons → CL, take_of_length_le → CM, map_append → CW, getElem_take → CX, drop_eq_getElem_cons → C0, replicate → C1, mem_singleton → C3, eq_nil_iff_forall_not_mem → Dt, mem_zipIdx_iff_getElem? → DG, nil_append → D0, getElem?_eq_some_iff → D5, length_cons → D6, drop_eq_nil_of_le → Ed, set_append_right → Ei, replicate_succ' → Ep, nodup_nil → EM, getElem_of_mem → EN, mem_filterMap → EX, any_eq_false → EY, mem_flatMap → E2, foldl_cons → E9, length_set → Fx, nodup_cons → FP, map_cons → Gm
open Nat renaming zero_add → Ba, le_refl → Bv, zero_le → BD, min_eq_left → C2, add_zero → C4, le_of_lt → Ds, le_of_ble_eq_true → DC, le_add_right → E4, not_lt_zero → Fv
open Option renaming getD_some → Ec, map_eq_some_iff → Ef, some → Fw
open Bool renaming eq_iff_iff → Eh, and_eq_true → E1, and_false → F0
open Go.Program renaming keyLits → Fy
open Go.IntKind renaming signed → Gj, bits → Gu
open Prod renaming snd → Gk
namespace Go.Proofs.YtdadkhcdoaeabaaGreatDoor
open Go.Av
open Rr.Pl (Pt Ad St Ch Bs My Mw)
open Rr (JH AY)
open Rr.Pl (DD Bm)
structure Od where
 fr:Pt
 tt:Pt
 st:Int
 en:Int
def Od.v(o:Od):AV:=.agg [.int .i64 o.fr.s,.int .i64 o.fr.n,.int .i64 o.tt.s,.int .i64 o.tt.n,.int .i64 o.st,.int .i64 o.en]
def H7(l:List Od):AV:=.sl 6 (l.map Od.v)
def VD(l:List Pt):AV:=.sl 2 (l.map Pt.v)
def ptB(p:Pt):Bool:=decide (0≤p.s)&&decide (0≤p.n)
def oH(o:Od):Bool:=decide (o.st≤o.en)&&decide (-1000000≤o.st)&&decide (o.en≤1000000)&&!decide (o.fr=o.tt)&&ptB o.fr&&ptB o.tt
def CC(l:List Od):Bool:=decide (l.length≤40)&&l.all oH
def TT(p:Pt)(day:Int)(o:Od):Bool:=decide (o.fr=p)&&decide (o.st≤day)&&decide (day≤o.en)
def Gl(l:List Od)(day:Int)(p:Pt):Option Pt:=(l.find? (TT p day)).map Od.tt
def U4(l:List Od)(day:Int):Nat→List Pt→Pt→List Pt×Int
 |0,_,_=>([],2)
 |k+1,seen,p=>if p∈seen then ([],70)else if 4<seen.length then ([],2)else match Gl l day p with
  |none=>(seen++[p],0)
  |some q=>U4 l day k (seen++[p]) q
def AW(l:List Od)(day:Int)(p:Pt):List Pt×Int:=if CC l then U4 l day 6 [] p else ([],1)
theorem fR(l:List Od)(day:Int):∀(k:Nat)(seen:List Pt)(p:Pt),(U4 l day k seen p).2=0∨U4 l day k seen p=([],70)∨U4 l day k seen p=([],2)
 |0,_,_=>.inr (.inr rfl)
 |k+1,seen,p=>by
  unfold U4;split;·exact .inr (.inl rfl)
  ·split;·exact .inr (.inr rfl)
   ·split;·exact .inl rfl
    ·exact fR l day k _ _
theorem qL(l:List Od)(day:Int):∀(k:Nat)(seen:List Pt)(p:Pt),(U4 l day k seen p).2=0→
  (∃r,(U4 l day k seen p).1=seen++p::r)∧(U4 l day k seen p).1.length≤5∧∃i q,(U4 l day k seen p).1=i++[q]∧Gl l day q=none
 |0,_,_,h=>by unfold U4 at h;cases h
 |k+1,seen,p,h=>by
  unfold U4 at h⊢;split at h;·cases h
  ·split at h;·cases h
   ·rename_i h1 h2;rw[if_neg h1,if_neg h2];cases hn:Gl l day p with
    |none=>exact⟨⟨[],rfl⟩,by simp;omega,seen,p,rfl,hn⟩
    |some q=>
     rw[hn]at h;simp only at h⊢;obtain⟨⟨r,k1⟩,k2,k3⟩:=qL l day k (seen++[p]) q h;exact⟨⟨q::r,by rw[k1];simp⟩,k2,k3⟩
theorem Yy(l:List Od)(day:Int)(k:Nat)(p:Pt)(h:Gl l day p=none):U4 l day (k+1) [] p=([p],0):=by
 unfold U4;rw[if_neg (by simp),if_neg (by simp),h]
 rfl
theorem bY{l:List Od}(hv:CC l=true)(day:Int)(p:Pt):(AW l day p).2=0∨AW l day p=([],70)∨AW l day p=([],2):=by
 unfold AW;rw[if_pos hv];exact fR l day 6 [] p
theorem kP{l:List Od}{day:Int}{p:Pt}(h:(AW l day p).2=0):∃i q,(∃r,(AW l day p).1=p::r)∧(AW l day p).1.length≤5∧(AW l day p).1=i++[q]∧AW l day q=([q],0):=by
 unfold AW at h⊢;split at h
 ·rename_i hv;simp only[if_pos hv];obtain⟨⟨r,k1⟩,k2,i,q,k3,k4⟩:=qL l day 6 [] p h;exact⟨i,q,⟨r,by rw[k1];rfl⟩,k2,k3,Yy l day 5 q k4⟩
 ·cases h
theorem bX(day:Int)(p:Pt):AW [] day p=([p],0):=by
 unfold AW;rw[if_pos (by rfl)]
 exact Yy [] day 5 p rfl
def Nd(x y:UInt8):Int:=if x=y then 0 else 1
def Dz(x:UInt8):Bs→List Int→Int→List Int
 |y::b,p::q::r,left=>min (min (p+Nd x y) (q+1)) (left+1)::Dz x b (q::r) (min (min (p+Nd x y) (q+1)) (left+1))
 |_,_,_=>[]
def Hn(n:Nat):List Int:=(List.range (n+1)).map λk:Nat=>(k:Int)
def IU(b:Bs):List UInt8→Nat→List Int→List Int
 |[],_,r=>r
 |x::a,i,r=>IU b a (i+1) (((i+1:Nat):Int)::Dz x b r ((i+1:Nat):Int))
def Cv(a b:Bs):Int:=if 200<a.length∨200<b.length then -1 else (IU b a 0 (Hn b.length)).getD b.length 0
theorem JV(x:UInt8):∀(b:Bs)(r:List Int)(left:Int),r.length=b.length+1→(Dz x b r left).length=b.length
 |[],r,_,h=>by unfold Dz;rfl
 |y::b,[],_,h=>by simp at h
 |y::b,[p],_,h=>by simp at h
 |y::b,p::q::r,left,h=>by
  unfold Dz;simp only[D6]at h ⊢;rw[JV x b (q::r) _ (by simpa using h)]
theorem WX(x:UInt8):∀(b:Bs)(r:List Int)(left:Int)(hr:r.length=b.length+1)(j:Nat)(hj:j<b.length),
  (left::Dz x b r left)[j+1]'(by simp[JV x b r left hr];omega)=min (min (r[j]'(by omega)+Nd x b[j]) (r[j+1]'(by omega)+1)) ((left::Dz x b r left)[j]'(by simp[JV x b r left hr];omega)+1)
 |[],r,_,h,j,hj=>by simp at hj
 |y::b,[],_,h,_,_=>by simp at h
 |y::b,[p],_,h,_,_=>by simp at h
 |y::b,p::q::r,left,h,0,hj=>by simp[Dz]
 |y::b,p::q::r,left,h,j+1,hj=>by
  have ih:=WX x b (q::r) (min (min (p+Nd x y) (q+1)) (left+1)) (by simpa using h) j (by simpa using hj)
  simpa[Dz]using ih
theorem WY(x:UInt8):∀(b:Bs)(r:List Int)(left m:Int),r.length=b.length+1→(∀y∈r,0≤y∧y≤m)→0≤left→left≤m+1→∀y∈Dz x b r left,0≤y∧y≤m+1
 |[],r,_,_,h,_,_,_=>by unfold Dz;simp
 |y::b,[],_,_,h,_,_,_=>by simp at h
 |y::b,[p],_,_,h,_,_,_=>by simp at h
 |y::b,p::q::r,left,m,h,h1,h2,h3=>by
  unfold Dz;have e1:=h1 p (by simp)
  have e2:=h1 q (by simp)
  have e3:0≤Nd x y∧Nd x y≤1:=by unfold Nd;split<;>omega
  have e4:0≤min (min (p+Nd x y) (q+1)) (left+1)∧min (min (p+Nd x y) (q+1)) (left+1)≤m+1:=by omega
  intro z hz;rcases Cf.1 hz with rfl|hz;·exact e4
  ·exact WY x b (q::r) _ m (by simpa using h) (λy hy=>h1 y (by simp at hy⊢;exact .inr hy)) e4.1 e4.2 z hz
theorem G3(n:Nat):(Hn n).length=n+1:=by unfold Hn;simp
theorem Rt(n:Nat):∀y∈Hn n,0≤y∧y≤(n:Int):=by
 intro y hy;unfold Hn at hy;obtain⟨k,hk,rfl⟩:=BJ.1 hy;have:=List.mem_range.1 hk;omega
theorem MU(b:Bs):∀(a:Bs)(i:Nat)(r:List Int),r.length=b.length+1→(IU b a i r).length=b.length+1
 |[],_,r,h=>h
 |x::a,i,r,h=>MU b a (i+1) _ (by simp[JV x b r _ h])
theorem MV(b:Bs):∀(a:Bs)(i:Nat)(r:List Int),r.length=b.length+1→(∀y∈r,0≤y∧y≤((i+b.length:Nat):Int))→∀y∈IU b a i r,0≤y∧y≤((i+a.length+b.length:Nat):Int)
 |[],_,r,h,hb=>by simpa[IU]using hb
 |x::a,i,r,h,hb=>by
  intro y hy
  have:=MV b a (i+1) _ (by simp[JV x b r _ h]) (λy hy=>by
   rcases Cf.1 hy with rfl|hy;·constructor<;>omega
   ·have:=WY x b r ((i+1:Nat):Int) ((i+b.length:Nat):Int) h hb (by omega) (by omega) y hy
    omega) y hy
  simp only[D6];omega
theorem NI(a b:Bs):-1≤Cv a b∧Cv a b≤400:=by
 unfold Cv;split;·constructor<;>omega
 ·rename_i h;have hl:=MU b a 0 (Hn b.length) (G3 _);have hb:=MV b a 0 (Hn b.length) (G3 _) (by simpa using Rt b.length)
  rw[Bh,Bc (by omega)]
  have:=hb _ (Cm (by omega:b.length<_))
  simp only[Ec];omega
end Go.Proofs.YtdadkhcdoaeabaaGreatDoor
namespace Go.Proofs.YtdadkhcdoaeabaaGreatDoor
open Ff.Pl (Bs Kp Eb Me piece_ne)
def T7(q:Nat→Bool):Bs→Bs→List Bs
 |cur,[]=>if cur=[]then []else [cur]
 |cur,c::r=>if q c.toNat then (if cur=[]then T7 q [] r else cur::T7 q [] r)else T7 q (cur++[c]) r
variable {q:Nat→Bool}
theorem WI:∀(x cur r:Bs),(∀c∈x,q c.toNat=false)→T7 q cur (x++r)=T7 q (cur++x) r
 |[],cur,r,_=>by simp
 |c::x,cur,r,h=>by
  have hc:=h c (by simp)
  rw[List.cons_append,T7,if_neg (by simp[hc]),WI x (cur++[c]) r λd hd=>h d (by simp[hd])]
  simp
variable (hq:∀n,64≤n→q n=false)
include hq
theorem runes(s:ByteArray)(pos:Nat)(hp:pos<s.size):1≤(Utf8.decode s pos).2∧pos+(Utf8.decode s pos).2≤s.size∧
  ((q (Utf8.decode s pos).1=true∧(Utf8.decode s pos).2=1∧q (s.get! pos).toNat=true)∨(q (Utf8.decode s pos).1=false∧∀j,j<(Utf8.decode s pos).2→q (s.get! (pos+j)).toNat=false)):=by
 rw[Lib.decode_at];generalize fM:(s.get! pos).toNat=b0;generalize N5:(s.get! (pos+1)).toNat=b1;generalize GA:(s.get! (pos+2)).toNat=b2;generalize kB:(s.get! (pos+3)).toNat=b3;have g0:∀n,(s.get! (pos+0)).toNat=n→n=b0:=λn h=>by rw[C4,fM]at h;exact h.symm
 have nb:∀(c:UInt8),64≤c.toNat→q c.toNat=false:=λc h=>hq _ h
 unfold Lib.decodeN;split
 ·rename_i h0;refine⟨Bv _,by simp only;omega,?_⟩
  by_cases PO:q b0=true;·exact .inl ⟨PO,rfl,PO⟩
  ·refine .inr ⟨by simpa using PO,λj hj=>?_⟩
   have:j=0:=by simp only at hj;omega
   subst this;rw[C4,fM];simpa using PO
 ·rename_i h0
  have one:(1:Nat)≤1∧pos+1≤s.size∧((q 65533=true∧(1:Nat)=1∧q b0=true)∨(q 65533=false∧∀j,j<1→q (s.get! (pos+j)).toNat=false)):=by
   refine⟨Bv _,by omega,.inr ⟨hq _ (by decide),λj hj=>?_⟩⟩
   have:j=0:=by omega
   subst this;exact nb _ (by rw[C4,fM];omega)
  split
  ·rename_i h1;split
   ·refine⟨by simp,by simp only;omega,.inr ⟨hq _ (by simp only;omega),λj hj=>?_⟩⟩
    have:j=0∨j=1:=by simp only at hj;omega
    rcases this with rfl|rfl;·exact nb _ (by rw[C4,fM];omega)
    ·exact nb _ (by rw[N5];omega)
   ·exact one
  ·split
   ·rename_i h1;split
    ·refine⟨by simp,by simp only;omega,.inr ⟨hq _ (by simp only;omega),λj hj=>?_⟩⟩
     have:j=0∨j=1∨j=2:=by simp only at hj;omega
     rcases this with rfl|rfl|rfl;·exact nb _ (by rw[C4,fM];omega)
     ·exact nb _ (by rw[N5];omega)
     ·exact nb _ (by rw[GA];omega)
    ·exact one
   ·split
    ·rename_i h1;split
     ·refine⟨by simp,by simp only;omega,.inr ⟨hq _ (by simp only;omega),λj hj=>?_⟩⟩
      have:j=0∨j=1∨j=2∨j=3:=by simp only at hj;omega
      rcases this with rfl|rfl|rfl|rfl;·exact nb _ (by rw[C4,fM];omega)
      ·exact nb _ (by rw[N5];omega)
      ·exact nb _ (by rw[GA];omega)
      ·exact nb _ (by rw[kB];omega)
     ·exact one
    ·exact one
def Eo(l:Bs)(st:Option Nat)(pos:Nat):Bs:=match st with|some a=>Eb l (a,pos)|none=>[]
theorem mW(s:ByteArray):∀(f pos:Nat)(st:Option Nat)(acc:List (Nat×Nat)),s.size≤pos+f→pos≤s.size→(∀a,st=some a→a<pos)→
  (Lib.closeSpans s (Lib.spansFromP q s f pos st acc)).map (Eb s.data.toList)=acc.map (Eb s.data.toList)++T7 q (Eo s.data.toList st pos) (s.data.toList.drop pos):=by
 have hlen:s.data.toList.length=s.size:=Array.length_toList;intro f;induction f with
 |zero=>
  intro pos st acc h1 h2 h3;have hp:pos=s.size:=by omega
  subst hp;unfold Lib.spansFromP Lib.closeSpans;rw[Ed (by omega)]
  cases st with
  |none=>simp[Eo,T7]
  |some a=>
   have:=piece_ne s.data.toList a s.size (h3 a rfl) (by omega)
   simp[Eo,T7,this]
 |succ f ih=>
  intro pos st acc h1 h2 h3;by_cases hp:pos<s.size
  ·obtain⟨k1,k2,k3⟩:=runes hq s pos hp;unfold Lib.spansFromP;rw[if_pos hp];generalize Utf8.decode s pos=d at*;obtain⟨r,k⟩:=d;simp only at k1 k2 k3⊢;rcases k3 with⟨hb,rfl,WC⟩|⟨hb,WC⟩
   ·rw[if_pos hb]
    have hd:s.data.toList.drop pos=s.get! pos::s.data.toList.drop (pos+1):=by
     have h':pos<s.data.toList.length:=by omega
     rw[C0 h'];have:=Kp s pos hp;rw[Bc h']at this;injection this with this
     rw[this]
    rw[hd,T7,if_pos WC];cases st with
    |none=>simp only;rw[ih (pos+1) none acc (by omega) (by omega) (by simp)];simp[Eo]
    |some a=>
     simp only;rw[ih (pos+1) none _ (by omega) (by omega) (by simp)]
     have:=piece_ne s.data.toList a pos (h3 a rfl) (by omega)
     simp[Eo,this]
   ·rw[if_neg (by simp[hb])]
    have hd:s.data.toList.drop pos=(s.data.toList.drop pos).take k++s.data.toList.drop (pos+k):=by
     rw[←List.drop_drop,List.take_append_drop]
    have lP:∀c∈(s.data.toList.drop pos).take k,q c.toNat=false:=by
     intro c hc;obtain⟨j,hj,rfl⟩:=EN hc;simp only[BC,List.length_drop]at hj;have PL:j<k:=by omega
     have:=Kp s (pos+j) (by omega)
     rw[CX,List.getElem_drop];rw[Bc (by omega)]at this
     injection this with this
     rw[this];exact WC j PL
    rw[hd,WI _ _ _ lP];cases st with
    |none=>
     simp only;rw[ih (pos+k) (some pos) acc (by omega) (by omega) (by intro a ha;injection ha with ha;omega)]
     simp only[Eo,D0];unfold Eb;simp only[Nat.add_sub_cancel_left]
    |some a=>
     simp only;rw[ih (pos+k) (some a) acc (by omega) (by omega) (by intro b hb;injection hb with hb;have:=h3 a rfl;omega)]
     simp only[Eo];rw[Me _ _ _ _ (Ds (h3 a rfl))]
  ·have hp:pos=s.size:=by omega
   subst hp;rw[Lib.spansFromP_end _ _ _ _ _ _ (by omega)]
   unfold Lib.closeSpans;rw[Ed (by omega)]
   cases st with
   |none=>simp[Eo,T7]
   |some a=>
    have:=piece_ne s.data.toList a s.size (h3 a rfl) (by omega)
    simp[Eo,T7,this]
theorem kT(s:ByteArray):(Lib.goFieldsP q s).map (λx=>x.data.toList)=T7 q [] s.data.toList:=by
 unfold Lib.goFieldsP Lib.spansOfP;have h:=mW hq s s.size 0 none [] (by omega) (by omega) (by simp)
 simp only[List.map_nil,D0,List.drop_zero,Eo]at h;rw[←h,List.map_map];refine List.map_congr_left λx _=>?_
 simp only[Function.comp];unfold Eb;rw[ByteArray.data_extract];simp
end Go.Proofs.YtdadkhcdoaeabaaGreatDoor
namespace Go.Proofs.YtdadkhcdoaeabaaGreatDoor
open Go.Av
open Rr.Pl (Pt Ad St Ch Bs My Mw DO Has adS)
open Rr (JH AY)
open Rr.Pl (DD Bm)
def W4(s:Bs):List Bs:=T7 (λn=>decide (n=32)) [] s
def YH:List (Bs×Bs):=
 [([115,116,114,101,101,116],[115,116]),([115,116,114,46],[115,116]),([115,116,114],[115,116]),([115,116,46],[115,116]),
  ([114,111,97,100],[114,100]),([114,100,46],[114,100]),([97,118,101,110,117,101],[97,118,101]),([97,118,101,46],[97,118,101]),
  ([108,97,110,101],[108,110]),([108,110,46],[108,110]),([115,113,117,97,114,101],[115,113]),([115,113,46],[115,113])]
def wN(w:Bs):Option Bs:=(YH.find? λx=>decide (x.1=w)).map Gk
def Sf(l:List Bs):List Bs:=if 2≤l.length then (match wN (l.getD (l.length-1) [])with|some x=>l.set (l.length-1) x|none=>l)else l
def foldM(s:Bs):Bs:=Lib.join (Sf (W4 (DO s))) [32]
structure Cd where
 s:Int
 n:Int
 c:Int
deriving DecidableEq
def Cd.v(c:Cd):AV:=.agg [.int .i64 c.s,.int .i64 c.n,.int .i64 c.c]
def Cd.p(c:Cd):Pt:=⟨c.s,c.n⟩
def EV(s:Bs):Bool:=decide (200<s.length)
def HI(s:St)(a:Ad):Option Int:=
 if (EV a.st||EV s.na)||s.al.any EV then none
 else if !decide (a.co=[])&&(EV a.co||EV s.co)||!decide (a.tw=[])&&(EV a.tw||EV s.to)then none
 else some ((s.al.map λx=>Cv (foldM a.st) (foldM x)).foldl min (Cv (foldM a.st) (foldM s.na))+(if a.co=[]then 0 else Cv a.co s.co)+(if a.tw=[]then 0 else Cv (foldM a.tw) (foldM s.to)))
def LS(a:Ad)(Ao:Int)(i:Nat)(s:St):Option Cd:=
 if s.op&&decide (s.lo≤a.nu)&&decide (a.nu≤s.hi)then match HI s a with
  |some c=>if c≤Ao then some ⟨i,a.nu-s.sh,c⟩else none
  |none=>none
 else none
def D9(S:List St)(a:Ad)(Ao:Int):List Cd:=S.zipIdx.filterMap λx=>LS a Ao x.2 x.1
def Dp(S:List St)(A:List Ad)(Ao:Int):List Cd:=A.flatMap λa=>D9 S a Ao
def Db(Ao:Int)(L:List Cd):Int:=L.foldl (λm c=>min m c.c) (Ao+1)
def Hu(Ao:Int)(L:List Cd):List Pt:=(L.filter λc=>decide (c.c=Db Ao L)).map Cd.p
def ltP(p q:Pt):Bool:=decide (p.s<q.s)||(decide (p.s=q.s)&&decide (p.n<q.n))
def Qu(p:Pt):List Pt→List Pt
 |[]=>[p]
 |q::r=>if ltP p q then p::q::r else if p=q then q::r else q::Qu p r
def LM(l:List Pt):List Pt:=l.foldr Qu []
def E7(l:List Pt):Prop:=l.Pairwise λp q=>ltP p q=true
theorem D4{p q:Pt}:ltP p q=true↔p.s<q.s∨(p.s=q.s∧p.n<q.n):=by unfold ltP;simp
theorem nS{p q:Pt}(h1:p.s=q.s)(h2:p.n=q.n):p=q:=by cases p;cases q;simp_all
theorem VT{p x:Pt}:∀{l:List Pt},x∈Qu p l↔x=p∨x∈l
 |[]=>by simp[Qu]
 |q::r=>by
  unfold Qu;split;·simp
  ·split
   ·rename_i h;subst h;simp
   ·simp only[Cf,VT (l:=r)];exact⟨λh=>by rcases h with h|h|h<;>simp[h],λh=>by rcases h with h|h|h<;>simp[h]⟩
theorem Rk{p:Pt}:∀{l:List Pt},E7 l→E7 (Qu p l)
 |[],_=>List.pairwise_singleton ..
 |q::r,h=>by
  unfold E7 at h;rw[CL]at h;unfold Qu;split
  ·rename_i AR;refine CL.2 ⟨λx hx=>?_,CL.2 h⟩
   rcases Cf.1 hx with rfl|hx;·exact AR
   ·have:=h.1 x hx;rw[D4]at *;omega
  ·split;·exact CL.2 h
   ·rename_i h1 h2;refine CL.2 ⟨λx hx=>?_,Rk h.2⟩
    rcases VT.1 hx with rfl|hx
    ·rw[D4]at *;have:¬(x.s=q.s∧x.n=q.n):=λh=>h2 (nS h.1 h.2)
     omega
    ·exact h.1 x hx
theorem Ip{x:Pt}:∀{l:List Pt},x∈LM l↔x∈l
 |[]=>by simp[LM]
 |p::l=>by
  show x∈Qu p (LM l)↔_
  rw[VT,Ip (l:=l),Cf]
theorem Hr:∀(l:List Pt),E7 (LM l)
 |[]=>List.Pairwise.nil
 |p::l=>Rk (Hr l)
theorem KQ:∀{a b:List Pt},E7 a→E7 b→(∀p,p∈a↔p∈b)→a=b
 |[],[],_,_,_=>rfl
 |[],q::r,_,_,h=>by have:=(h q).2 (by simp);cases this
 |p::l,[],_,_,h=>by have:=(h p).1 (by simp);cases this
 |p::l,q::r,ha,hb,h=>by
  unfold E7 at ha hb;rw[CL]at ha hb
  have hpq:p=q:=by
   have h1:=(h p).1 (by simp)
   have h2:=(h q).2 (by simp)
   rcases Cf.1 h1 with h1|h1;·exact h1
   ·rcases Cf.1 h2 with h2|h2;·exact h2.symm
    ·have k1:=D4.1 (hb.1 p h1);have k2:=D4.1 (ha.1 q h2);omega
  subst hpq;rw[KQ ha.2 hb.2 λx=>?_]
  have hx:=h x;simp only[Cf]at hx;constructor
  ·intro hm;rcases hx.1 (.inr hm)with rfl|h';·have:=D4.1 (ha.1 x hm);omega
   ·exact h'
  ·intro hm;rcases hx.2 (.inr hm)with rfl|h';·have:=D4.1 (hb.1 x hm);omega
   ·exact h'
theorem norm_eq{a b:List Pt}(h:∀p,p∈a↔p∈b):LM a=LM b:=
 KQ (Hr a) (Hr b) λp=>by rw[Ip,Ip,h]
theorem least_le(Ao:Int)(L:List Cd):Db Ao L≤Ao+1∧∀c∈L,Db Ao L≤c.c:=by
 unfold Db;generalize Ao+1=m;induction L generalizing m with
 |nil=>simp
 |cons x L ih=>
  rw[E9];obtain⟨h1,h2⟩:=ih (min m x.c);refine⟨by omega,λc hc=>?_⟩
  rcases Cf.1 hc with rfl|hc;·omega
  ·exact h2 c hc
theorem Nj(Ao:Int)(L:List Cd):Db Ao L=Ao+1∨∃c∈L,c.c=Db Ao L:=by
 unfold Db;generalize Ao+1=m;induction L generalizing m with
 |nil=>simp
 |cons x L ih=>
  rw[E9];rcases ih (min m x.c)with h|⟨c,hc,h⟩
  ·rw[h];by_cases hx:m≤x.c;·left;omega
   ·right;exact⟨x,by simp,by omega⟩
  ·exact .inr ⟨c,by simp[hc],h⟩
theorem oW{Ao:Int}{L M:List Cd}(h:∀c,c∈L↔c∈M):Db Ao L=Db Ao M:=by
 obtain⟨h1,h2⟩:=least_le Ao L;obtain⟨k1,k2⟩:=least_le Ao M;rcases Nj Ao L with e|⟨c,hc,e⟩<;>rcases Nj Ao M with f|⟨d,hd,f⟩
 ·omega
 ·have:=h2 d ((h d).2 hd);omega
 ·have:=k2 c ((h c).1 hc);omega
 ·have:=h2 d ((h d).2 hd);have:=k2 c ((h c).1 hc);omega
theorem CK{Ao:Int}{L:List Cd}{p:Pt}:p∈Hu Ao L↔∃c∈L,c.c=Db Ao L∧c.p=p:=by
 unfold Hu;simp only[BJ,List.mem_filter,decide_eq_true_eq];exact⟨λ⟨c,⟨h1,h2⟩,h3⟩=>⟨c,h1,h2,h3⟩,λ⟨c,h1,h2,h3⟩=>⟨c,⟨h1,h2⟩,h3⟩⟩
theorem eM{Ao:Int}{L M:List Cd}(h:∀c,c∈L↔c∈M)(p:Pt):p∈Hu Ao L↔p∈Hu Ao M:=by
 rw[CK,CK,oW h];exact⟨λ⟨c,h1,h2⟩=>⟨c,(h c).1 h1,h2⟩,λ⟨c,h1,h2⟩=>⟨c,(h c).2 h1,h2⟩⟩
theorem XL{S:List St}{a:Ad}{Ao:Int}{c:Cd}:c∈D9 S a Ao↔∃(i:Nat) (s:St),S[i]?=some s∧LS a Ao i s=some c:=by
 unfold D9;rw[EX];constructor
 ·rintro⟨⟨s,i⟩,h1,h2⟩;exact⟨i,s,by rw[DG]at h1;simpa using h1,h2⟩
 ·rintro⟨i,s,h1,h2⟩;exact⟨(s,i),by rw[DG];simpa using h1,h2⟩
theorem YQ{a:Ad}{Ao:Int}{i:Nat}{s:St}{c:Cd}:LS a Ao i s=some c↔s.op=true∧s.lo≤a.nu∧a.nu≤s.hi∧HI s a=some c.c∧c.c≤Ao∧c.s=i∧c.n=a.nu-s.sh:=by
 unfold LS;split
 ·rename_i h;simp only[E1,decide_eq_true_eq]at h;obtain⟨⟨h1,h2⟩,h3⟩:=h;split
  ·rename_i k hk;split
   ·rename_i hm;constructor
    ·intro e;cases e;exact⟨h1,h2,h3,hk,hm,rfl,rfl⟩
    ·rintro⟨_,_,_,e1,e2,e3,e4⟩;rw[hk]at e1;cases c;simp_all
   ·rename_i hm;constructor;·intro e;cases e
    ·rintro⟨_,_,_,e1,e2,_⟩;rw[hk]at e1;injection e1 with e1
     omega
  ·rename_i hk;constructor;·intro e;cases e
   ·rintro⟨_,_,_,e1,_⟩;rw[hk]at e1;cases e1
 ·rename_i h;simp only[E1,decide_eq_true_eq]at h;constructor;·intro e;cases e
  ·rintro⟨h1,h2,h3,_⟩;exact absurd ⟨⟨h1,h2⟩,h3⟩ h
theorem K6{S:List St}{A:List Ad}{Ao:Int}{c:Cd}:c∈Dp S A Ao↔∃a∈A,c∈D9 S a Ao:=by unfold Dp;rw[E2]
theorem aL{S:List St}{A:List Ad}{m n:Int}(hmn:m≤n)(h:Dp S A m≠[])(p:Pt):p∈Hu m (Dp S A m)↔p∈Hu n (Dp S A n):=by
 have sub:∀c,c∈Dp S A m↔c∈Dp S A n∧c.c≤m:=λc=>by
  simp only[K6,XL,YQ];constructor
  ·rintro⟨a,ha,i,s,h1,h2,h3,h4,h5,h6,h7⟩;exact⟨⟨a,ha,i,s,h1,h2,h3,h4,h5,by omega,h7⟩,h6⟩
  ·rintro⟨⟨a,ha,i,s,h1,h2,h3,h4,h5,h6,h7⟩,h8⟩;exact⟨a,ha,i,s,h1,h2,h3,h4,h5,h8,h7⟩
 obtain⟨x,hx⟩:=List.exists_mem_of_ne_nil _ h;obtain⟨h1,h2⟩:=least_le m (Dp S A m);obtain⟨k1,k2⟩:=least_le n (Dp S A n);have pI:=(sub x).1 hx
 have e:Db m (Dp S A m)=Db n (Dp S A n):=by
  have a1:=h2 x hx;have a2:=k2 x pI.1;rcases Nj n (Dp S A n)with f|⟨d,hd,f⟩;·omega
  ·have a3:=h2 d ((sub d).2 ⟨hd,by omega⟩)
   rcases Nj m (Dp S A m)with g|⟨c,hc,g⟩;·omega
   ·have a4:=k2 c ((sub c).1 hc).1;omega
 rw[CK,CK,e];have a2:=k2 x pI.1;constructor
 ·rintro⟨c,hc,h3⟩;exact⟨c,((sub c).1 hc).1,h3⟩
 ·rintro⟨c,hc,h3,h4⟩;exact⟨c,(sub c).2 ⟨hc,by omega⟩,h3,h4⟩
def adR(a:Ff.Ad):Ad:=⟨a.pe,a.st,a.nu,a.co,a.to⟩
def readAll(F:List Ff.Fm)(ls:List Bs):List Ad:=F.flatMap λf=>if (Ff.Ca f ls).2=0 then (Ff.Ca f ls).1.map adR else []
def DQ(r:List Ch)(day:Int)(A:List Ad):List Pt:=A.filterMap λa=>if (DD r day a).2=0 then some (DD r day a).1 else none
def B3(r:List Ch)(day:Int)(A:List Ad)(Ao:Int):List Pt:=LM (if DQ r day A=[]then Hu Ao (Dp (JH r day) A Ao)else DQ r day A)
structure Rs where
 k:Int
 ps:List Pt
 ch:List Pt
 re:Int
deriving DecidableEq
def Rs.v(x:Rs):AV:=.agg [.int .i64 x.k,VD x.ps,VD x.ch,.int .i64 x.re]
def Ii(e:Int):Rs:=⟨3,[],[],e⟩
def HP(F:List Ff.Fm)(r:List Ch)(l:List Od)(day Ao:Int):Bool:=
 decide (8<F.length)||decide (day < -1000000)||decide (1000000<day)||decide (Ao<0)||decide (6<Ao)||F.any (λf=>!Ff.By f)||!AY r||!CC l
def FX(l:List Pt):Pt:=l.getD (l.length-1) My
def DS(r:List Ch)(l:List Od)(day:Int)(M:List Pt):Rs:=
 if M=[]then Ii 80
 else if 1<M.length then ⟨2,M,[],81⟩
 else let c:=AW l day (M.headD My)
  if c.2≠0 then Ii c.2
  else if (Bm r day (FX c.1)).2≠0 then Ii 3
  else ⟨1,[FX c.1],c.1,0⟩
def An(F:List Ff.Fm)(r:List Ch)(l:List Od)(day:Int)(ls:List Bs)(Ao:Int):Rs:=
 if HP F r l day Ao then Ii 1
 else if readAll F ls=[]then Ii 1
 else DS r l day (B3 r day (readAll F ls) Ao)
theorem OH{r:List Ch}{day:Int}{A:List Ad}{p:Pt}:p∈DQ r day A↔∃a∈A,DD r day a=(p,0):=by
 unfold DQ;rw[EX];constructor
 ·rintro⟨a,ha,h⟩;split at h
  ·rename_i h0;injection h with h
   exact⟨a,ha,Prod.ext h h0⟩
  ·cases h
 ·rintro⟨a,ha,h⟩;exact⟨a,ha,by rw[h];rfl⟩
theorem UP{r:List Ch}(hs:AY r=true){day Ao:Int}{A:List Ad}{p:Pt}(h:p∈B3 r day A Ao):∃a∈A,∃s,Has (JH r day) p s∧a.nu=p.n+s.sh:=by
 unfold B3 at h;rw[Ip]at h;split at h
 ·obtain⟨c,hc,_,rfl⟩:=CK.1 h;obtain⟨a,ha,hc⟩:=K6.1 hc;obtain⟨i,s,h1,h2⟩:=XL.1 hc;obtain⟨h3,h4,h5,_,_,h6,h7⟩:=YQ.1 h2;refine⟨a,ha,s,⟨by simp only[Cd.p,h6];omega,by simp only[Cd.p,h6];simpa using h1,h3,by simp only[Cd.p,h7];omega,by simp only[Cd.p,h7];omega⟩,by simp only[Cd.p,h7];omega⟩
 ·obtain⟨a,ha,h⟩:=OH.1 h;rw[Rr.Pl.qS hs]at h;obtain⟨k,s,h1,h2,rfl⟩:=Rr.Pl.NA h;obtain⟨m1,m2,m3,m4,m5⟩:=Rr.Pl.jI.1 h2;exact⟨a,ha,s,⟨by simp only;omega,by simpa using h1,m1,by simp only;omega,by simp only;omega⟩,by simp only;omega⟩
theorem I6(r:List Ch)(day Ao:Int)(A:List Ad):E7 (B3 r day A Ao):=Hr _
structure Good(F:List Ff.Fm)(r:List Ch)(l:List Od):Prop where
 f:∀f∈F,Ff.By f=true
 n:F.length≤8
 r:AY r=true
 o:CC l=true
def O3(F:List Ff.Fm)(day:Int)(ls:List Bs):Bool:=decide (day < -1000000)||decide (1000000<day)||decide (readAll F ls=[])
theorem Dh{F:List Ff.Fm}{r:List Ch}{l:List Od}(h:Good F r l)(day:Int)(ls:List Bs){Ao:Int}(h0:0≤Ao)(h6:Ao≤6):
  An F r l day ls Ao=if O3 F day ls then Ii 1 else DS r l day (B3 r day (readAll F ls) Ao):=by
 have hf:F.any (λf=>!Ff.By f)=false:=by
  rw[EY];intro f hf;simp[h.f f hf]
 unfold An HP O3;rw[decide_eq_false (by have:=h.n;omega:¬8<F.length),decide_eq_false (by omega:¬Ao<0),decide_eq_false (by omega:¬6<Ao),hf,h.r,h.o]
 by_cases h1:day < -1000000;·simp[h1]
 ·by_cases h2:1000000<day;·simp[h1,h2]
  ·by_cases h3:readAll F ls=[];·simp[h1,h2,h3]
   ·simp[h1,h2,h3]
theorem XG{r:List Ch}(h:AY r=true)(day:Int)(p:Pt):(Bm r day p).2=0∨Bm r day p=(Mw,3):=by
 rw[Rr.Pl.XF h];exact Rr.Pl.oM _ _
theorem Pz{r:List Ch}(h:AY r=true){day:Int}{p:Pt}{s:St}(hs:Has (JH r day) p s):Bm r day p=(adS s p,0):=by
 rw[Rr.Pl.XF h];exact Rr.Pl.oL hs
theorem aU(i:List Pt)(q:Pt):FX (i++[q])=q:=by unfold FX;simp
inductive lG(r:List Ch)(l:List Od)(day:Int)(M:List Pt):Rs→Prop where
 |none:M=[]→lG r l day M (Ii 80)
 |MR:1<M.length→lG r l day M ⟨2,M,[],81⟩
 |O4 (p:Pt) (e:Int):M=[p]→(e=70∨e=2)→AW l day p=([],e)→lG r l day M (Ii e)
 |gone (p q:Pt) (i:List Pt):M=[p]→AW l day p=(i++[q],0)→Bm r day q=(Mw,3)→lG r l day M (Ii 3)
 |found (p q:Pt) (i t:List Pt):M=[p]→AW l day p=(i++[q],0)→i++[q]=p::t→(i++[q]).length≤5→AW l day q=([q],0)→(Bm r day q).2=0→lG r l day M ⟨1,[q],i++[q],0⟩
def Zaf(r:List Ch)(day:Int)(c:List Pt×Int):Rs:=if c.2≠0 then Ii c.2 else if (Bm r day (FX c.1)).2≠0 then Ii 3 else ⟨1,[FX c.1],c.1,0⟩
theorem YI(r:List Ch)(l:List Od)(day:Int)(p:Pt):DS r l day [p]=Zaf r day (AW l day p):=by
 unfold DS;rw[if_neg (by simp),if_neg (by simp)]
 rfl
theorem Jd{r:List Ch}(hs:AY r=true){l:List Od}(hl:CC l=true)(day:Int)(M:List Pt):lG r l day M (DS r l day M):=by
 match M with
 |[]=>exact .none rfl
 |p::q::t=>
  have:DS r l day (p::q::t)=⟨2,p::q::t,[],81⟩:=by
   unfold DS;rw[if_neg (by simp),if_pos (by simp)]
  rw[this];exact .MR (by simp)
 |[p]=>
  rw[YI];rcases bY hl day p with h|h|h
  ·obtain⟨i,q,⟨t,k1⟩,k2,k3,k4⟩:=kP h;have hf:AW l day p=(i++[q],0):=Prod.ext k3 h;rw[hf];unfold Zaf;rw[if_neg (by simp)]
   simp only;rw[aU];rcases XG hs day q with hn|hn
   ·rw[if_neg (by rw[hn];simp)]
    exact .found p q i t rfl hf (by rw[←k3,k1]) (by rw[←k3];exact k2) k4 hn
   ·rw[if_pos (by rw[hn];simp)]
    exact .gone p q i rfl hf hn
  ·rw[h];exact .O4 p 70 rfl (.inl rfl) h
  ·rw[h];exact .O4 p 2 rfl (.inr rfl) h
theorem PB{r:List Ch}{day m n:Int}{A:List Ad}(hmn:m≤n):B3 r day A m=[]∨B3 r day A m=B3 r day A n:=by
 unfold B3;split
 ·rename_i h;by_cases hL:Dp (JH r day) A m=[]
  ·left;rw[hL];rfl
  ·right;exact norm_eq λp=>aL hmn hL p
 ·exact .inr rfl
theorem aQ{r:List Ch}{day m n:Int}{A:List Ad}(hmn:m≤n)(h:B3 r day A n=[]):B3 r day A m=[]:=by
 rcases PB (r:=r) (day:=day) (A:=A) hmn with e|e;·exact e
 ·rw[e];exact h
theorem qT{r:List Ch}{day:Int}{A B:List Ad}(h:∀a,a∈A↔a∈B)(p:Pt):p∈DQ r day A↔p∈DQ r day B:=by
 rw[OH,OH];exact⟨λ⟨a,h1,h2⟩=>⟨a,(h a).1 h1,h2⟩,λ⟨a,h1,h2⟩=>⟨a,(h a).2 h1,h2⟩⟩
theorem VO{α:Type}{A B:List α}(h:∀a,a∈A↔a∈B):A=[]↔B=[]:=by
 constructor
 ·rintro rfl;exact Dt.2 λb hb=>by have:=(h b).2 hb;cases this
 ·rintro rfl;exact Dt.2 λb hb=>by have:=(h b).1 hb;cases this
theorem oT{r:List Ch}{day Ao:Int}{A B:List Ad}(h:∀a,a∈A↔a∈B):B3 r day A Ao=B3 r day B Ao:=by
 unfold B3;have he:=qT (r:=r) (day:=day) h;by_cases h0:DQ r day A=[]
 ·rw[if_pos h0,if_pos ((VO he).1 h0)];refine norm_eq λp=>eM (λc=>?_) p
  rw[K6,K6];exact⟨λ⟨a,h1,h2⟩=>⟨a,(h a).1 h1,h2⟩,λ⟨a,h1,h2⟩=>⟨a,(h a).2 h1,h2⟩⟩
 ·rw[if_neg h0,if_neg λh1=>h0 ((VO he).2 h1)]
  exact norm_eq he
theorem Ke{F:List Ff.Fm}{ls:List Bs}{a:Ad}:a∈readAll F ls↔∃f∈F,(Ff.Ca f ls).2=0∧∃b∈(Ff.Ca f ls).1,adR b=a:=by
 unfold readAll;rw[E2];constructor
 ·rintro⟨f,hf,h⟩;split at h
  ·rename_i h0;obtain⟨b,hb,e⟩:=BJ.1 h;exact⟨f,hf,h0,b,hb,e⟩
  ·cases h
 ·rintro⟨f,hf,h0,b,hb,e⟩;exact⟨f,hf,by rw[if_pos h0];exact BJ.2 ⟨b,hb,e⟩⟩
theorem Qb{F G:List Ff.Fm}(h:∀f,f∈F↔f∈G){r:List Ch}{l:List Od}(hF:Good F r l)(hG:Good G r l)(day:Int)(ls:List Bs){Ao:Int}(h0:0≤Ao)(h6:Ao≤6):
  An F r l day ls Ao=An G r l day ls Ao:=by
 have ha:∀a,a∈readAll F ls↔a∈readAll G ls:=λa=>by
  rw[Ke,Ke];exact⟨λ⟨f,h1,h2⟩=>⟨f,(h f).1 h1,h2⟩,λ⟨f,h1,h2⟩=>⟨f,(h f).2 h1,h2⟩⟩
 have hb:O3 F day ls=O3 G day ls:=by
  unfold O3;have:=VO ha;by_cases h1:readAll F ls=[];·rw[decide_eq_true h1,decide_eq_true (this.1 h1)]
  ·rw[decide_eq_false h1,decide_eq_false λh2=>h1 (this.2 h2)]
 rw[Dh hF day ls h0 h6,Dh hG day ls h0 h6,hb,oT ha]
end Go.Proofs.YtdadkhcdoaeabaaGreatDoor
namespace Go.Proofs.YtdadkhcdoaeabaaGreatDoor
open Go.Av Go.Shelf Go.RowKit
open Rr.Pl (Pt Ad St Ch Bs My Mw)
theorem No(p:Pt):Aw Tryz.prog 78 [p.v] (λr=>r=.bool (ptB p)):=by
 refine Aw.Ai Tryz.func78 rfl Ae (by kernel_rfl) ?_
 conv=>whnf
 repeat(refine sT rfl ?_;conv=>whnf)
 repeat' (first|(refine Aq (λ_=>?_) (λ_=>?_)<;>conv=>whnf)|(refine sT rfl ?_;conv=>whnf))
 all_goals (refine congrArg AV.bool ?_;rw[Eh];simp_all[ptB]<;>omega)
theorem Md(p q:Pt):decide (p=q)=(decide (p.s=q.s)&&decide (p.n=q.n)):=by
 cases p;cases q
 rw[Eh];simp
theorem VN(l:List Od)(k:Nat)(h:k<l.length):(l.map Od.v)[k]?=some l[k].v:=by simp[h]
theorem YX{α:Type}{p:α→Bool}{l:List α}{k:Nat}(h:k<l.length)(ha:(l.take k).all p=true)(hk:p l[k]=true):(l.take (k+1)).all p=true:=by
 rw[AZ h,List.all_append,ha];simp[hk]
theorem rT{α:Type}{p:α→Bool}{l:List α}{k:Nat}(h:k<l.length)(hk:p l[k]=false):l.all p=false:=List.all_eq_false.2 ⟨l[k],Cm h,by simp[hk]⟩
theorem JQ(l:List Od):Aw Tryz.prog 48 [H7 l] (λr=>r=.bool (CC l)):=by
 refine Aw.Ai Tryz.func48 rfl Ae (by kernel_rfl) ?_
 conv=>whnf
 repeat(refine sT rfl ?_;conv=>whnf)
 have bI:(l.map Od.v).length=l.length:=by simp
 refine⟨λh0=>?_,λh0=>?_⟩
 ·conv=>whnf
  repeat(refine sT rfl ?_;conv=>whnf)
  exact congrArg AV.bool (by unfold CC;rw[decide_eq_false (by simp at h0;omega)];rfl)
 ·have h0:l.length≤40:=by simp at h0;omega
  conv=>whnf
  repeat(refine sT rfl ?_;conv=>whnf)
  refine Ac.AJ (λk:Nat=>mk 47 [(0,H7 l),(2,.lit false),(8,H7 l),(9,.int .i64 (l.map Od.v).length),(10,.int .i64 k)]) (λ_=>[]) (λk=>k≤l.length∧(l.take k).all oH=true) (λk=>l.length-k) (λ_ _=>⟨rfl,trivial⟩) ⟨0,?_⟩ (λ_=>rfl) λk hk=>?_
  ·conv=>whnf
   repeat(refine Aq ?_ ?_;(focus (first|rfl|(simp;done)));conv=>whnf)
   first|exact⟨BD _,rfl⟩|exact rfl
  ·obtain⟨hk,ha⟩:=hk;repeat(refine sT rfl ?_;conv=>whnf)
   refine⟨λh=>?_,λh=>?_⟩
   ·have h:k<l.length:=by simp at h;omega
    have Bj:Wr .i64 ((k:Int)+1)=((k+1:Nat):Int):=by rw[AH _ (by omega) (by omega)];rfl
    conv=>whnf
    repeat(refine sT rfl ?_;conv=>whnf)
    refine⟨by omega,_,VN l k h,?_⟩
    conv=>whnf
    repeat(refine sT rfl ?_;conv=>whnf)
    repeat' (first|(refine Aq (λ_=>?_) (λ_=>?_)<;>conv=>whnf)|(refine cS (No (l[k]).fr) rfl ?_;conv=>whnf)|(refine cS (No (l[k]).tt) rfl ?_;conv=>whnf)|(refine sT rfl ?_;conv=>whnf))
    all_goals first
     |(refine congrArg AV.bool ?_
       have hn:oH l[k]=false:=by unfold oH;rw[Md];simp_all<;>intros<;>omega
       unfold CC
       rw[rT h hn,F0])
     |(have hy:oH l[k]=true:=by unfold oH;rw[Md];simp_all<;>omega
       refine⟨k+1,?_⟩
       conv=>whnf
       repeat(refine Aq ?_ ?_;(focus (first|rfl|(simp;done)|(first|exact Bj;done)));conv=>whnf)
       exact⟨⟨by omega,YX h ha hy⟩,by omega⟩)
   ·have h:k=l.length:=by simp at h;omega
    rw[h,CA]at ha;conv=>whnf
    repeat(refine sT rfl ?_;conv=>whnf)
    exact congrArg AV.bool (by unfold CC;rw[ha,decide_eq_true h0];rfl)
theorem jE{l:List Od}{day:Int}{p:Pt}{k:Nat}(h:k<l.length)(hn:∀j (hj:j<l.length),j<k→TT p day l[j]=false)(hh:TT p day l[k]=true):Gl l day p=some l[k].tt:=by
 unfold Gl;rw[List.find?_eq_some_iff_getElem.2 ⟨hh,k,h,rfl,λj hj=>by rw[hn j (by omega) hj];rfl⟩]
 rfl
theorem oK{l:List Od}{day:Int}{p:Pt}(hn:∀j (hj:j<l.length),TT p day l[j]=false):Gl l day p=none:=by
 unfold Gl;rw[List.find?_eq_none.2 λx hx=>by obtain⟨i,hi,rfl⟩:=EN hx;rw[hn i hi];decide]
 rfl
theorem UM(l:List Od)(day:Int)(p:Pt)(hl:l.length≤40):Aw Tryz.prog 80 [H7 l,.int .i64 day,p.v] (λr=>r=.tuple [((Gl l day p).getD p).v,.bool (Gl l day p).isSome]):=by
 refine Aw.Ai Tryz.func80 rfl Ae (by kernel_rfl) ?_
 conv=>whnf
 repeat(refine sT rfl ?_;conv=>whnf)
 have bI:(l.map Od.v).length=l.length:=by simp
 refine Ac.AJ (λk:Nat=>mk 36 [(0,H7 l),(1,.int .i64 day),(2,p.v),(5,.ptr 0 0),(6,.ptr 1 0),(7,.lit false),(10,H7 l),(11,.int .i64 (l.map Od.v).length),(12,.int .i64 k)]) (λ_=>[.cells [.int .i64 p.s,.int .i64 p.n],.cells [.int .i64 0,.int .i64 0]]) (λk=>k≤l.length∧∀j (hj:j<l.length),j<k→TT p day l[j]=false) (λk=>l.length-k) (λ_ _=>⟨rfl,rfl,rfl,trivial⟩) ⟨0,?_⟩ (λ_=>rfl) λk hk=>?_
 ·conv=>whnf
  repeat(refine Aq ?_ ?_;(focus (first|rfl|(simp;done)));conv=>whnf)
  first|exact⟨BD _,λj hj hn=>absurd hn (Fv _)⟩|exact λj hj hn=>absurd hn (Fv _)
 ·obtain⟨hk,ha⟩:=hk;repeat(refine sT rfl ?_;conv=>whnf)
  refine⟨λh=>?_,λh=>?_⟩
  ·have h:k<l.length:=by simp at h;omega
   have Bj:Wr .i64 ((k:Int)+1)=((k+1:Nat):Int):=by rw[AH _ (by omega) (by omega)];rfl
   conv=>whnf
   repeat(refine sT rfl ?_;conv=>whnf)
   refine⟨by omega,_,VN l k h,?_⟩
   conv=>whnf
   repeat(refine sT rfl ?_;conv=>whnf)
   have no:TT p day l[k]=false→∀j (hj:j<l.length),j<k+1→TT p day l[j]=false:=λh3 j hj PL=>by
    rcases Nat.lt_or_ge j k with h4|h4;·exact ha j hj h4
    ·obtain rfl:j=k:=by omega
     exact h3
   repeat' (first|(refine Aq (λ_=>?_) (λ_=>?_)<;>conv=>whnf)|(refine sT rfl ?_;conv=>whnf))
   ·have hh:TT p day l[k]=true:=by unfold TT;rw[Md];simp_all
    rw[jE h ha hh];rfl
   all_goals (
    refine⟨k+1,?_⟩;conv=>whnf
    repeat(refine Aq ?_ ?_;(focus (first|rfl|(simp;done)|(first|exact Bj;done)));conv=>whnf)
    refine⟨⟨by omega,no ?_⟩,by omega⟩
    unfold TT;rw[Md];simp_all<;>intros<;>omega)
  ·have h:k=l.length:=by simp at h;omega
   conv=>whnf
   repeat(refine sT rfl ?_;conv=>whnf)
   rw[oK λj hj=>ha j hj (by omega)]
   rfl
theorem FH(l:List Pt)(k:Nat)(h:k<l.length):(l.map Pt.v)[k]?=some l[k].v:=by simp[h]
theorem Pj(p:Pt):Aw Tryz.prog 61 [p.v] (λr=>r=.bool (ptB p)):=by
 refine Aw.Ai Tryz.func61 rfl Ae (by kernel_rfl) ?_
 conv=>whnf
 repeat(refine sT rfl ?_;conv=>whnf)
 repeat' (first|(refine Aq (λ_=>?_) (λ_=>?_)<;>conv=>whnf)|(refine sT rfl ?_;conv=>whnf))
 all_goals (refine congrArg AV.bool ?_;rw[Eh];simp_all[ptB]<;>omega)
theorem Vx(l:List Od)(hl:l.length≤100000):Aw Tryz.prog 34 [H7 l] (λr=>r=.bool (CC l)):=by
 refine Aw.Ai Tryz.func34 rfl Ae (by kernel_rfl) ?_
 conv=>whnf
 repeat(refine sT rfl ?_;conv=>whnf)
 have bI:(l.map Od.v).length=l.length:=by simp
 refine Ac.AJ (λk:Nat=>mk 71 [(0,H7 l),(2,.lit false),(3,.int .i64 k)]) (λ_=>[]) (λk=>k≤l.length∧(l.take k).all oH=true) (λk=>l.length-k) (λ_ _=>⟨rfl,trivial⟩) ⟨0,?_⟩ (λ_=>rfl) λk hk=>?_
 ·conv=>whnf
  repeat(refine Aq ?_ ?_;(focus (first|rfl|(simp;done)));conv=>whnf)
  first|exact⟨BD _,rfl⟩|exact rfl
 ·obtain⟨hk,ha⟩:=hk;repeat(refine sT rfl ?_;conv=>whnf)
  refine⟨λh=>?_,λh=>?_⟩
  ·have h:k<l.length:=by simp at h;omega
   have Bj:Wr .i64 ((k:Int)+1)=((k+1:Nat):Int):=by rw[AH _ (by omega) (by omega)];rfl
   conv=>whnf
   repeat(refine sT rfl ?_;conv=>whnf)
   refine Ac.draw [] Ae mO (by kernel_rfl) ?_
   conv=>whnf
   repeat' (first|(refine⟨by omega,_,VN l k h,?_⟩;conv=>whnf)|(refine⟨_,⟨Pj (l[k]).fr,rfl⟩,?_⟩;conv=>whnf)|(refine⟨_,⟨Pj (l[k]).tt,rfl⟩,?_⟩;conv=>whnf)|(refine Aq (λ_=>?_) (λ_=>?_)<;>conv=>whnf)|(refine sT rfl ?_;conv=>whnf))
   all_goals first
    |(refine congrArg AV.bool ?_
      have hn:oH l[k]=false:=by unfold oH;rw[Md];simp_all<;>intros<;>omega
      unfold CC
      rw[rT h hn,F0])
    |(have hy:oH l[k]=true:=by unfold oH;rw[Md];simp_all<;>omega
      refine⟨k+1,?_⟩
      conv=>whnf
      repeat(refine Aq ?_ ?_;(focus (first|rfl|(simp;done)|(first|exact Bj;done)));conv=>whnf)
      exact⟨⟨by omega,YX h ha hy⟩,by omega⟩)
  ·have h:k=l.length:=by simp at h;omega
   rw[h,CA]at ha;conv=>whnf
   repeat(refine sT rfl ?_;conv=>whnf)
   unfold CC;rw[ha,Bool.and_true,bI];refine congrArg AV.bool (decide_eq_decide.2 ?_);omega
theorem G0(a b:List Pt)(fD:a.length≤100000)(hlb:b.length≤100000):Aw Tryz.prog 25 [VD a,VD b] (λr=>r=.bool (decide (a=b))):=by
 refine Aw.Ai Tryz.func25 rfl Ae (by kernel_rfl) ?_
 conv=>whnf
 repeat(refine sT rfl ?_;conv=>whnf)
 have bI:(a.map Pt.v).length=a.length:=by simp
 have vH:(b.map Pt.v).length=b.length:=by simp
 refine⟨λh0=>?_,λh0=>?_⟩
 ·conv=>whnf
  repeat(refine sT rfl ?_;conv=>whnf)
  exact congrArg AV.bool (decide_eq_false λe=>by subst e;simp at h0).symm
 ·have h0:a.length=b.length:=by simp at h0;omega
  conv=>whnf
  repeat(refine sT rfl ?_;conv=>whnf)
  refine Ac.AJ (λk:Nat=>mk 26 [(0,VD a),(1,VD b),(4,.lit false),(5,.int .i64 k)]) (λ_=>[]) (λk=>k≤a.length∧a.take k=b.take k) (λk=>a.length-k) (λ_ _=>⟨rfl,trivial⟩) ⟨0,?_⟩ (λ_=>rfl) λk hk=>?_
  ·conv=>whnf
   repeat(refine Aq ?_ ?_;(focus (first|rfl|(simp;done)));conv=>whnf)
   first|exact⟨BD _,rfl⟩|exact rfl
  ·obtain⟨hk,ha⟩:=hk;repeat(refine sT rfl ?_;conv=>whnf)
   refine⟨λh=>?_,λh=>?_⟩
   ·have h:k<a.length:=by simp at h;omega
    have Bj:Wr .i64 ((k:Int)+1)=((k+1:Nat):Int):=by rw[AH _ (by omega) (by omega)];rfl
    conv=>whnf
    repeat(refine sT rfl ?_;conv=>whnf)
    refine Ac.draw [] Ae mO (by kernel_rfl) ?_
    conv=>whnf
    refine⟨by omega,_,FH a k h,?_⟩
    conv=>whnf
    refine⟨by omega,_,FH b k (by omega),?_⟩
    conv=>whnf
    have Bu:(a[k]=b[k]'(by omega))↔(a[k].s=(b[k]'(by omega)).s∧a[k].n=(b[k]'(by omega)).n):=by
     have:=Md a[k] (b[k]'(by omega))
     constructor;·intro e;rw[e];exact⟨rfl,rfl⟩
     ·rintro⟨e1,e2⟩;rw[decide_eq_true e1,decide_eq_true e2]at this;exact of_decide_eq_true this
    refine⟨λh4=>?_,λh4=>?_⟩
    ·conv=>whnf
     repeat(refine sT rfl ?_;conv=>whnf)
     refine congrArg AV.bool (decide_eq_false λe=>?_).symm
     have e2:=Bu.1 (by subst e;rfl)
     simp[e2.1,e2.2]at h4
    ·conv=>whnf
     repeat(refine sT rfl ?_;conv=>whnf)
     refine⟨k+1,?_⟩;conv=>whnf
     repeat(refine Aq ?_ ?_;(focus (first|rfl|(simp;done)|(first|exact Bj;done)));conv=>whnf)
     refine⟨⟨h,?_⟩,by omega⟩
     rw[AZ h,AZ (by omega:k<b.length),ha,Bu.2 (by simp at h4;exact h4)]
   ·have h:k=a.length:=by simp at h;omega
    conv=>whnf
    repeat(refine sT rfl ?_;conv=>whnf)
    rw[h,CA,CM (by omega)]at ha
    rw[ha];simp
end Go.Proofs.YtdadkhcdoaeabaaGreatDoor
namespace Go.Proofs.YtdadkhcdoaeabaaGreatDoor
open Go.Av Go.Shelf Go.RowKit
open Rr.Pl (Bs)
def ia(r:List Int):List AV:=r.map (AV.int .i64)
theorem Fu(F:List HO):∀(l:List Int),Bn F (ia l)=true
 |[]=>rfl
 |x::l=>by
  show Bn F (AV.int .i64 x::ia l)=true
  unfold Bn;rw[Fu F l];rfl
theorem Sn(r:List Int):(ia r).length=r.length:=by simp[ia]
theorem Zas(r:List Int)(j:Nat)(v:Int):Ik (ia r) j [AV.int .i64 v]=ia (r.set j v):=by simp[Ik,ia]
theorem MN{r:List Int}{v:Int}{o:Nat}(ho:o+1≤r.length){K:List AV→Prop}(h:K (ia (r.set o v))):(match Nat.ble (o+[AV.int .i64 v].length) (ia r).length with|true=>Pp (ia r) o [AV.int .i64 v] K|false=>False):=by
 rw[show Nat.ble (o+[AV.int .i64 v].length) (ia r).length=true from Nat.ble_eq_true_of_le (by rw[Sn];exact ho)]
 exact(Cn _ _ _ _).2 (by rw[Zas];exact h)
theorem pH{r:List Int}{j:Nat}(h:j<r.length):(ia r)[j]?=some (.int .i64 r[j]):=by simp[ia,h]
theorem K9{r:List Int}{o:Nat}(ho:o<r.length){K:AV→Prop}(h:K (.int .i64 r[o])):HG (ia r) o λcs=>uO II 3 cs K:=by
 refine(BK _ _ _).2 ?_
 have e:(ia r).drop o=AV.int .i64 r[o]::ia (r.drop (o+1)):=by
  unfold ia;rw[←List.map_drop,C0 ho];rfl
 rw[e];conv=>whnf
 exact h
theorem Uu(b:Bs):∀(a:Bs)(i:Nat)(r:List Int)(x:UInt8),IU b (a++[x]) i r=((i+a.length+1:Nat):Int)::Dz x b (IU b a i r) ((i+a.length+1:Nat):Int)
 |[],i,r,x=>rfl
 |y::a,i,r,x=>by
  show IU b (a++[x]) (i+1) _=_
  rw[Uu b a (i+1) _ x];simp only[D6,IU];rw[show i+1+a.length+1=i+(a.length+1)+1 by omega]
theorem nI(n k:Nat)(h:k<n+1):(Hn n)[k]?=some (k:Int):=by unfold Hn;simp[h]
theorem MS(r:List Int)(k:Nat)(v:Int)(h:k<r.length):(r.set k v).take (k+1)=r.take k++[v]:=by
 rw[AZ (by simpa using h),List.take_set_of_le (Bv _)]
 simp
theorem tk{l L:List Int}{n j:Nat}(h:l.take n=L)(hj:j<n)(hl:j<l.length)(hL:j<L.length):l[j]=L[j]:=by
 subst h;rw[CX]
structure ZdY(n k:Nat)(r:List Int):Prop where
 hk:k≤n+1
 hr:r.length=201
 eq:r.take k=(Hn n).take k
structure ZgF(a b:Bs)(i:Nat)(r q:List Int):Prop where
 hi:i≤a.length
 hr:r.length=201
 hq:q.length=201
 eq:r.take (b.length+1)=IU b (a.take i) 0 (Hn b.length)
structure Zd4(b:Bs)(R R':List Int)(j:Nat)(r q:List Int):Prop where
 hj:j≤b.length
 hr:r.length=201
 hq:q.length=201
 before:q.take (b.length+1)=R
 eq:r.take (j+1)=R'.take (j+1)
theorem Ml(x:Int)(l:List Int)(hl:l.length≤100000):Aw Tryz.prog 218 [.int .i64 x,.sl 1 (ia l)] (λr=>r=.int .i64 (l.foldl min x)):=by
 refine Aw.Ai Tryz.func218 rfl Ae (by kernel_rfl) ?_
 conv=>whnf
 repeat(refine sT rfl ?_;conv=>whnf)
 refine Ac.AJ (λs:Nat=>mk 18 [(0,.int .i64 ((l.take s).foldl min x)),(1,.sl 1 (ia l)),(7,.sl 1 (ia l)),(8,.int .i64 (ia l).length),(9,.int .i64 s)]) (λ_=>[]) (λs=>s≤l.length) (λs=>l.length-s) (λ_ _=>⟨rfl,trivial⟩) ⟨0,?_⟩ (λ_=>rfl) λk hk=>?_
 ·conv=>whnf
  repeat(refine Aq ?_ ?_;(focus (first|rfl|(simp;done)));conv=>whnf)
  exact BD _
 ·have bI:=Sn l;repeat(refine sT rfl ?_;conv=>whnf)
  refine⟨λh=>?_,λh=>?_⟩
  ·have h:k<l.length:=by simp at h;omega
   have Bj:Wr .i64 ((k:Int)+1)=((k+1:Nat):Int):=by rw[AH _ (by omega) (by omega)];rfl
   repeat(refine sT rfl ?_;conv=>whnf)
   refine⟨by omega,_,pH h,?_⟩
   conv=>whnf
   repeat(refine sT rfl ?_;conv=>whnf)
   refine⟨k+1,?_⟩;conv=>whnf
   repeat(refine Aq ?_ ?_;(focus (first|rfl|(simp;done)|(first|exact Bj|(rw[AZ h,List.foldl_append];rfl);done)));conv=>whnf)
   exact⟨h,by omega⟩
  ·have h:k=l.length:=by simp at h;omega
   rw[h,CA];repeat(refine sT rfl ?_;conv=>whnf)
set_option maxHeartbeats 1000000 in
theorem Et(a b:Bs):Aw Tryz.prog 217 [.str a,.str b] (λr=>r=.int .i64 (Cv a b)):=by
 refine Aw.Ai Tryz.func217 rfl Ae (by kernel_rfl) ?_
 conv=>whnf
 repeat(refine sT rfl ?_;conv=>whnf)
 repeat' (first|(refine Aq (λ_=>?_) (λ_=>?_)<;>conv=>whnf)|(refine sT rfl ?_;conv=>whnf))
 ·rename_i ha hb;exact congrArg (AV.int .i64) (by unfold Cv;rw[if_pos (.inr (by simp at hb;omega))])
 ·rename_i ha hb;have ha:a.length≤200:=by simp at ha;omega
  have hb:b.length≤200:=by simp at hb;omega
  have hw0:Wr .i64 ((b.length:Int)+1)=((b.length+1:Nat):Int):=by rw[AH _ (by omega) (by omega)];rfl
  rw[hw0];clear hw0;refine Ac.AJ (λs:Nat×List Int=>mk 78 [(0,.str a),(1,.str b),(5,.ptr 0 0),(6,.ptr 1 0),(21,.int .i64 (b.length+1:Nat)),(22,.int .i64 s.1)]) (λs=>[.cells (ia s.2),.cells (ia (C1 201 0))]) (λs=>ZdY b.length s.1 s.2) (λs=>b.length+1-s.1) (λk _=>⟨rfl,Fu _ _,Fu _ _,trivial⟩) ⟨(0,C1 201 0),?_⟩ (λ_=>rfl) λs hs=>?_
  ·conv=>whnf
   repeat(refine Aq ?_ ?_;(focus (first|rfl|(simp;done)));conv=>whnf)
   exact⟨BD _,rfl,rfl⟩
  ·obtain⟨hk,hr,ht⟩:=hs;generalize s.1=k at*;generalize s.2=r at*;have Bj:Wr .i64 ((k:Int)+1)=((k+1:Nat):Int):=by rw[AH _ (by omega) (by omega)];rfl
   repeat(refine sT rfl ?_;conv=>whnf)
   refine⟨λh=>?_,λh=>?_⟩
   ·have h:k<b.length+1:=by simp at h;omega
    repeat(refine sT rfl ?_;conv=>whnf)
    refine⟨⟨(show(0:Int)≤(k:Int) by omega),(show(k:Int)<201 by omega)⟩,?_⟩
    conv=>whnf
    repeat(refine sT rfl ?_;conv=>whnf)
    refine MN (show 0+((k:Int)).toNat*1+1≤r.length by omega) ?_
    conv=>whnf
    repeat(refine sT rfl ?_;conv=>whnf)
    refine⟨(k+1,r.set k k),?_⟩;conv=>whnf
    repeat(refine Aq ?_ ?_;(focus (first|rfl|(simp;done)|(first|exact Bj|(simp;done);done)));conv=>whnf)
    refine⟨⟨h,by simpa using hr,?_⟩,(show b.length+1-(k+1)<b.length+1-k by omega)⟩
    rw[MS r k k (by omega),ht,List.take_add_one,nI b.length k h]
    rfl
   ·have h:k=b.length+1:=by simp at h;omega
    subst h;repeat(refine sT rfl ?_;conv=>whnf)
    refine Ac.AJ (λs:Nat×List Int×List Int=>mk 78 [(0,.str a),(1,.str b),(5,.ptr 0 0),(6,.ptr 1 0),(30,.int .i64 a.length),(31,.int .i64 s.1)]) (λs=>[.cells (ia s.2.1),.cells (ia s.2.2)]) (λs=>ZgF a b s.1 s.2.1 s.2.2) (λs=>a.length-s.1) (λk _=>⟨rfl,Fu _ _,Fu _ _,trivial⟩) ⟨(0,r,C1 201 0),?_⟩ (λ_=>rfl) λs hs=>?_
    ·conv=>whnf
     repeat(refine Aq ?_ ?_;(focus (first|rfl|(simp;done)));conv=>whnf)
     exact⟨BD _,hr,rfl,by rw[ht];exact CM (by rw[G3];exact Bv _)⟩
    ·obtain⟨hi,hr,hq,ht⟩:=hs;generalize s.2.1=r at*;generalize s.2.2=q at*;generalize s.1=i at*;repeat(refine sT rfl ?_;conv=>whnf)
     refine⟨λh=>?_,λh=>?_⟩
     ·have h:i<a.length:=by simp at h;omega
      have Bj:Wr .i64 ((i:Int)+1)=((i+1:Nat):Int):=by rw[AH _ (by omega) (by omega)];rfl
      repeat(refine sT rfl ?_;conv=>whnf)
      refine Ac.wR (l1:=1) (l2:=0) (n:=201) (cs1:=ia q) (cs2:=ia r) (el:=3) _ _ _ (by kernel_rfl) ⟨rfl,rfl,rfl,rfl⟩ ⟨rfl,rfl,rfl,rfl⟩ ⟨rfl,rfl,rfl,rfl⟩ ⟨rfl,by kernel_rfl,by kernel_rfl,by kernel_rfl,by kernel_rfl,by kernel_rfl⟩ (by kernel_rfl) (by kernel_rfl) (by kernel_rfl) rfl rfl ⟨by decide,by decide,by decide⟩ ⟨DC rfl,DC rfl⟩ rfl rfl (by rw[Sn];exact hq) (by rw[Sn];exact hr) ?_
      conv=>whnf
      repeat(refine sT rfl ?_;conv=>whnf)
      refine⟨⟨by omega,by omega⟩,?_⟩
      conv=>whnf
      repeat(refine sT rfl ?_;conv=>whnf)
      refine MN (show 0+(0:Int).toNat*1+1≤r.length by simp;omega) ?_
      conv=>whnf
      repeat(refine sT rfl ?_;conv=>whnf)
      have hRl:(IU b (a.take i) 0 (Hn b.length)).length=b.length+1:=MU b _ _ _ (G3 _)
      have hRb:∀y∈IU b (a.take i) 0 (Hn b.length),0≤y∧y≤400:=λy hy=>by
       have:=MV b (a.take i) 0 (Hn b.length) (G3 _) (by simpa using Rt b.length) y hy
       rw[BC]at this;omega
      have Yh:IU b (a.take (i+1)) 0 (Hn b.length)=((i+1:Nat):Int)::Dz a[i] b (IU b (a.take i) 0 (Hn b.length)) ((i+1:Nat):Int):=by
       rw[AZ h,Uu,BC,C2 (Ds h),Ba]
      have hNb:∀y∈IU b (a.take (i+1)) 0 (Hn b.length),0≤y∧y≤400:=λy hy=>by
       have:=MV b (a.take (i+1)) 0 (Hn b.length) (G3 _) (by simpa using Rt b.length) y hy
       rw[BC]at this;omega
      have hNl:(IU b (a.take (i+1)) 0 (Hn b.length)).length=b.length+1:=MU b _ _ _ (G3 _);have hNg:=λj (hj:j<b.length)=>WX a[i] b (IU b (a.take i) 0 (Hn b.length)) ((i+1:Nat):Int) hRl j hj
      generalize hR:IU b (a.take i) 0 (Hn b.length)=R at*;generalize hN:IU b (a.take (i+1)) 0 (Hn b.length)=N at*;have hN0:N.take 1=[((i+1:Nat):Int)]:=by rw[Yh];rfl
      refine Ac.AJ (λs:Nat×List Int=>mk 78 [(0,.str a),(1,.str b),(5,.ptr 0 0),(6,.ptr 1 0),(8,.int .i64 i),(30,.int .i64 a.length),(31,.int .i64 i),(41,.int .i64 b.length),(42,.int .i64 s.1)]) (λs=>[.cells (ia s.2),.cells (ia r)]) (λs=>Zd4 b R N s.1 s.2 r) (λs=>b.length-s.1) (λk _=>⟨rfl,Fu _ _,Fu _ _,trivial⟩) ⟨(0,r.set 0 (i+1:Nat)),?_⟩ (λ_=>rfl) λs hs=>?_
      ·conv=>whnf
       repeat(refine Aq ?_ ?_;(focus (first|rfl|(simp;done)));conv=>whnf)
       refine⟨(show [HO.cells (ia (r.set 0 (Wr .i64 ((i:Int)+1)))),HO.cells (ia r)]=_ by rw[Bj]),⟨BD _,by simpa using hr,hr,ht,by rw[MS r 0 _ (by omega),hN0];rfl⟩⟩
      ·obtain⟨hj,bG,_,Zdy,heq⟩:=hs
       generalize s.2=q2 at*
       generalize s.1=j at*
       have Gf:Wr .i64 ((j:Int)+1)=((j+1:Nat):Int):=by rw[AH _ (by omega) (by omega)];rfl
       repeat(refine sT rfl ?_;conv=>whnf)
       refine⟨λh3=>?_,λh3=>?_⟩
       ·have h3:j<b.length:=by simp at h3;omega
        repeat(refine sT rfl ?_;conv=>whnf)
        refine⟨⟨(show(0:Int)≤(j:Int) by omega),(show(j:Int)<201 by omega)⟩,?_⟩
        conv=>whnf
        repeat(refine sT rfl ?_;conv=>whnf)
        refine K9 (show 0+((j:Int)).toNat*1<r.length by omega) ?_
        conv=>whnf
        repeat(refine sT rfl ?_;conv=>whnf)
        refine Ac.draw [] Ae mO (by kernel_rfl) ?_
        conv=>whnf
        refine⟨⟨by omega,(show(i:Int)<a.length by omega)⟩,?_⟩
        conv=>whnf
        refine⟨⟨by omega,(show(j:Int)<b.length by omega)⟩,?_⟩
        conv=>whnf
        have er0:r[0+(j:Int).toNat*1]'(by omega)=R[j]'(by omega):=by rw[tk ht (show 0+(j:Int).toNat*1<b.length+1 by omega) _ (by omega)];congr 1;omega
        have er1:r[0+((j+1:Nat):Int).toNat*1]'(by omega)=R[j+1]'(by omega):=by rw[tk ht (show 0+((j+1:Nat):Int).toNat*1<b.length+1 by omega) _ (by omega)];congr 1;omega
        have kW:q2[0+(j:Int).toNat*1]'(by omega)=N[j]'(by omega):=by
         rw[tk heq (show 0+(j:Int).toNat*1<j+1 by omega) _ (by rw[BC];omega),CX];congr 1;omega
        have b0:=hRb R[j] (Cm (by omega))
        have b1:=hRb (R[j+1]'(by omega)) (Cm (by omega))
        have b2:=hNb (N[j]'(by omega)) (Cm (by omega))
        have hv0:Wr .i64 (R[j]+1)=R[j]+1:=AH _ (by omega) (by omega)
        have xU:Wr .i64 (R[j+1]'(by omega)+1)=R[j+1]'(by omega)+1:=AH _ (by omega) (by omega)
        have xT:Wr .i64 (N[j]'(by omega)+1)=N[j]'(by omega)+1:=AH _ (by omega) (by omega)
        have hNj:N[j+1]'(by omega)=min (min (R[j]'(by omega)+Nd a[i] b[j]) (R[j+1]'(by omega)+1)) (N[j]'(by omega)+1):=by
         have:=hNg j h3;simp only[←Yh]at this
         exact this
        have vR:decide ((((a.getD ((i:Int)).toNat 0).toNat:Nat):Int)=((b.getD ((j:Int)).toNat 0).toNat:Nat))=decide (((a[i]'(by omega)).toNat:Int)=(b[j]'(by omega)).toNat):=by
         rw[AO,AO,Bh,Bh,Bc h,Bc h3]
         rfl
        refine⟨λh4=>?_,λh4=>?_⟩
        ·have h4n:Nd a[i] b[j]=1:=by
          unfold Nd;rw[if_neg];rintro e;rw[vR]at h4
          simp[e]at h4
         rw[er0]
         conv=>whnf
         repeat(refine sT rfl ?_;conv=>whnf)
         refine Ac.draw [15] Ae mO (by kernel_rfl) ?_
         conv=>whnf
         rw[Gf]
         refine⟨⟨by omega,by omega⟩,?_⟩
         conv=>whnf
         refine K9 (show 0+((j+1:Nat):Int).toNat*1<r.length by omega) ?_
         conv=>whnf
         refine⟨⟨by omega,by omega⟩,?_⟩
         conv=>whnf
         refine K9 (show 0+(j:Int).toNat*1<q2.length by omega) ?_
         conv=>whnf
         refine⟨⟨rfl,by simp[closed]⟩,?_⟩
         conv=>whnf
         rw[er1,kW,hv0,xU,xT]
         refine⟨_,⟨Ml _ [R[j+1]+1,N[j]+1] (by simp),rfl⟩,?_⟩
         conv=>whnf
         refine⟨⟨by omega,by omega⟩,?_⟩
         conv=>whnf
         refine MN (show 0+((j+1:Nat):Int).toNat*1+1≤q2.length by omega) ?_
         conv=>whnf
         repeat(refine sT rfl ?_;conv=>whnf)
         have Mn:List.foldl min (R[j]+1) [R[j+1]'(by omega)+1,N[j]'(by omega)+1]=N[j+1]'(by omega):=by
          rw[hNj,h4n]
          rfl
         refine⟨(j+1,q2.set (j+1) (N[j+1]'(by omega))),?_⟩
         conv=>whnf
         repeat(refine Aq ?_ ?_;(focus (first|rfl|(simp;done)|(first|exact Gf|(show HO.cells (ia (q2.set (0+((j+1:Nat):Int).toNat*1) _))=HO.cells (ia (q2.set (j+1) _));rw[Mn,show 0+((j+1:Nat):Int).toNat*1=j+1 by omega]);done)));conv=>whnf)
         refine⟨⟨h3,by simpa using bG,hr,Zdy,?_⟩,(show b.length-(j+1)<b.length-j by omega)⟩
         simp only
         rw[MS q2 (j+1) _ (by omega),heq,AZ (by omega:j+1<N.length)]
        ·have h4n:Nd a[i] b[j]=0:=by
          unfold Nd;rw[if_pos];rw[vR]at h4;have h5:((a[i]'(by omega)).toNat:Int)=(b[j]'(by omega)).toNat:=by simpa using h4
          exact UInt8.toNat_inj.1 (by omega)
         rw[er0]
         conv=>whnf
         repeat(refine sT rfl ?_;conv=>whnf)
         refine Ac.draw [15] Ae mO (by kernel_rfl) ?_
         conv=>whnf
         rw[Gf]
         refine⟨⟨by omega,by omega⟩,?_⟩
         conv=>whnf
         refine K9 (show 0+((j+1:Nat):Int).toNat*1<r.length by omega) ?_
         conv=>whnf
         refine⟨⟨by omega,by omega⟩,?_⟩
         conv=>whnf
         refine K9 (show 0+(j:Int).toNat*1<q2.length by omega) ?_
         conv=>whnf
         refine⟨⟨rfl,by simp[closed]⟩,?_⟩
         conv=>whnf
         rw[er1,kW,xU,xT]
         refine⟨_,⟨Ml _ [R[j+1]+1,N[j]+1] (by simp),rfl⟩,?_⟩
         conv=>whnf
         refine⟨⟨by omega,by omega⟩,?_⟩
         conv=>whnf
         refine MN (show 0+((j+1:Nat):Int).toNat*1+1≤q2.length by omega) ?_
         conv=>whnf
         repeat(refine sT rfl ?_;conv=>whnf)
         have Mn:List.foldl min R[j] [R[j+1]'(by omega)+1,N[j]'(by omega)+1]=N[j+1]'(by omega):=by
          rw[hNj,h4n,Int.add_zero]
          rfl
         refine⟨(j+1,q2.set (j+1) (N[j+1]'(by omega))),?_⟩
         conv=>whnf
         repeat(refine Aq ?_ ?_;(focus (first|rfl|(simp;done)|(first|exact Gf|(show HO.cells (ia (q2.set (0+((j+1:Nat):Int).toNat*1) _))=HO.cells (ia (q2.set (j+1) _));rw[Mn,show 0+((j+1:Nat):Int).toNat*1=j+1 by omega]);done)));conv=>whnf)
         refine⟨⟨h3,by simpa using bG,hr,Zdy,?_⟩,(show b.length-(j+1)<b.length-j by omega)⟩
         simp only
         rw[MS q2 (j+1) _ (by omega),heq,AZ (by omega:j+1<N.length)]
       ·have h3:j=b.length:=by simp at h3;omega
        subst h3
        repeat(refine sT rfl ?_;conv=>whnf)
        refine⟨(i+1,q2,r),?_⟩
        conv=>whnf
        repeat(refine Aq ?_ ?_;(focus (first|rfl|(simp;done)|(first|exact Bj;done)));conv=>whnf)
        refine⟨⟨h,bG,hr,?_⟩,(show a.length-(i+1)<a.length-i by omega)⟩
        simp only
        rw[heq,CM (by omega),hN]
     ·have h:i=a.length:=by simp at h;omega
      subst h;rw[CA]at ht;repeat(refine sT rfl ?_;conv=>whnf)
      refine⟨⟨by omega,(show(b.length:Int)<201 by omega)⟩,?_⟩
      conv=>whnf
      repeat(refine sT rfl ?_;conv=>whnf)
      refine K9 (show 0+(b.length:Int).toNat*1<r.length by omega) ?_
      conv=>whnf
      repeat(refine sT rfl ?_;conv=>whnf)
      refine congrArg (AV.int .i64) ?_;unfold Cv;rw[if_neg (by omega),←ht,Bh,Bc (by rw[BC];omega),CX]
      simp only[Ec];congr 1;omega
 ·rename_i ha;exact congrArg (AV.int .i64) (by unfold Cv;rw[if_pos (.inl (by simp at ha;omega))])
end Go.Proofs.YtdadkhcdoaeabaaGreatDoor
namespace Go.Proofs.YtdadkhcdoaeabaaGreatDoor
open Go.Av Go.Shelf Go.RowKit
open Rr.Pl (Pt Ad St Ch Bs My Mw DO CY)
def Zgv:AV:=.mp (YH.map λx=>.str x.1) (YH.map λx=>.str x.2)
theorem Wj:Aw Tryz.prog 242 [] (λr=>r=Zgv):=by
 refine Aw.Ai Tryz.func242 rfl Ae (by kernel_rfl) ?_
 conv=>whnf
 repeat(refine sT rfl ?_;conv=>whnf)
 repeat(refine⟨by intro a ha;(repeat(rcases Cf.1 ha with rfl|ha;(first|exact rfl|skip)))<;>first|rfl|(cases ha;done),?_⟩;(conv=>whnf))
 repeat(refine sT rfl ?_;conv=>whnf)
 rfl
theorem cA(x:Nat)(hx:x≤1114111):Aw Tryz.prog 241 [.int .i32 x] (λr=>r=.bool (decide (x=32))):=by
 refine Aw.Ai Tryz.func241 rfl Ae (by kernel_rfl) ?_
 conv=>whnf
 repeat(refine sT rfl ?_;conv=>whnf)
 refine congrArg AV.bool (decide_eq_decide.2 ?_);omega
open Ff (strs)
theorem QH(q:Nat→Bool):∀(l cur:Bs),∀w∈T7 q cur l,w.length≤cur.length+l.length
 |[],cur,w,h=>by
  unfold T7 at h;split at h;·simp at h
  ·rw[C3]at h;subst h;exact E4 _ _
 |c::r,cur,w,h=>by
  unfold T7 at h;split at h
  ·split at h;·have:=QH q r [] w h;simp at this⊢;omega
   ·rcases Cf.1 h with rfl|h;·exact E4 _ _
    ·have:=QH q r [] w h;simp at this⊢;omega
  ·have:=QH q r _ w h;simp at this⊢;omega
theorem dV(l:Bs):∀w∈W4 l,w.length≤l.length:=λw h=>by have:=QH _ l [] w h;simpa using this
theorem KM(q:Nat→Bool):∀(l cur:Bs),(T7 q cur l).length≤l.length+1
 |[],cur=>by unfold T7;split<;>simp
 |c::r,cur=>by
  unfold T7;split
  ·split;·have:=KM q r [];simp;omega
   ·have:=KM q r [];simp;omega
  ·have:=KM q r (cur++[c]);simp;omega
theorem gZ(l:Bs):(W4 l).length≤l.length+1:=KM _ l []
theorem Ug(l:List Bs):(strs l).length=l.length:=by simp
theorem Wg(s:Bs)(hs:s.length≤100000):rX Tryz.prog 81 [.str s,.fn 241 []] 9 1 (strs (W4 s)):=by
 refine⟨by kernel_rfl,λa ha=>by obtain⟨x,_,rfl⟩:=BJ.1 ha;rfl,λC w vs AR hr=>?_⟩
 unfold Aa at hr;obtain⟨v1,_,rfl,h2,hr⟩:=hr;unfold Aa at hr;obtain⟨v2,_,rfl,h3,hr⟩:=hr;unfold Aa at hr;subst hr;unfold Aj at h2 h3;obtain⟨rfl,_⟩:=h2;obtain⟨us,rfl,hu⟩:=h3;have hj:=Tryz.strings_FieldsFunc_grows 241 us.toArray (enters_of Tryz.func241 (by kernel_rfl) rfl) (λn=>decide (n=32)) ⟨s.toArray⟩ w (by simp[ByteArray.size];omega) (Il cA AR hu)
 have hw:(Lib.goFieldsP (λn=>decide (n=32)) ⟨s.toArray⟩).map (λx=>x.data.toList)=W4 s:=kT (q:=λn=>decide (n=32)) (λn h=>decide_eq_false (by omega)) ⟨s.toArray⟩
 generalize Lib.goFieldsP (λn=>decide (n=32)) ⟨s.toArray⟩=L at hj hw
 have hlen:L.length=(W4 s).length:=by rw[←hw];simp
 refine hj.mono λe w' ⟨A,h3,h4,h5,h6⟩=>?_
 refine⟨_,h3,h6,?_⟩;rcases h5.2 with⟨h7,_⟩|⟨g,YP,cur,h7,h8,h9,h10,h11,h12,h13⟩;·cases h7
 ·injection h7 with h7 _ h7c
  injection h7 with h7;injection h7 with h7
  subst h7 h7c
  have B7:cur.toList=L.map Value.string:=by
   rw[←h13,CM (by simp;omega)]
  have bC:=Ug (W4 s);refine .inr ⟨A,L.length,cur,by rw[bC,hlen],h8,⟨_,h9,.inl rfl⟩,by omega,by simp only[maxLen]at h11;omega,h12,?_,λv hv=>?_⟩
  ·have hf:flat (strs (W4 s))=strs (W4 s):=by
    unfold flat;induction W4 s with
    |nil=>rfl
    |cons x l ih=>simpa[AV.cells]using ih
   rw[hf,bC,←hlen,h13];refine(AI _).2 ⟨by rw[bC,BV,hlen],λi hi Qz=>?_⟩
   have Yl:i<(W4 s).length:=by omega
   have hiL:i<L.length:=by omega
   have Gf:(W4 s)[i]=L[i].data.toList:=by
    have:=congrArg (·[i]?) hw;simp only[List.getElem?_map,Bc hiL,Bc Yl,Option.map_some,Fw.injEq]at this;exact this.symm
   have hlb:((W4 s)[i]).length≤9223372036854775807:=by have:=dV s _ (Cm Yl);omega
   simp only[List.getElem_map];unfold Aj;rw[Gf]at hlb ⊢;exact⟨by simp,hlb⟩
  ·rw[B7]at hv;obtain⟨x,_,rfl⟩:=BJ.1 hv;rfl
theorem kX(w:Bs):∀a∈YH.map (λx=>AV.str x.1),Ja (.str w) a=true:=by
 intro a ha;obtain⟨x,_,rfl⟩:=BJ.1 ha;rfl
theorem V0{W:List Bs}(h:W.length≤100001)(hw:∀y∈W,y.length≤100001):(Lib.join W [32]).length≤140737488355328:=by
 have:=Ff.XZ [32] 100001 W hw;have e:100001+([32]:Bs).length=100002:=rfl;rw[e]at this;have:=Nat.mul_le_mul_right 100002 h;omega
theorem qV{w x:Bs}(h:wN w=some x):x.length≤100001:=by
 unfold wN at h;rw[Ef]at h;obtain⟨y,hy,rfl⟩:=h;have:=List.mem_of_find?_eq_some hy;unfold YH at this;simp only[Cf,List.not_mem_nil,or_false]at this;rcases this with rfl|rfl|rfl|rfl|rfl|rfl|rfl|rfl|rfl|rfl|rfl|rfl<;>simp
theorem XJ(w:Bs):∀T:List (Bs×Bs),OG (.str w) (T.map λx=>AV.str x.1) (T.map λx=>AV.str x.2)=((T.find? λx=>decide (x.1=w)).map Gk).map AV.str
 |[]=>rfl
 |x::T=>by
  have ih:=XJ w T;unfold OG at ih⊢;simp only[Gm,OF,Nl];by_cases h:x.1=w
  ·subst h;simp
  ·have h2:(w == x.1)=false:=by simpa using Ne.symm h
   rw[h2];simp only[List.find?_cons,decide_eq_false h];rw[←ih];cases OF (AV.str w) (T.map λx=>AV.str x.1)<;>simp
theorem XK(w:Bs):OG (.str w) (YH.map λx=>AV.str x.1) (YH.map λx=>AV.str x.2)=(wN w).map AV.str:=XJ w YH
theorem rV{W:List Bs}(h:2≤W.length):(strs W)[0+((W.length:Int)-1).toNat]?=some (.str (W.getD (W.length-1) [])):=by
 rw[Ba,show((W.length:Int)-1).toNat=W.length-1 by omega]
 simp[Bh,(by omega:W.length-1<W.length)]
abbrev byA(w:Bs):List AV:=w.map λb=>AV.int .u8 b.toNat
theorem cZ(l:Bs):∀e∈byA l,closed e=true:=by
 intro e he;obtain⟨b,_,rfl⟩:=BJ.1 he;rfl
theorem wW{l:Bs}{k:Nat}{c:UInt8}(h:l[k]?=some c):(byA l)[k]?=some (.int .u8 c.toNat):=by simp[h]
def HE(s:Bs)(k:Nat):Bs:=DO (s.take k)++s.drop k
theorem Vb(s:Bs)(k:Nat):(HE s k).length=s.length:=by unfold HE DO;simp;omega
theorem Va(s:Bs)(k:Nat)(h:k<s.length):(HE s k)[k]?=some s[k]:=by
 unfold HE DO;rw[List.getElem?_append_right (by simp;omega)]
 simp[C2 (Ds h),h]
theorem U9(s:Bs)(k:Nat)(h:k<s.length):(HE s k).set k (CY s[k])=HE s (k+1):=by
 unfold HE DO;have e:(s.drop k).set 0 (CY s[k])=CY s[k]::s.drop (k+1):=by rw[C0 h];rfl
 rw[Ei (h:=by simp;omega),AZ h,CW,BV,BC,C2 (Ds h),Nat.sub_self,e]
 simp
theorem bZ(s:Bs)(k:Nat)(h:k<s.length)(hc:CY s[k]=s[k]):HE s (k+1)=HE s k:=by
 rw[←U9 s k h,hc];apply List.ext_getElem?;intro i;by_cases hi:k=i
 ·subst hi;rw[List.getElem?_set_self (by rw[Vb];exact h),Va s k h]
 ·rw[List.getElem?_set_ne hi]
theorem wV(l:Bs)(k:Nat)(c:UInt8){n:Int}(h:n=c.toNat):(byA l).set k (.int .u8 n)=byA (l.set k c):=by subst h;simp
theorem uL{c:UInt8}(h1:65≤c.toNat)(h2:c.toNat≤90):(CY c).toNat=c.toNat+32:=by
 unfold CY Rr.Pl.Gg;rw[decide_eq_true h1,decide_eq_true h2];show(c+32).toNat=_
 rw[UInt8.toNat_add];show(c.toNat+32)%256=_
 omega
theorem Zal{c:UInt8}(h:¬(65≤c.toNat∧c.toNat≤90)):CY c=c:=by
 unfold CY Rr.Pl.Gg;rw[if_neg];simpa using h
theorem kQ(s:Bs):HE s s.length=DO s:=by unfold HE;simp
theorem Du(s:Bs)(hs:s.length≤100000):Aw Tryz.prog 216 [.str s] (λr=>r=.str (foldM s)):=by
 refine Aw.Ai Tryz.func216 rfl Ae (by kernel_rfl) ?_
 conv=>whnf
 iterate 3 (refine sT rfl ?_;conv=>whnf)
 refine Ac.zP [1] Ae ?_;conv=>whnf
 repeat(refine sT rfl ?_;conv=>whnf)
 refine Ac.AJ (λk:Nat=>mk 56 [(0,.str s),(2,.str []),(3,.own 0 1 0 s.length),(12,.own 0 1 0 s.length),(13,.int .i64 s.length),(14,.int .i64 k)]) (λk=>[.arr 5 1 (byA (HE s k))]) (λk=>k≤s.length) (λk=>s.length-k) (λ_ _=>⟨rfl,cZ _,trivial⟩) ⟨0,?_⟩ (λ_=>rfl) λk hk=>?_
 ·conv=>whnf
  repeat(refine Aq ?_ ?_;(focus (first|rfl|(simp;done)));conv=>whnf)
  first|exact BD _|exact⟨rfl,BD _⟩
 ·have JF:=Vb s k;repeat(refine sT rfl ?_;conv=>whnf)
  refine⟨λh=>?_,λh=>?_⟩
  ·have h:k<s.length:=by simp at h;omega
   have Bj:Wr .i64 ((k:Int)+1)=((k+1:Nat):Int):=by rw[AH _ (by omega) (by omega)];rfl
   have gk:(byA (HE s k))[0+((k:Nat):Int).toNat]?=some (.int .u8 (s[k]'h).toNat):=by
    rw[Ba,AO];exact wW (Va s k h)
   conv=>whnf
   repeat(refine sT rfl ?_;conv=>whnf)
   refine⟨by omega,?_⟩
   conv=>whnf
   refine⟨_,gk,?_⟩;conv=>whnf
   repeat(refine sT rfl ?_;conv=>whnf)
   repeat' (first|(refine Aq (λ_=>?_) (λ_=>?_)<;>conv=>whnf)|(refine sT rfl ?_;conv=>whnf))
   ·rename_i g1 g2;have g1:65≤(s[k]'h).toNat:=by simp at g1;omega
    have g2:(s[k]'h).toNat≤90:=by simp at g2;omega
    refine⟨by omega,?_⟩
    conv=>whnf
    refine⟨_,gk,?_⟩;conv=>whnf
    repeat(refine sT rfl ?_;conv=>whnf)
    refine⟨k+1,?_⟩;conv=>whnf
    repeat(refine Aq ?_ ?_;(focus (first|rfl|(simp;done)|(first|exact Bj;done)));conv=>whnf)
    refine⟨?_,h,by omega⟩
    refine congrArg (HO.arr _ 1) ?_;rw[Ba,AO,←U9 s k h,wV];rw[uL g1 g2,rW (((s[k]'h).toNat:Int)-65) (by omega) (by omega),rW _ (by omega) (by omega)]
    omega
   all_goals
    rename_i g1;refine⟨k+1,?_⟩;conv=>whnf
    repeat(refine Aq ?_ ?_;(focus (first|rfl|(simp;done)|(first|exact Bj;done)));conv=>whnf)
    refine⟨?_,h,by omega⟩
    refine congrArg (HO.arr _ 1) ?_;rw[bZ s k h (Zal (by simp at*;omega))]
  ·have h:k=s.length:=by simp at h;omega
   subst h;conv=>whnf
   repeat(refine sT rfl ?_;conv=>whnf)
   refine⟨by rw[BV];omega,?_⟩
   conv=>whnf
   refine⟨HE s s.length,⟨rfl,by omega⟩,?_⟩
   conv=>whnf
   repeat(refine sT rfl ?_;conv=>whnf)
   rw[kQ]at JF ⊢;refine Ak.Zah (Wg (DO s) (by rw[JF];exact hs)) rfl ?_
   have hwl:(W4 (DO s)).length≤100001:=by have:=gZ (DO s);omega
   have bC:=Ug (W4 (DO s));conv=>whnf
   repeat(refine sT rfl ?_;conv=>whnf)
   have Zaw:∀y∈W4 (DO s),y.length≤100001:=λy hy=>by have:=dV _ y hy;omega
   generalize hWe:W4 (DO s)=W at*;have hww:Wr .i64 ((strs W).length-1:Int)=(W.length:Int)-1:=by rw[bC,AH _ (by omega) (by omega)]
   rw[hww];refine⟨λh2=>?_,λh2=>?_⟩
   ·have h2:2≤W.length:=by simp at h2;omega
    conv=>whnf
    repeat(refine sT rfl ?_;conv=>whnf)
    refine Ac.draw [] Ae mO (by kernel_rfl) ?_
    conv=>whnf
    refine⟨_,⟨Wj,rfl⟩,?_⟩;conv=>whnf
    refine⟨by omega,?_⟩
    conv=>whnf
    refine⟨_,rV h2,?_⟩;conv=>whnf
    refine⟨kX _,λhn=>?_,λv hv=>?_⟩
    ·rw[XK]at hn;have hM:Sf W=W:=by unfold Sf;rw[if_pos h2];split<;>simp_all
     conv=>whnf
     repeat(refine sT rfl ?_;conv=>whnf)
     refine Ak.freeze 1 ?_ (by kernel_rfl)
     conv=>whnf
     refine⟨(Ff.FM _),?_⟩;conv=>whnf
     repeat(refine⟨(by first|rfl|(simp;done):(_:Nat)=_),?_⟩;conv=>whnf)
     refine cS (Ff.GK W (by omega) (V0 hwl Zaw)) rfl ?_;conv=>whnf
     repeat(refine sT rfl ?_;conv=>whnf)
     unfold foldM;rw[hWe,hM]
    ·rw[XK,Ef]at hv;obtain⟨x,hx,rfl⟩:=hv;have hM:Sf W=W.set (W.length-1) x:=by unfold Sf;rw[if_pos h2,hx]
     conv=>whnf
     repeat(refine sT rfl ?_;conv=>whnf)
     refine⟨by omega,?_⟩
     conv=>whnf
     refine⟨_,rV h2,?_⟩;conv=>whnf
     rw[Ba,show((W.length:Int)-1).toNat=W.length-1 by omega,show(strs W).set (W.length-1) (.str x)=strs (W.set (W.length-1) x) by simp[strs]]
     repeat(refine sT rfl ?_;conv=>whnf)
     refine Ak.freeze 1 ?_ (by kernel_rfl)
     conv=>whnf
     refine⟨(Ff.FM _),?_⟩;conv=>whnf
     repeat(refine⟨(by first|rfl|(simp;done):(_:Nat)=_),?_⟩;conv=>whnf)
     refine Ak.D3 (Ff.GK (W.set (W.length-1) x) (by rw[Fx];omega) (V0 (by rw[Fx];exact hwl) λy hy=>by
      rcases List.mem_or_eq_of_mem_set hy with hy|rfl;·exact Zaw y hy
      ·exact qV hx)) rfl λr hr=>?_
     subst hr;conv=>whnf
     repeat(refine sT rfl ?_;conv=>whnf)
     unfold foldM;rw[hWe,hM]
   ·have h2:¬2≤W.length:=by simp at h2;omega
    have hM:Sf W=W:=by unfold Sf;rw[if_neg h2]
    conv=>whnf
    repeat(refine sT rfl ?_;conv=>whnf)
    refine Ak.freeze 1 ?_ (by kernel_rfl)
    conv=>whnf
    refine⟨(Ff.FM _),?_⟩;conv=>whnf
    repeat(refine⟨(by first|rfl|(simp;done):(_:Nat)=_),?_⟩;conv=>whnf)
    refine cS (Ff.GK W (by omega) (V0 hwl Zaw)) rfl ?_;conv=>whnf
    repeat(refine sT rfl ?_;conv=>whnf)
    unfold foldM;rw[hWe,hM]
end Go.Proofs.YtdadkhcdoaeabaaGreatDoor
namespace Go.Proofs.YtdadkhcdoaeabaaGreatDoor
open Go.Av Go.Shelf Go.RowKit
open Rr.Pl (Pt Ad St Ch Bs My Mw)
abbrev JL(l:List Cd):List AV:=l.map Cd.v
theorem AS(l:List Cd):∀x∈JL l,closed x=true:=by
 intro x hx;obtain⟨y,_,rfl⟩:=BJ.1 hx;rfl
def IH(l:List Cd)(es:List AV):Prop:=∃l',es=JL l'∧l'.Perm l
def HZ:AV:=.fn 177 []
theorem swap_perm{l:List Cd}{i j:Nat}(hi:i<l.length)(hj:j<l.length):((l.set i l[j]).set j l[i]).Perm l:=by
 exact List.set_set_perm hi hj
theorem Dm(l:List Cd){e:Go.TypeId}{n:Nat}{v:Value}:Cq [.arr e 3 (JL l),.ghost [.own 0 3 0 n] [v] []] [.arr e 3 (JL l),.ghost [.own 0 3 0 n] [v] []] True:=⟨AS l,rfl,trivial⟩
theorem BB{l:List Cd}{k:Nat}(h:k<l.length):(JL l)[k]?=some l[k].v:=by simp[h]
theorem HJ(l:List Cd)(k:Nat)(c:Cd):(JL l).set k (.agg [.int .i64 c.s,.int .i64 c.n,.int .i64 c.c])=JL (l.set k c):=by simp[Cd.v]
theorem C5(l:List Cd):(JL l).length=l.length:=by simp
structure PI(l:List Cd)(l':List Cd):Prop where
 perm:l'.Perm l
 len:l'.length=l.length
theorem PI.refl(l:List Cd):PI l l:=⟨.refl _,rfl⟩
theorem PI.swap{l l':List Cd}(h:PI l l'){i j:Nat}(hi:i<l'.length)(hj:j<l'.length):PI l ((l'.set i l'[j]).set j l'[i]):=⟨(swap_perm hi hj).trans h.perm,by simp[h.len]⟩
theorem X0(m:Int):Aw Tryz.prog 139 [.int .i64 m] (λr=>r=.bool false):=by
 refine Aw.Ai Tryz.func139 rfl Ae (by kernel_rfl) ?_
 conv=>whnf
 repeat(refine sT rfl ?_;conv=>whnf)
 simp
def Wo(m n:Int):Int:=if m<n then -1 else if n<m then 1 else 0
theorem KB(a b:Int):Aw Tryz.prog 110 [.int .i64 a,.int .i64 b] (λr=>r=.int .i64 (Wo a b)):=by
 refine Aw.Ai Tryz.func110 rfl Ae (by kernel_rfl) ?_
 conv=>whnf
 repeat(refine sT rfl ?_;conv=>whnf)
 repeat' (first|(refine Aq (λ_=>?_) (λ_=>?_)<;>conv=>whnf)|(refine cS (X0 _) rfl ?_;conv=>whnf)|(refine sT rfl ?_;conv=>whnf))
 all_goals first|(rename_i h;cases h;done)|(refine congrArg (AV.int .i64) ?_;unfold Wo;simp_all;done)|(refine congrArg (AV.int .i64) ?_;unfold Wo;simp_all;omega)
theorem Jg(a b:Cd):Aw Tryz.prog 177 [a.v,b.v] (λr=>r=.int .i64 (Wo a.c b.c)):=by
 refine Aw.Ai Tryz.func177 rfl Ae (by kernel_rfl) ?_
 conv=>whnf
 repeat(refine sT rfl ?_;conv=>whnf)
 refine cS (KB a.c b.c) rfl ?_;conv=>whnf
 repeat(refine sT rfl ?_;conv=>whnf)
theorem GQ(l:List Cd)(a b n:Nat)(hl:l.length≤1000000)(ha:a+n≤l.length)(hb:b+n≤l.length):Ea Tryz.prog 259 [.own 0 3 0 l.length,.int .i64 a,.int .i64 b,.int .i64 n,HZ] 199 3 (JL l)
  (λr es=>r=.tuple []∧IH l es):=by
 refine Ea.Ai Tryz.func259 rfl Ae (by kernel_rfl) (by simp) (λgv=>?_)
 conv=>whnf
 repeat(refine sT rfl ?_;conv=>whnf)
 refine Ac.AJ (λs:Nat×List Cd=>mk 38 [(0,.own 0 3 0 l.length),(1,.int .i64 a),(2,.int .i64 b),(3,.int .i64 n),(4,HZ),(10,.int .i64 s.1)]) (λs=>[.arr 199 3 (JL s.2),.ghost [.own 0 3 0 l.length] [gv] []]) (λs=>s.1≤n∧PI l s.2) (λs=>n-s.1) (λs hs=>⟨rfl,Dm _⟩) ⟨(0,l),?_⟩ (λ_=>rfl) λs hk=>?_
 ·conv=>whnf
  repeat(refine Aq ?_ ?_;(focus (first|rfl|(simp;done)));conv=>whnf)
  first|exact⟨BD _,PI.refl l⟩|exact PI.refl l
 ·obtain⟨hk,hp⟩:=hk;generalize s.1=k at*;generalize s.2=l' at*;repeat(refine sT rfl ?_;conv=>whnf)
  refine⟨λh=>?_,λh=>?_⟩
  ·have h:k<n:=by simp at h;omega
   have Bq:=hp.len;have sI:Wr .i64 ((a:Int)+k)=((a+k:Nat):Int):=by rw[AH _ (by omega) (by omega)];rfl
   have rE:Wr .i64 ((b:Int)+k)=((b+k:Nat):Int):=by rw[AH _ (by omega) (by omega)];rfl
   have Bj:Wr .i64 ((k:Int)+1)=((k+1:Nat):Int):=by rw[AH _ (by omega) (by omega)];rfl
   conv=>whnf
   repeat(refine sT rfl ?_;conv=>whnf)
   refine Ac.NH [21,23] Ae mO (by kernel_rfl) ?_
   conv=>whnf
   rw[rE];refine⟨by omega,?_⟩
   conv=>whnf
   refine⟨_,by rw[Ba,AO];exact BB (by omega:b+k<l'.length),?_⟩
   conv=>whnf
   rw[sI];refine⟨by omega,?_⟩
   conv=>whnf
   refine⟨_,by rw[Ba,AO];exact BB (by omega:a+k<l'.length),?_⟩
   conv=>whnf
   refine⟨by omega,?_⟩
   conv=>whnf
   refine⟨_,by rw[Ba,AO];exact BB (by omega:a+k<l'.length),?_⟩
   conv=>whnf
   refine⟨by omega,?_⟩
   conv=>whnf
   rw[Ba,Ba,AO,AO,HJ];refine⟨_,BB (l:=l'.set (a+k) l'[b+k]) (k:=b+k) (by simp;omega),?_⟩
   conv=>whnf
   rw[HJ];repeat(refine sT rfl ?_;conv=>whnf)
   refine⟨(k+1,(l'.set (a+k) (l'[b+k]'(by omega))).set (b+k) (l'[a+k]'(by omega))),?_⟩
   conv=>whnf
   repeat(refine Aq ?_ ?_;(focus (first|rfl|(simp;done)|(first|exact Bj;done)));conv=>whnf)
   exact⟨⟨h,hp.swap (by omega) (by omega)⟩,(show n-(k+1)<n-k by omega)⟩
  ·conv=>whnf
   repeat(refine sT rfl ?_;conv=>whnf)
   refine⟨AS _,?_⟩;conv=>whnf
   exact⟨_,_,rfl,rfl,by simpa using hp.len,rfl,l',rfl,hp.perm⟩
theorem Kg(l:List Cd)(a b:Nat)(hl:l.length≤1000000)(ha:a≤b)(hb:b≤l.length):Ea Tryz.prog 243 [.own 0 3 0 l.length,.int .i64 a,.int .i64 b,HZ] 199 3 (JL l)
  (λr es=>r=.tuple []∧IH l es):=by
 refine Ea.Ai Tryz.func243 rfl Ae (by kernel_rfl) (by simp) (λgv=>?_)
 conv=>whnf
 repeat(refine sT rfl ?_;conv=>whnf)
 have sI:Wr .i64 ((a:Int)+1)=((a+1:Nat):Int):=by rw[AH _ (by omega) (by omega)];rfl
 rw[sI];refine Ac.AJ (λs:Nat×List Cd=>mk 53 [(0,.own 0 3 0 l.length),(1,.int .i64 a),(2,.int .i64 b),(3,HZ),(8,.int .i64 s.1)]) (λs=>[.arr 199 3 (JL s.2),.ghost [.own 0 3 0 l.length] [gv] []]) (λs=>(a<s.1∧s.1≤b+1)∧PI l s.2) (λs=>b+1-s.1) (λs hs=>⟨rfl,Dm _⟩) ⟨(a+1,l),?_⟩ (λ_=>rfl) λs hk=>?_
 ·conv=>whnf
  repeat(refine Aq ?_ ?_;(focus (first|rfl|(simp;done)));conv=>whnf)
  exact⟨⟨Nat.lt_succ_self _,by simp only;omega⟩,PI.refl l⟩
 ·obtain⟨⟨pW,hk⟩,hp⟩:=hk;generalize s.1=k at*;generalize s.2=l' at*;repeat(refine sT rfl ?_;conv=>whnf)
  refine⟨λh=>?_,λh=>?_⟩
  ·have h:k<b:=by simp at h;omega
   have Bj:Wr .i64 ((k:Int)+1)=((k+1:Nat):Int):=by rw[AH _ (by omega) (by omega)];rfl
   conv=>whnf
   repeat(refine sT rfl ?_;conv=>whnf)
   refine Ac.AJ (λs:Nat×List Cd=>mk 53 [(0,.own 0 3 0 l.length),(1,.int .i64 a),(2,.int .i64 b),(3,HZ),(8,.int .i64 k),(9,.int .i64 s.1)]) (λs=>[.arr 199 3 (JL s.2),.ghost [.own 0 3 0 l.length] [gv] []]) (λs=>(a≤s.1∧s.1≤k)∧PI l s.2) (λs=>s.1) (λs hs=>⟨rfl,Dm _⟩) ⟨(k,l'),?_⟩ (λ_=>rfl) λs hj=>?_
   ·conv=>whnf
    repeat(refine Aq ?_ ?_;(focus (first|rfl|(simp;done)));conv=>whnf)
    exact⟨⟨by simp only;omega,Bv _⟩,hp⟩
   ·obtain⟨⟨hj0,hj⟩,hp⟩:=hj;generalize s.1=j at*;generalize s.2=l' at*;have Bq:=hp.len;repeat(refine sT rfl ?_;conv=>whnf)
    refine Ac.draw [] Ae mO (by kernel_rfl) ?_
    conv=>whnf
    refine⟨λh3=>?_,λh3=>?_⟩
    ·have h3:a<j:=by simp at h3;omega
     have bA:Wr .i64 ((j:Int)-1)=((j-1:Nat):Int):=by rw[AH _ (by omega) (by omega)];omega
     conv=>whnf
     refine⟨by omega,?_⟩
     conv=>whnf
     refine⟨_,by rw[Ba,AO];exact BB (by omega:j<l'.length),?_⟩
     conv=>whnf
     rw[bA];refine⟨by omega,?_⟩
     conv=>whnf
     refine⟨_,by rw[Ba,AO];exact BB (by omega:j-1<l'.length),?_⟩
     conv=>whnf
     refine⟨_,⟨Jg (l'[j]'(by omega)) (l'[j-1]'(by omega)),rfl⟩,?_⟩
     conv=>whnf
     refine⟨λh4=>?_,λh4=>?_⟩
     ·conv=>whnf
      repeat(refine sT rfl ?_;conv=>whnf)
      refine Ac.NH [15,17] Ae mO (by kernel_rfl) ?_
      conv=>whnf
      rw[bA];refine⟨by omega,?_⟩
      conv=>whnf
      refine⟨_,by rw[Ba,AO];exact BB (by omega:j-1<l'.length),?_⟩
      conv=>whnf
      refine⟨by omega,?_⟩
      conv=>whnf
      refine⟨_,by rw[Ba,AO];exact BB (by omega:j<l'.length),?_⟩
      conv=>whnf
      refine⟨by omega,?_⟩
      conv=>whnf
      refine⟨_,by rw[Ba,AO];exact BB (by omega:j<l'.length),?_⟩
      conv=>whnf
      refine⟨by omega,?_⟩
      conv=>whnf
      rw[Ba,Ba,AO,AO,HJ];refine⟨_,BB (l:=l'.set j (l'[j-1]'(by omega))) (k:=j-1) (by simp;omega),?_⟩
      conv=>whnf
      rw[HJ];repeat(refine sT rfl ?_;conv=>whnf)
      refine⟨(j-1,(l'.set j (l'[j-1]'(by omega))).set (j-1) (l'[j]'(by omega))),?_⟩
      conv=>whnf
      repeat(refine Aq ?_ ?_;(focus (first|rfl|(simp;done)|(first|exact bA;done)));conv=>whnf)
      exact⟨⟨⟨by simp only;omega,by simp only;omega⟩,hp.swap (by omega) (by omega)⟩,(show j-1<j by omega)⟩
     ·conv=>whnf
      repeat(refine sT rfl ?_;conv=>whnf)
      refine⟨(k+1,l'),?_⟩;conv=>whnf
      repeat(refine Aq ?_ ?_;(focus (first|rfl|(simp;done)|(first|exact Bj;done)));conv=>whnf)
      exact⟨⟨⟨by simp only;omega,by simp only;omega⟩,hp⟩,(show b+1-(k+1)<b+1-k by omega)⟩
    ·conv=>whnf
     repeat(refine sT rfl ?_;conv=>whnf)
     refine⟨(k+1,l'),?_⟩;conv=>whnf
     repeat(refine Aq ?_ ?_;(focus (first|rfl|(simp;done)|(first|exact Bj;done)));conv=>whnf)
     exact⟨⟨⟨by simp only;omega,by simp only;omega⟩,hp⟩,(show b+1-(k+1)<b+1-k by omega)⟩
  ·conv=>whnf
   repeat(refine sT rfl ?_;conv=>whnf)
   refine⟨AS _,?_⟩;conv=>whnf
   exact⟨_,_,rfl,rfl,by simpa using hp.len,rfl,l',rfl,hp.perm⟩
theorem fP{i j:Nat}(h:i+j≤4000000):Wr .i64 (Wr .u64 (Wr .i64 ((i:Int)+j))/2)=(((i+j)/2:Nat):Int):=by
 have e2:Wr .u64 ((i:Int)+j)=(i:Int)+j:=by unfold Wr;simp[IntKind.wrap,Gu,Gj];omega
 rw[AH ((i:Int)+j) (by omega) (by omega),e2,AH _ (by omega) (by omega)]
 omega
theorem Xj(l:List Cd)(a m b:Nat)(hl:l.length≤1000000)(ha:a<m)(hm:m<b)(hb:b≤l.length):Ea Tryz.prog 256 [.own 0 3 0 l.length,.int .i64 a,.int .i64 m,.int .i64 b,HZ] 199 3 (JL l)
  (λr es=>r=.tuple []∧IH l es):=by
 refine Ea.Ai Tryz.func256 rfl Ae (by kernel_rfl) (by simp) (λgv=>?_)
 conv=>whnf
 repeat(refine sT rfl ?_;conv=>whnf)
 have V6:Wr .i64 ((m:Int)-a)=((m-a:Nat):Int):=by rw[AH _ (by omega) (by omega)];omega
 have bA:Wr .i64 ((b:Int)-m)=((b-m:Nat):Int):=by rw[AH _ (by omega) (by omega)];omega
 rw[V6,bA];refine Ac.AJ (λs:Nat×Nat×List Cd=>mk 58 [(0,.own 0 3 0 l.length),(1,.int .i64 a),(2,.int .i64 m),(3,.int .i64 b),(4,HZ),(10,.int .i64 s.1),(11,.int .i64 s.2.1)]) (λs=>[.arr 199 3 (JL s.2.2),.ghost [.own 0 3 0 l.length] [gv] []]) (λs=>((1≤s.1∧s.1≤m)∧1≤s.2.1∧m+s.2.1≤b)∧PI l s.2.2) (λs=>s.1+s.2.1) (λs hs=>⟨rfl,Dm _⟩) ⟨(m-a,b-m,l),?_⟩ (λ_=>rfl) λs hk=>?_
 ·conv=>whnf
  repeat(refine Aq ?_ ?_;(focus (first|rfl|(simp;done)));conv=>whnf)
  exact⟨⟨⟨by simp only;omega,by simp only;omega⟩,by simp only;omega,by simp only;omega⟩,PI.refl l⟩
 ·obtain⟨⟨⟨hi,Qz⟩,hj,bL⟩,hp⟩:=hk;generalize s.2.2=l' at*;generalize s.2.1=j at*;generalize s.1=i at*;have Bq:=hp.len;repeat(refine sT rfl ?_;conv=>whnf)
  refine⟨λh=>?_,λh=>?_⟩
  ·have h:i≠j:=by simp at h;omega
   conv=>whnf
   repeat(refine sT rfl ?_;conv=>whnf)
   refine⟨λh2=>?_,λh2=>?_⟩
   ·have h2:j<i:=by simp at h2;omega
    have Bj:Wr .i64 ((m:Int)-i)=((m-i:Nat):Int):=by rw[AH _ (by omega) (by omega)];omega
    have Gf:Wr .i64 ((i:Int)-j)=((i-j:Nat):Int):=by rw[AH _ (by omega) (by omega)];omega
    conv=>whnf
    repeat(refine sT rfl ?_;conv=>whnf)
    rw[Bj];have hs:=GQ l' (m-i) m j (by omega) (by omega) (by omega)
    rw[Bq]at hs;refine Ak.Kb hs rfl ⟨rfl,AS _,trivial⟩ ?_;rintro r es ⟨rfl,l2,rfl,Mp⟩ hlen;conv=>whnf
    repeat(refine sT rfl ?_;conv=>whnf)
    refine⟨(i-j,j,l2),?_⟩;conv=>whnf
    repeat(refine Aq ?_ ?_;(focus (first|rfl|(simp;done)|(first|exact Gf;done)));conv=>whnf)
    exact⟨⟨⟨⟨by simp only;omega,by simp only;omega⟩,by simp only;omega,by simp only;omega⟩,Mp.trans hp.perm,by simpa[Bq]using hlen⟩,(show i-j+j<i+j by omega)⟩
   ·have h2:i<j:=by simp at h2;omega
    have Bj:Wr .i64 ((m:Int)-i)=((m-i:Nat):Int):=by rw[AH _ (by omega) (by omega)];omega
    have Gf:Wr .i64 ((j:Int)-i)=((j-i:Nat):Int):=by rw[AH _ (by omega) (by omega)];omega
    have bB:Wr .i64 (Wr .i64 ((m:Int)+j)-i)=((m+j-i:Nat):Int):=by rw[AH ((m:Int)+j) (by omega) (by omega),AH _ (by omega) (by omega)];omega
    conv=>whnf
    repeat(refine sT rfl ?_;conv=>whnf)
    rw[Bj,bB];have hs:=GQ l' (m-i) (m+j-i) i (by omega) (by omega) (by omega)
    rw[Bq]at hs;refine Ak.Kb hs rfl ⟨rfl,AS _,trivial⟩ ?_;rintro r es ⟨rfl,l2,rfl,Mp⟩ hlen;conv=>whnf
    repeat(refine sT rfl ?_;conv=>whnf)
    refine⟨(i,j-i,l2),?_⟩;conv=>whnf
    repeat(refine Aq ?_ ?_;(focus (first|rfl|(simp;done)|(first|exact Gf;done)));conv=>whnf)
    exact⟨⟨⟨⟨by simp only;omega,by simp only;omega⟩,by simp only;omega,by simp only;omega⟩,Mp.trans hp.perm,by simpa[Bq]using hlen⟩,(show i+(j-i)<i+j by omega)⟩
  ·have h:i=j:=by simp at h;omega
   have Bj:Wr .i64 ((m:Int)-i)=((m-i:Nat):Int):=by rw[AH _ (by omega) (by omega)];omega
   conv=>whnf
   repeat(refine sT rfl ?_;conv=>whnf)
   rw[Bj];have hs:=GQ l' (m-i) m i (by omega) (by omega) (by omega)
   rw[Bq]at hs;refine Ak.Kb hs rfl ⟨rfl,AS _,trivial⟩ ?_;rintro r es ⟨rfl,l2,rfl,Mp⟩ hlen;conv=>whnf
   repeat(refine sT rfl ?_;conv=>whnf)
   refine⟨AS _,?_⟩;conv=>whnf
   exact⟨_,_,rfl,rfl,by rw[hlen];simpa using Bq,rfl,l2,rfl,Mp.trans hp.perm⟩
structure Zd0(a m b Mi st r:Nat):Prop where
 le:st≤r
 lo:(Mi<m∧Mi+m≤st+b∧r≤Mi)∨(m≤Mi∧a≤st∧r≤m)
theorem R6:∀(n:Nat)(l:List Cd)(a m b:Nat)(hn:b-a≤n)(hl:l.length≤1000000)(ha:a<m)(hm:m<b)(hb:b≤l.length),Ea Tryz.prog 244 [.own 0 3 0 l.length,.int .i64 a,.int .i64 m,.int .i64 b,HZ] 199 3 (JL l)
  (λr es=>r=.tuple []∧IH l es):=by
 intro n;induction n with
 |zero=>intro l a m b hn hl ha hm hb;omega
 |succ n ih=>
  intro l a m b hn hl ha hm hb;refine Ea.Ai Tryz.func244 rfl Ae (by kernel_rfl) (by simp) (λgv=>?_)
  conv=>whnf
  repeat(refine sT rfl ?_;conv=>whnf)
  have Bj:Wr .i64 ((m:Int)-a)=((m-a:Nat):Int):=by rw[AH _ (by omega) (by omega)];omega
  have Gf:Wr .i64 ((b:Int)-m)=((b-m:Nat):Int):=by rw[AH _ (by omega) (by omega)];omega
  rw[Bj];refine⟨λh1=>?_,λh1=>?_⟩
  ·have h1:m-a=1:=by simp at h1;omega
   conv=>whnf
   repeat(refine sT rfl ?_;conv=>whnf)
   refine Ac.AJ (λs:Nat×Nat=>mk 220 [(0,.own 0 3 0 l.length),(1,.int .i64 a),(2,.int .i64 m),(3,.int .i64 b),(4,HZ),(10,.int .i64 s.1),(11,.int .i64 s.2)]) (λs=>[.arr 199 3 (JL l),.ghost [.own 0 3 0 l.length] [gv] []]) (λs=>m≤s.1∧s.1≤s.2∧s.2≤b) (λs=>s.2-s.1) (λs hs=>⟨rfl,Dm _⟩) ⟨(m,b),?_⟩ (λ_=>rfl) λs hk=>?_
   ·conv=>whnf
    repeat(refine Aq ?_ ?_;(focus (first|rfl|(simp;done)));conv=>whnf)
    first|exact⟨Bv _,by simp only;omega,Bv _⟩|exact Bv _|exact⟨by simp only;omega,Bv _⟩|(simp only;omega)
   ·obtain⟨hi,N4,hj⟩:=hk;generalize s.1=i at*;generalize s.2=j at*;repeat(refine sT rfl ?_;conv=>whnf)
    refine⟨λh3=>?_,λh3=>?_⟩
    ·have h3:i<j:=by simp at h3;omega
     conv=>whnf
     iterate 3 (refine sT rfl ?_;conv=>whnf)
     refine Ac.Vw [4] Ae ?_;conv=>whnf
     refine⟨⟨⟨rfl,rfl⟩,rfl⟩,?_⟩;conv=>whnf
     rw[fP (by omega)]
     repeat(refine sT rfl ?_;conv=>whnf)
     have hwh:Wr .i64 ((((i+j)/2:Nat):Int)+1)=(((i+j)/2+1:Nat):Int):=by rw[AH _ (by omega) (by omega)];rfl
     refine Ac.draw [] Ae mO (by kernel_rfl) ?_
     conv=>whnf
     refine⟨by omega,?_⟩
     conv=>whnf
     refine⟨_,by rw[Ba,AO];exact BB (by omega:(i+j)/2<l.length),?_⟩
     conv=>whnf
     refine⟨by omega,?_⟩
     conv=>whnf
     refine⟨_,by rw[Ba,AO];exact BB (by omega:a<l.length),?_⟩
     conv=>whnf
     refine⟨_,⟨Jg (l[(i+j)/2]'(by omega)) (l[a]'(by omega)),rfl⟩,?_⟩
     conv=>whnf
     refine⟨λh5=>?_,λh5=>?_⟩
     ·conv=>whnf
      repeat(refine sT rfl ?_;conv=>whnf)
      refine⟨((i+j)/2+1,j),?_⟩;conv=>whnf
      repeat(refine Aq ?_ ?_;(focus (first|rfl|(simp;done)|(first|exact hwh;done)));conv=>whnf)
      first|exact⟨⟨by simp only;omega,by simp only;omega,by simp only;omega⟩,(show j-((i+j)/2+1)<j-i by omega)⟩
     ·conv=>whnf
      repeat(refine sT rfl ?_;conv=>whnf)
      refine⟨(i,(i+j)/2),?_⟩;conv=>whnf
      repeat(refine Aq ?_ ?_;(focus (first|rfl|(simp;done)));conv=>whnf)
      first|exact⟨⟨by simp only;omega,by simp only;omega,by simp only;omega⟩,(show(i+j)/2-i<j-i by omega)⟩
    ·have h3:i=j:=by simp at h3;omega
     conv=>whnf
     repeat(refine sT rfl ?_;conv=>whnf)
     refine Ac.AJ (λs:Nat×List Cd=>mk 220 [(0,.own 0 3 0 l.length),(1,.int .i64 a),(2,.int .i64 m),(3,.int .i64 b),(4,HZ),(10,.int .i64 i),(13,.int .i64 s.1)]) (λs=>[.arr 199 3 (JL s.2),.ghost [.own 0 3 0 l.length] [gv] []]) (λs=>(a≤s.1∧s.1≤i)∧PI l s.2) (λs=>i-s.1) (λs hs=>⟨rfl,Dm _⟩) ⟨(a,l),?_⟩ (λ_=>rfl) λs hk=>?_
     ·conv=>whnf
      repeat(refine Aq ?_ ?_;(focus (first|rfl|(simp;done)));conv=>whnf)
      exact⟨⟨Bv _,by simp only;omega⟩,PI.refl l⟩
     ·obtain⟨⟨pW,hk⟩,hp⟩:=hk;generalize s.1=k at*;generalize s.2=l' at*;have Bq:=hp.len;have V6:Wr .i64 ((i:Int)-1)=((i-1:Nat):Int):=by rw[AH _ (by omega) (by omega)];omega
      repeat(refine sT rfl ?_;conv=>whnf)
      rw[V6];refine⟨λh4=>?_,λh4=>?_⟩
      ·have h4:k<i-1:=by simp at h4;omega
       have hwk:Wr .i64 ((k:Int)+1)=((k+1:Nat):Int):=by rw[AH _ (by omega) (by omega)];rfl
       conv=>whnf
       repeat(refine sT rfl ?_;conv=>whnf)
       refine Ac.NH [15,17] Ae mO (by kernel_rfl) ?_
       conv=>whnf
       rw[hwk]
       refine⟨by omega,?_⟩
       conv=>whnf
       refine⟨_,by rw[Ba,AO];exact BB (by omega:k+1<l'.length),?_⟩
       conv=>whnf
       refine⟨by omega,?_⟩
       conv=>whnf
       refine⟨_,by rw[Ba,AO];exact BB (by omega:k<l'.length),?_⟩
       conv=>whnf
       refine⟨by omega,?_⟩
       conv=>whnf
       refine⟨_,by rw[Ba,AO];exact BB (by omega:k<l'.length),?_⟩
       conv=>whnf
       refine⟨by omega,?_⟩
       conv=>whnf
       rw[Ba,Ba,AO,AO,HJ]
       refine⟨_,BB (l:=l'.set (k) (l'[k+1]'(by omega))) (k:=k+1) (by simp;omega),?_⟩
       conv=>whnf
       rw[HJ]
       repeat(refine sT rfl ?_;conv=>whnf)
       refine⟨(k+1,(l'.set (k) (l'[k+1]'(by omega))).set (k+1) (l'[k]'(by omega))),?_⟩
       conv=>whnf
       repeat(refine Aq ?_ ?_;(focus (first|rfl|(simp;done)|(first|exact hwk;done)));conv=>whnf)
       exact⟨⟨⟨by simp only;omega,by simp only;omega⟩,hp.swap (by omega) (by omega)⟩,(show i-(k+1)<i-k by omega)⟩
      ·conv=>whnf
       repeat(refine sT rfl ?_;conv=>whnf)
       refine⟨AS _,?_⟩
       conv=>whnf
       exact⟨_,_,rfl,rfl,by simpa using Bq,rfl,l',rfl,hp.perm⟩
  ·have h1:m-a≠1:=by simp at h1;omega
   conv=>whnf
   repeat(refine sT rfl ?_;conv=>whnf)
   rw[Gf];refine⟨λh2=>?_,λh2=>?_⟩
   ·have h2:b-m=1:=by simp at h2;omega
    conv=>whnf
    repeat(refine sT rfl ?_;conv=>whnf)
    refine Ac.AJ (λs:Nat×Nat=>mk 220 [(0,.own 0 3 0 l.length),(1,.int .i64 a),(2,.int .i64 m),(3,.int .i64 b),(4,HZ),(14,.int .i64 s.1),(15,.int .i64 s.2)]) (λs=>[.arr 199 3 (JL l),.ghost [.own 0 3 0 l.length] [gv] []]) (λs=>a≤s.1∧s.1≤s.2∧s.2≤m) (λs=>s.2-s.1) (λs hs=>⟨rfl,Dm _⟩) ⟨(a,m),?_⟩ (λ_=>rfl) λs hk=>?_
    ·conv=>whnf
     repeat(refine Aq ?_ ?_;(focus (first|rfl|(simp;done)));conv=>whnf)
     first|exact⟨Bv _,by simp only;omega,Bv _⟩|exact Bv _|exact⟨by simp only;omega,Bv _⟩|(simp only;omega)
    ·obtain⟨hi,N4,hj⟩:=hk;generalize s.1=i at*;generalize s.2=j at*;repeat(refine sT rfl ?_;conv=>whnf)
     refine⟨λh3=>?_,λh3=>?_⟩
     ·have h3:i<j:=by simp at h3;omega
      conv=>whnf
      iterate 3 (refine sT rfl ?_;conv=>whnf)
      refine Ac.Vw [4] Ae ?_;conv=>whnf
      refine⟨⟨⟨rfl,rfl⟩,rfl⟩,?_⟩;conv=>whnf
      rw[fP (by omega)]
      repeat(refine sT rfl ?_;conv=>whnf)
      have hwh:Wr .i64 ((((i+j)/2:Nat):Int)+1)=(((i+j)/2+1:Nat):Int):=by rw[AH _ (by omega) (by omega)];rfl
      refine Ac.draw [] Ae mO (by kernel_rfl) ?_
      conv=>whnf
      refine⟨by omega,?_⟩
      conv=>whnf
      refine⟨_,by rw[Ba,AO];exact BB (by omega:m<l.length),?_⟩
      conv=>whnf
      refine⟨by omega,?_⟩
      conv=>whnf
      refine⟨_,by rw[Ba,AO];exact BB (by omega:(i+j)/2<l.length),?_⟩
      conv=>whnf
      refine⟨_,⟨Jg (l[m]'(by omega)) (l[(i+j)/2]'(by omega)),rfl⟩,?_⟩
      conv=>whnf
      refine⟨λh5=>?_,λh5=>?_⟩
      ·conv=>whnf
       repeat(refine sT rfl ?_;conv=>whnf)
       refine⟨(i,(i+j)/2),?_⟩
       conv=>whnf
       repeat(refine Aq ?_ ?_;(focus (first|rfl|(simp;done)));conv=>whnf)
       first|exact⟨⟨by simp only;omega,by simp only;omega,by simp only;omega⟩,(show(i+j)/2-i<j-i by omega)⟩
      ·conv=>whnf
       repeat(refine sT rfl ?_;conv=>whnf)
       refine⟨((i+j)/2+1,j),?_⟩
       conv=>whnf
       repeat(refine Aq ?_ ?_;(focus (first|rfl|(simp;done)|(first|exact hwh;done)));conv=>whnf)
       first|exact⟨⟨by simp only;omega,by simp only;omega,by simp only;omega⟩,(show j-((i+j)/2+1)<j-i by omega)⟩
     ·have h3:i=j:=by simp at h3;omega
      conv=>whnf
      repeat(refine sT rfl ?_;conv=>whnf)
      refine Ac.AJ (λs:Nat×List Cd=>mk 220 [(0,.own 0 3 0 l.length),(1,.int .i64 a),(2,.int .i64 m),(3,.int .i64 b),(4,HZ),(14,.int .i64 i),(17,.int .i64 s.1)]) (λs=>[.arr 199 3 (JL s.2),.ghost [.own 0 3 0 l.length] [gv] []]) (λs=>(i≤s.1∧s.1≤m)∧PI l s.2) (λs=>s.1) (λs hs=>⟨rfl,Dm _⟩) ⟨(m,l),?_⟩ (λ_=>rfl) λs hk=>?_
      ·conv=>whnf
       repeat(refine Aq ?_ ?_;(focus (first|rfl|(simp;done)));conv=>whnf)
       exact⟨⟨by simp only;omega,Bv _⟩,PI.refl l⟩
      ·obtain⟨⟨pW,hk⟩,hp⟩:=hk
       generalize s.1=k at*
       generalize s.2=l' at*
       have Bq:=hp.len
       repeat(refine sT rfl ?_;conv=>whnf)
       refine⟨λh4=>?_,λh4=>?_⟩
       ·have h4:i<k:=by simp at h4;omega
        have hwk:Wr .i64 ((k:Int)-1)=((k-1:Nat):Int):=by rw[AH _ (by omega) (by omega)];omega
        conv=>whnf
        repeat(refine sT rfl ?_;conv=>whnf)
        refine Ac.NH [15,17] Ae mO (by kernel_rfl) ?_
        conv=>whnf
        rw[hwk]
        refine⟨by omega,?_⟩
        conv=>whnf
        refine⟨_,by rw[Ba,AO];exact BB (by omega:k-1<l'.length),?_⟩
        conv=>whnf
        refine⟨by omega,?_⟩
        conv=>whnf
        refine⟨_,by rw[Ba,AO];exact BB (by omega:k<l'.length),?_⟩
        conv=>whnf
        refine⟨by omega,?_⟩
        conv=>whnf
        refine⟨_,by rw[Ba,AO];exact BB (by omega:k<l'.length),?_⟩
        conv=>whnf
        refine⟨by omega,?_⟩
        conv=>whnf
        rw[Ba,Ba,AO,AO,HJ]
        refine⟨_,BB (l:=l'.set (k) (l'[k-1]'(by omega))) (k:=k-1) (by simp;omega),?_⟩
        conv=>whnf
        rw[HJ]
        repeat(refine sT rfl ?_;conv=>whnf)
        refine⟨(k-1,(l'.set (k) (l'[k-1]'(by omega))).set (k-1) (l'[k]'(by omega))),?_⟩
        conv=>whnf
        repeat(refine Aq ?_ ?_;(focus (first|rfl|(simp;done)|(first|exact hwk;done)));conv=>whnf)
        exact⟨⟨⟨by simp only;omega,by simp only;omega⟩,hp.swap (by omega) (by omega)⟩,(show k-1<k by omega)⟩
       ·conv=>whnf
        repeat(refine sT rfl ?_;conv=>whnf)
        refine⟨AS _,?_⟩
        conv=>whnf
        exact⟨_,_,rfl,rfl,by simpa using Bq,rfl,l',rfl,hp.perm⟩
   ·have h2:b-m≠1:=by simp at h2;omega
    conv=>whnf
    iterate 2 (refine sT rfl ?_;conv=>whnf)
    refine Ac.Vw [4] Ae ?_;conv=>whnf
    refine⟨⟨⟨rfl,rfl⟩,rfl⟩,?_⟩;conv=>whnf
    rw[fP (by omega)]
    have hwn:Wr .i64 ((((a+b)/2:Nat):Int)+m)=(((a+b)/2+m:Nat):Int):=by rw[AH _ (by omega) (by omega)];rfl
    generalize Zii:(a+b)/2=Mi at*;iterate 4 (refine sT rfl ?_;conv=>whnf)
    rw[hwn];refine Ac.seq ?_;refine Ac.cP (λs:Nat×Nat=>mk 220 [(0,.own 0 3 0 l.length),(1,.int .i64 a),(2,.int .i64 m),(3,.int .i64 b),(4,HZ),(18,.int .i64 Mi),(19,.int .i64 (Mi+m:Nat)),(20,.int .i64 s.1),(21,.int .i64 s.2)]) (λs=>[.arr 199 3 (JL l),.ghost [.own 0 3 0 l.length] [gv] []]) (λs=>Zd0 a m b Mi s.1 s.2) (λ_ _=>⟨rfl,Dm _⟩) (λ_=>Bv _) ?_ λs hs=>?_
    ·repeat(refine sT rfl ?_;conv=>whnf)
     refine⟨λh3=>?_,λh3=>?_⟩
     ·have h3:Mi<m:=by simp at h3;omega
      have rE:Wr .i64 (((Mi+m:Nat):Int)-b)=((Mi+m-b:Nat):Int):=by rw[AH _ (by omega) (by omega)];omega
      conv=>whnf
      repeat(refine sT rfl ?_;conv=>whnf)
      refine⟨(Mi+m-b,Mi),?_⟩;conv=>whnf
      repeat(refine Aq ?_ ?_;(focus (first|rfl|(simp;done)|(first|exact rE;done)));conv=>whnf)
      exact⟨by simp only;omega,.inl ⟨h3,by simp only;omega,Bv _⟩⟩
     ·have h3:m≤Mi:=by simp at h3;omega
      conv=>whnf
      repeat(refine sT rfl ?_;conv=>whnf)
      refine⟨(a,m),?_⟩;conv=>whnf
      repeat(refine Aq ?_ ?_;(focus (first|rfl|(simp;done)));conv=>whnf)
      exact⟨by simp only;omega,.inr ⟨h3,Bv _,Bv _⟩⟩
    ·generalize s.1=st at*;generalize s.2=r at*;have hwp:Wr .i64 (((Mi+m:Nat):Int)-1)=((Mi+m-1:Nat):Int):=by rw[AH _ (by omega) (by omega)];omega
     repeat(refine sT rfl ?_;conv=>whnf)
     rw[hwp];refine Ac.AJ (λs:Nat×Nat=>mk 220 [(0,.own 0 3 0 l.length),(1,.int .i64 a),(2,.int .i64 m),(3,.int .i64 b),(4,HZ),(18,.int .i64 Mi),(19,.int .i64 (Mi+m:Nat)),(20,.int .i64 s.1),(21,.int .i64 s.2),(22,.int .i64 (Mi+m-1:Nat))]) (λs=>[.arr 199 3 (JL l),.ghost [.own 0 3 0 l.length] [gv] []]) (λs=>Zd0 a m b Mi s.1 s.2) (λs=>s.2-s.1) (λs hs=>⟨rfl,Dm _⟩) ⟨(st,r),?_⟩ (λ_=>rfl) λs hs=>?_
     ·conv=>whnf
      repeat(refine Aq ?_ ?_;(focus (first|rfl|(simp;done)));conv=>whnf)
      exact hs
     ·generalize s.1=i at*;generalize s.2=j at*;obtain⟨N4,hlo⟩:=hs;repeat(refine sT rfl ?_;conv=>whnf)
      refine⟨λh3=>?_,λh3=>?_⟩
      ·have h3:i<j:=by simp at h3;omega
       conv=>whnf
       iterate 3 (refine sT rfl ?_;conv=>whnf)
       refine Ac.Vw [4] Ae ?_
       conv=>whnf
       refine⟨⟨⟨rfl,rfl⟩,rfl⟩,?_⟩
       conv=>whnf
       rw[fP (by omega)]
       repeat(refine sT rfl ?_;conv=>whnf)
       have hwh:Wr .i64 ((((i+j)/2:Nat):Int)+1)=(((i+j)/2+1:Nat):Int):=by rw[AH _ (by omega) (by omega)];rfl
       have hwc:Wr .i64 (((Mi+m-1:Nat):Int)-(((i+j)/2:Nat):Int))=((Mi+m-1-(i+j)/2:Nat):Int):=by rw[AH _ (by omega) (by omega)];omega
       refine Ac.draw [] Ae mO (by kernel_rfl) ?_
       conv=>whnf
       rw[hwc]
       refine⟨by omega,?_⟩
       conv=>whnf
       refine⟨_,by rw[Ba,AO];exact BB (by omega:Mi+m-1-(i+j)/2<l.length),?_⟩
       conv=>whnf
       refine⟨by omega,?_⟩
       conv=>whnf
       refine⟨_,by rw[Ba,AO];exact BB (by omega:(i+j)/2<l.length),?_⟩
       conv=>whnf
       refine⟨_,⟨Jg (l[Mi+m-1-(i+j)/2]'(by omega)) (l[(i+j)/2]'(by omega)),rfl⟩,?_⟩
       conv=>whnf
       refine⟨λh5=>?_,λh5=>?_⟩
       ·conv=>whnf
        repeat(refine sT rfl ?_;conv=>whnf)
        refine⟨(i,(i+j)/2),?_⟩
        conv=>whnf
        repeat(refine Aq ?_ ?_;(focus (first|rfl|(simp;done)));conv=>whnf)
        exact⟨⟨by simp only;omega,by simp only;omega⟩,(show(i+j)/2-i<j-i by omega)⟩
       ·conv=>whnf
        repeat(refine sT rfl ?_;conv=>whnf)
        refine⟨((i+j)/2+1,j),?_⟩
        conv=>whnf
        repeat(refine Aq ?_ ?_;(focus (first|rfl|(simp;done)|(first|exact hwh;done)));conv=>whnf)
        exact⟨⟨by simp only;omega,by simp only;omega⟩,(show j-((i+j)/2+1)<j-i by omega)⟩
      ·have h3:i=j:=by simp at h3;omega
       have hwe:Wr .i64 (((Mi+m:Nat):Int)-i)=((Mi+m-i:Nat):Int):=by rw[AH _ (by omega) (by omega)];omega
       subst h3
       conv=>whnf
       iterate 3 (refine sT rfl ?_;conv=>whnf)
       rw[hwe]
       generalize ZiD:Mi+m-i=en at*
       refine Ac.seq ?_
       refine Ac.cP (λ_:List Cd=>mk 220 [(0,.own 0 3 0 l.length),(1,.int .i64 a),(2,.int .i64 m),(3,.int .i64 b),(4,HZ),(18,.int .i64 Mi),(20,.int .i64 i),(24,.int .i64 en)]) (λl'=>[.arr 199 3 (JL l'),.ghost [.own 0 3 0 l.length] [gv] []]) (λl'=>PI l l') (λ_ _=>⟨rfl,Dm _⟩) (λ_=>Bv _) ?_ λl' hp=>?_
       ·repeat(refine sT rfl ?_;conv=>whnf)
        repeat' (first|(refine Aq (λ_=>?_) (λ_=>?_)<;>conv=>whnf)|(refine sT rfl ?_;conv=>whnf))
        ·rename_i q1 q2
         have hs:=Xj l i m en hl (by simp at q1;omega) (by simp at q2;omega) (by omega)
         refine Ak.Kb hs rfl ⟨rfl,AS _,trivial⟩ ?_
         rintro r es ⟨rfl,l2,rfl,Mp⟩ hlen
         conv=>whnf
         repeat(refine sT rfl ?_;conv=>whnf)
         refine⟨l2,?_⟩
         conv=>whnf
         repeat(refine Aq ?_ ?_;(focus (first|rfl|(simp;done)));conv=>whnf)
         exact⟨Mp,by simpa using hlen⟩
        all_goals
         refine⟨l,?_⟩;conv=>whnf
         repeat(refine Aq ?_ ?_;(focus (first|rfl|(simp;done)));conv=>whnf)
         exact PI.refl l
       ·have Bq:=hp.len
        iterate 1 (refine sT rfl ?_;conv=>whnf)
        refine Ac.cP (λ_:List Cd=>mk 220 [(0,.own 0 3 0 l.length),(1,.int .i64 a),(2,.int .i64 m),(3,.int .i64 b),(4,HZ),(18,.int .i64 Mi),(20,.int .i64 i),(24,.int .i64 en)]) (λl'=>[.arr 199 3 (JL l'),.ghost [.own 0 3 0 l.length] [gv] []]) (λl'=>PI l l') (λ_ _=>⟨rfl,Dm _⟩) (λ_=>Bv _) ?_ λl' hp=>?_
        ·repeat(refine sT rfl ?_;conv=>whnf)
         repeat' (first|(refine Aq (λ_=>?_) (λ_=>?_)<;>conv=>whnf)|(refine sT rfl ?_;conv=>whnf))
         ·rename_i q1 q2
          have hs:=ih l' a i Mi (by omega) (by omega) (by simp at q1;omega) (by simp at q2;omega) (by omega)
          rw[Bq]at hs
          refine Ak.Kb hs rfl ⟨rfl,AS _,trivial⟩ ?_
          rintro r es ⟨rfl,l2,rfl,Mp⟩ hlen
          conv=>whnf
          repeat(refine sT rfl ?_;conv=>whnf)
          refine⟨l2,?_⟩
          conv=>whnf
          repeat(refine Aq ?_ ?_;(focus (first|rfl|(simp;done)));conv=>whnf)
          exact⟨Mp.trans hp.perm,by rw[C5,C5]at hlen;omega⟩
         all_goals
          refine⟨l',?_⟩;conv=>whnf
          repeat(refine Aq ?_ ?_;(focus (first|rfl|(simp;done)));conv=>whnf)
          exact hp
        ·have Bq:=hp.len
         repeat(refine sT rfl ?_;conv=>whnf)
         repeat' (first|(refine Aq (λ_=>?_) (λ_=>?_)<;>conv=>whnf)|(refine sT rfl ?_;conv=>whnf))
         ·rename_i q1 q2
          have hs:=ih l' Mi en b (by omega) (by omega) (by simp at q1;omega) (by simp at q2;omega) (by omega)
          rw[Bq]at hs
          refine Ak.Kb hs rfl ⟨rfl,AS _,trivial⟩ ?_
          rintro r es ⟨rfl,l2,rfl,Mp⟩ hlen
          conv=>whnf
          repeat(refine sT rfl ?_;conv=>whnf)
          refine⟨AS _,?_⟩
          conv=>whnf
          exact⟨_,_,rfl,rfl,by rw[hlen];simpa using Bq,rfl,l2,rfl,Mp.trans hp.perm⟩
         all_goals
          refine⟨AS _,?_⟩;conv=>whnf
          exact⟨_,_,rfl,rfl,by simpa using Bq,rfl,l',rfl,hp.perm⟩
theorem W2(l:List Cd)(hl:l.length≤1000000):Ea Tryz.prog 219 [.own 0 3 0 l.length,.int .i64 l.length,HZ] 199 3 (JL l)
  (λr es=>r=.tuple []∧IH l es):=by
 refine Ea.Ai Tryz.func219 rfl Ae (by kernel_rfl) (by simp) (λgv=>?_)
 conv=>whnf
 repeat(refine sT rfl ?_;conv=>whnf)
 refine Ac.AJ (λs:Nat×Nat×List Cd=>mk 63 [(0,.own 0 3 0 l.length),(1,.int .i64 l.length),(2,HZ),(6,.int .i64 20),(7,.int .i64 s.1),(8,.int .i64 s.2.1)]) (λs=>[.arr 199 3 (JL s.2.2),.ghost [.own 0 3 0 l.length] [gv] []]) (λs=>(s.1≤l.length∧s.2.1=s.1+20)∧PI l s.2.2) (λs=>l.length-s.1) (λs hs=>⟨rfl,Dm _⟩) ⟨(0,20,l),?_⟩ (λ_=>rfl) λs hk=>?_
 ·conv=>whnf
  repeat(refine Aq ?_ ?_;(focus (first|rfl|(simp;done)));conv=>whnf)
  first|exact⟨⟨BD _,rfl⟩,PI.refl l⟩|exact PI.refl l|exact⟨.refl _,rfl⟩|exact .refl _
 ·obtain⟨⟨ha,hb⟩,hp⟩:=hk;generalize s.2.2=l' at*;generalize s.2.1=b at*;generalize s.1=a at*;have Bq:=hp.len;have rE:Wr .i64 ((b:Int)+20)=((b+20:Nat):Int):=by rw[AH _ (by omega) (by omega)];rfl
  repeat(refine sT rfl ?_;conv=>whnf)
  refine⟨λh=>?_,λh=>?_⟩
  ·have h:b≤l.length:=by simp at h;omega
   conv=>whnf
   repeat(refine sT rfl ?_;conv=>whnf)
   have hs:=Kg l' a b (by omega) (by omega) (by omega)
   rw[Bq]at hs;refine Ak.Kb hs rfl ⟨rfl,AS _,trivial⟩ ?_;rintro r es ⟨rfl,l2,rfl,Mp⟩ hlen;conv=>whnf
   repeat(refine sT rfl ?_;conv=>whnf)
   refine⟨(b,b+20,l2),?_⟩;conv=>whnf
   repeat(refine Aq ?_ ?_;(focus (first|rfl|(simp;done)|(first|exact rE;done)));conv=>whnf)
   rw[C5,C5]at hlen;exact⟨⟨⟨h,rfl⟩,Mp.trans hp.perm,hlen.trans Bq⟩,(show l.length-b<l.length-a by omega)⟩
  ·conv=>whnf
   repeat(refine sT rfl ?_;conv=>whnf)
   have hs:=Kg l' a l.length (by omega) (by omega) (by omega)
   rw[Bq]at hs;refine Ak.Kb hs rfl ⟨rfl,AS _,trivial⟩ ?_;rintro r es ⟨rfl,l2,rfl,Mp⟩ hlen;replace hp:PI l l2:=⟨Mp.trans hp.perm,by rw[C5,C5]at hlen;omega⟩
   conv=>whnf
   repeat(refine sT rfl ?_;conv=>whnf)
   refine Ac.AJ (λs:Nat×List Cd=>mk 63 [(0,.own 0 3 0 l.length),(1,.int .i64 l.length),(2,HZ),(6,.int .i64 s.1)]) (λs=>[.arr 199 3 (JL s.2),.ghost [.own 0 3 0 l.length] [gv] []]) (λs=>(1≤s.1∧s.1≤2000000)∧PI l s.2) (λs=>l.length-s.1) (λs hs=>⟨rfl,Dm _⟩) ⟨(20,l2),?_⟩ (λ_=>rfl) λs hk=>?_
   ·conv=>whnf
    repeat(refine Aq ?_ ?_;(focus (first|rfl|(simp;done)));conv=>whnf)
    first|exact⟨⟨by simp only;omega,by simp only;omega⟩,hp⟩|exact hp|exact hp.perm
   ·clear hs Mp hlen hp Bq hb ha;obtain⟨⟨N5,GA⟩,hp⟩:=hk;generalize s.2=l' at*;generalize s.1=bs at*;have Bq:=hp.len;have Gf:Wr .i64 (2*(bs:Int))=((2*bs:Nat):Int):=by rw[AH _ (by omega) (by omega)];rfl
    have bB:Wr .i64 ((bs:Int)*2)=((2*bs:Nat):Int):=by rw[AH _ (by omega) (by omega)];omega
    repeat(refine sT rfl ?_;conv=>whnf)
    refine⟨λh5=>?_,λh5=>?_⟩
    ·have h5:bs<l.length:=by simp at h5;omega
     conv=>whnf
     repeat(refine sT rfl ?_;conv=>whnf)
     rw[Gf];refine Ac.AJ (λs:Nat×Nat×List Cd=>mk 63 [(0,.own 0 3 0 l.length),(1,.int .i64 l.length),(2,HZ),(6,.int .i64 bs),(7,.int .i64 s.1),(8,.int .i64 s.2.1)]) (λs=>[.arr 199 3 (JL s.2.2),.ghost [.own 0 3 0 l.length] [gv] []]) (λs=>(s.1≤l.length∧s.2.1=s.1+2*bs)∧PI l s.2.2) (λs=>l.length-s.1) (λs hs=>⟨rfl,Dm _⟩) ⟨(0,2*bs,l'),?_⟩ (λ_=>rfl) λs hk=>?_
     ·conv=>whnf
      repeat(refine Aq ?_ ?_;(focus (first|rfl|(simp;done)));conv=>whnf)
      first|exact⟨⟨BD _,by simp⟩,hp⟩|exact hp
     ·clear hp Bq;obtain⟨⟨ha,hb⟩,hp⟩:=hk;generalize s.2.2=l' at*;generalize s.2.1=b at*;generalize s.1=a at*;have Bq:=hp.len;have sI:Wr .i64 ((a:Int)+bs)=((a+bs:Nat):Int):=by rw[AH _ (by omega) (by omega)];rfl
      have rE:Wr .i64 ((b:Int)+((2*bs:Nat):Int))=((b+2*bs:Nat):Int):=by rw[AH _ (by omega) (by omega)];rfl
      repeat(refine sT rfl ?_;conv=>whnf)
      refine⟨λh6=>?_,λh6=>?_⟩
      ·have h6:b≤l.length:=by simp at h6;omega
       conv=>whnf
       repeat(refine sT rfl ?_;conv=>whnf)
       rw[sI]
       have hs:=R6 (b-a) l' a (a+bs) b (Bv _) (by omega) (by omega) (by omega) (by omega)
       rw[Bq]at hs
       refine Ak.Kb hs rfl ⟨rfl,AS _,trivial⟩ ?_
       rintro r es ⟨rfl,l2,rfl,Mp⟩ hlen
       rw[C5,C5]at hlen
       conv=>whnf
       repeat(refine sT rfl ?_;conv=>whnf)
       rw[Gf,rE]
       refine⟨(b,b+2*bs,l2),?_⟩
       conv=>whnf
       repeat(refine Aq ?_ ?_;(focus (first|rfl|(simp;done)));conv=>whnf)
       exact⟨⟨⟨h6,rfl⟩,Mp.trans hp.perm,hlen.trans Bq⟩,(show l.length-b<l.length-a by omega)⟩
      ·conv=>whnf
       repeat(refine sT rfl ?_;conv=>whnf)
       rw[sI]
       refine⟨λh7=>?_,λh7=>?_⟩
       ·have h7:a+bs<l.length:=by simp at h7;omega
        have h6:l.length<b:=by simp at h6;omega
        conv=>whnf
        repeat(refine sT rfl ?_;conv=>whnf)
        have hs:=R6 (l.length-a) l' a (a+bs) l.length (Bv _) (by omega) (by omega) (by omega) (by omega)
        rw[Bq]at hs
        refine Ak.Kb hs rfl ⟨rfl,AS _,trivial⟩ ?_
        rintro r es ⟨rfl,l2,rfl,Mp⟩ hlen
        rw[C5,C5]at hlen
        conv=>whnf
        repeat(refine sT rfl ?_;conv=>whnf)
        refine⟨(2*bs,l2),?_⟩
        conv=>whnf
        repeat(refine Aq ?_ ?_;(focus (first|rfl|(simp;done)|(first|exact bB;done)));conv=>whnf)
        exact⟨⟨⟨by simp only;omega,by simp only;omega⟩,Mp.trans hp.perm,hlen.trans Bq⟩,(show l.length-2*bs<l.length-bs by omega)⟩
       ·conv=>whnf
        repeat(refine sT rfl ?_;conv=>whnf)
        refine⟨(2*bs,l'),?_⟩
        conv=>whnf
        repeat(refine Aq ?_ ?_;(focus (first|rfl|(simp;done)|(first|exact bB;done)));conv=>whnf)
        exact⟨⟨⟨by simp only;omega,by simp only;omega⟩,hp⟩,(show l.length-2*bs<l.length-bs by omega)⟩
    ·conv=>whnf
     repeat(refine sT rfl ?_;conv=>whnf)
     refine⟨AS _,?_⟩;conv=>whnf
     exact⟨_,_,rfl,rfl,by simpa using Bq,rfl,l',rfl,hp.perm⟩
theorem P9(l:List Cd)(hl:l.length≤1000000):Ea Tryz.prog 176 [.own 0 3 0 l.length,HZ] 199 3 (JL l)
  (λr es=>r=.tuple []∧IH l es):=by
 refine Ea.Ai Tryz.func176 rfl Ae (by kernel_rfl) (by simp) (λgv=>?_)
 conv=>whnf
 repeat(refine sT rfl ?_;conv=>whnf)
 refine Ak.Kb (W2 l hl) rfl ⟨rfl,AS _,trivial⟩ ?_;rintro r es ⟨rfl,l2,rfl,Mp⟩ hlen;conv=>whnf
 repeat(refine sT rfl ?_;conv=>whnf)
 refine⟨AS _,?_⟩;conv=>whnf
 exact⟨_,_,rfl,rfl,by simpa using hlen,rfl,l2,rfl,Mp⟩
end Go.Proofs.YtdadkhcdoaeabaaGreatDoor
namespace Go.Proofs.YtdadkhcdoaeabaaGreatDoor
open Go.Av Go.Shelf Go.RowKit
open Ff (strs)
open Rr.Pl (Pt Ad St Ch Bs My Mw DO CY)
theorem Tx(t:Bs):Aw Tryz.prog 240 [.str t] (λr=>r=.bool (EV t)):=by
 refine Aw.Ai Tryz.func240 rfl Ae (by kernel_rfl) ?_
 conv=>whnf
 repeat(refine sT rfl ?_;conv=>whnf)
 refine congrArg AV.bool (decide_eq_decide.2 ?_);omega
theorem EP(l:List Bs)(hl:l.length≤1000):Aw Tryz.prog 215 [.sl 1 (strs l)] (λr=>r=.bool (l.any EV)):=by
 refine Aw.Ai Tryz.func215 rfl Ae (by kernel_rfl) ?_
 conv=>whnf
 repeat(refine sT rfl ?_;conv=>whnf)
 refine cS (Rr.E3 l _ [] EV (by omega) rfl rfl λx _=>Tx x) rfl ?_;conv=>whnf
 repeat(refine sT rfl ?_;conv=>whnf)
def Jq(s:St)(a:Ad):Bool:=!decide (a.co=[])&&(EV a.co||EV s.co)||!decide (a.tw=[])&&(EV a.tw||EV s.to)
def zJ(s:St)(a:Ad):Int:=(s.al.map λx=>Cv (foldM a.st) (foldM x)).foldl min (Cv (foldM a.st) (foldM s.na))+(if a.co=[]then 0 else Cv a.co s.co)+(if a.tw=[]then 0 else Cv (foldM a.tw) (foldM s.to))
def Fa(s:St):List AV:=[.str s.co,.str s.to,.str s.na,.sl 1 (strs s.al),.int .i64 s.lo,.int .i64 s.hi,.int .i64 s.sh,.bool s.op]
def adK(a:Ad):List AV:=[.str a.pe,.str a.st,.int .i64 a.nu,.str a.co,.str a.tw]
def OZ(s:St)(a:Ad)(k:Nat):List Int:=((s.al.take k).map λx=>Cv (foldM a.st) (foldM x))++C1 (s.al.length-k) 0
theorem rB(s:St)(a:Ad)(k:Nat)(h:k≤s.al.length):(OZ s a k).length=s.al.length:=by unfold OZ;simp;omega
theorem ZdT(s:St)(a:Ad):C1 (((strs s.al).length:Nat):Int).toNat (AV.int .i64 0)=ia (OZ s a 0):=by unfold OZ ia;simp
theorem rA(s:St)(a:Ad)(k:Nat)(h:k<s.al.length):(OZ s a k).set k (Cv (foldM a.st) (foldM s.al[k]))=OZ s a (k+1):=by
 unfold OZ;obtain⟨j,hj⟩:∃j,s.al.length-k=j+1:=⟨s.al.length-k-1,by omega⟩
 rw[Ei (h:=by simp;omega),hj,show s.al.length-(k+1)=j by omega,AZ h,CW]
 simp[List.replicate_succ,C2 (Ds h)]
theorem rC(s:St)(a:Ad):OZ s a s.al.length=s.al.map λx=>Cv (foldM a.st) (foldM x):=by unfold OZ;simp
theorem UW(l:List Int):∀x∈ia l,closed x=true:=by
 intro x hx;obtain⟨n,_,rfl⟩:=BJ.1 hx;rfl
theorem Nz:∀(l:List Int){x:Int},-1≤x∧x≤400→(∀y∈l,-1≤y∧y≤400)→-1≤l.foldl min x∧l.foldl min x≤400
 |[],x,h,_=>h
 |y::l,x,h,hl=>by
  have:=hl y (by simp)
  exact Nz l (by omega) λz hz=>hl z (by simp[hz])
theorem kZ(s:St)(a:Ad)(hs:s.al.length≤1000):Aw Tryz.prog 175 [s.v,a.v] (λr=>r=.tuple [.int .i64 ((HI s a).getD 0),.bool (HI s a).isSome]):=by
 refine Aw.Ai Tryz.func175 rfl Ae (by kernel_rfl) ?_
 conv=>whnf
 repeat(refine sT rfl ?_;conv=>whnf)
 refine Ak.freeze 2 ?_ (by kernel_rfl)
 conv=>whnf
 refine⟨(by simp[closed]),?_⟩
 conv=>whnf
 repeat(refine⟨(by first|rfl|(simp;done):(_:Nat)=_),?_⟩;conv=>whnf)
 refine cS (EP [a.st,s.na] (by simp)) rfl ?_;conv=>whnf
 refine⟨λh1=>?_,λh1=>?_⟩
 ·conv=>whnf
  repeat(refine sT rfl ?_;conv=>whnf)
  refine cS (EP s.al hs) rfl ?_;conv=>whnf
  repeat(refine sT rfl ?_;conv=>whnf)
  have lQ:s.al.any EV=true→HI s a=none:=λh=>by unfold HI;rw[if_pos];rw[h,Bool.or_true]
  refine⟨λh2=>?_,λh2=>?_⟩
  ·rw[lQ h2];conv=>whnf
   repeat(refine sT rfl ?_;conv=>whnf)
   rfl
  ·conv=>whnf
   iterate 2 (refine sT rfl ?_;conv=>whnf)
   have vG:Jq s a=true→HI s a=none:=λh=>by
    unfold HI;unfold Jq at h;rw[if_neg (by simp at h1 h2⊢;simp_all),if_pos h]
   refine Ac.cP (λ_:Unit=>mk 99 [(2,.ptr 0 0),(3,.ptr 1 0),(4,.int .i64 0),(5,.lit false)]) (λ_=>[.cells (Fa s),.cells (adK a),.dead]) (λ_=>Jq s a=false) (λ_ _=>⟨rfl,rfl,rfl,trivial⟩) (λ_=>Bv _) ?_ λ_ h3=>?_
   ·repeat(refine sT rfl ?_;conv=>whnf)
    refine⟨λg1=>?_,λg1=>?_⟩
    ·have g1:a.co≠[]:=by simpa using g1
     conv=>whnf
     repeat(refine sT rfl ?_;conv=>whnf)
     refine Ak.freeze 3 ?_ (by kernel_rfl)
     conv=>whnf
     refine⟨(by simp[closed]),?_⟩
     conv=>whnf
     repeat(refine⟨(by first|rfl|(simp;done):(_:Nat)=_),?_⟩;conv=>whnf)
     refine cS (EP [a.co,s.co] (by simp)) rfl ?_;conv=>whnf
     repeat(refine sT rfl ?_;conv=>whnf)
     refine⟨λg2=>?_,λg2=>?_⟩
     ·conv=>whnf
      repeat(refine sT rfl ?_;conv=>whnf)
      simp at g2;refine⟨λg3=>?_,λg3=>?_⟩
      ·have g3:a.tw≠[]:=by simpa using g3
       conv=>whnf
       repeat(refine sT rfl ?_;conv=>whnf)
       refine Ak.freeze 4 ?_ (by kernel_rfl)
       conv=>whnf
       refine⟨(by simp[closed]),?_⟩
       conv=>whnf
       repeat(refine⟨(by first|rfl|(simp;done):(_:Nat)=_),?_⟩;conv=>whnf)
       refine Ak.D3 (EP [a.tw,s.to] (by simp)) rfl λr hr=>?_
       subst hr
       conv=>whnf
       repeat(refine sT rfl ?_;conv=>whnf)
       refine⟨λg4=>?_,λg4=>?_⟩
       ·rw[vG (by unfold Jq;simp at g4;simp[g3,g4])]
        conv=>whnf
        repeat(refine sT rfl ?_;conv=>whnf)
        rfl
       ·conv=>whnf
        repeat(refine sT rfl ?_;conv=>whnf)
        refine⟨(),?_⟩
        conv=>whnf
        repeat(refine Aq ?_ ?_;(focus (first|rfl|(simp;done)));conv=>whnf)
        unfold Jq
        simp at g4
        simp[g1,g2,g4,g3]
      ·have g3:a.tw=[]:=by simpa using g3
       conv=>whnf
       repeat(refine sT rfl ?_;conv=>whnf)
       refine⟨(),?_⟩
       conv=>whnf
       repeat(refine Aq ?_ ?_;(focus (first|rfl|(simp;done)));conv=>whnf)
       unfold Jq
       simp[g1,g2,g3]
     ·rw[vG (by unfold Jq;simp at g2;simp[g1,g2])]
      conv=>whnf
      repeat(refine sT rfl ?_;conv=>whnf)
      rfl
    ·have g1:a.co=[]:=by simpa using g1
     conv=>whnf
     repeat(refine sT rfl ?_;conv=>whnf)
     refine⟨λg3=>?_,λg3=>?_⟩
     ·have g3:a.tw≠[]:=by simpa using g3
      conv=>whnf
      repeat(refine sT rfl ?_;conv=>whnf)
      refine Ak.freeze 3 ?_ (by kernel_rfl)
      conv=>whnf
      refine⟨(by simp[closed]),?_⟩
      conv=>whnf
      repeat(refine⟨(by first|rfl|(simp;done):(_:Nat)=_),?_⟩;conv=>whnf)
      refine cS (EP [a.tw,s.to] (by simp)) rfl ?_;conv=>whnf
      repeat(refine sT rfl ?_;conv=>whnf)
      refine⟨λg4=>?_,λg4=>?_⟩
      ·rw[vG (by unfold Jq;simp at g4;simp[g3,g4])]
       conv=>whnf
       repeat(refine sT rfl ?_;conv=>whnf)
       rfl
      ·conv=>whnf
       repeat(refine sT rfl ?_;conv=>whnf)
       refine⟨(),?_⟩
       conv=>whnf
       repeat(refine Aq ?_ ?_;(focus (first|rfl|(simp;done)));conv=>whnf)
       unfold Jq
       simp at g4
       simp[g1,g4,g3]
     ·have g3:a.tw=[]:=by simpa using g3
      conv=>whnf
      repeat(refine sT rfl ?_;conv=>whnf)
      refine⟨(),?_⟩;conv=>whnf
      repeat(refine Aq ?_ ?_;(focus (first|rfl|(simp;done)));conv=>whnf)
      unfold Jq;simp[g1,g3]
   ·have hc:HI s a=some (zJ s a):=by
     unfold HI;have h3':=h3;unfold Jq at h3';rw[if_neg (by simp at h1 h2⊢;simp_all),if_neg (by rw[h3'];decide)]
     rfl
    rw[hc];have l1:a.st.length≤200:=by simp[EV]at h1;omega
    have l2:s.na.length≤200:=by simp[EV]at h1;omega
    have l3:∀x∈s.al,x.length≤200:=λx hx=>by
     have:=EY.1 h2 x hx;simp[EV]at this;omega
    repeat(refine sT rfl ?_;conv=>whnf)
    refine cS (Du a.st (by omega)) rfl ?_;conv=>whnf
    repeat(refine sT rfl ?_;conv=>whnf)
    have bC:(strs s.al).length=s.al.length:=by simp
    refine⟨⟨by omega,by omega,by omega⟩,?_⟩
    conv=>whnf
    repeat(refine sT rfl ?_;conv=>whnf)
    refine Ac.AJ (λk:Nat=>mk 99 [(2,.ptr 0 0),(3,.ptr 1 0),(4,.int .i64 0),(5,.lit false),(6,.str (foldM a.st)),(7,.own 3 1 0 s.al.length),(54,.sl 1 (strs s.al)),(55,.int .i64 s.al.length),(56,.int .i64 k)]) (λk=>[.cells (Fa s),.cells (adK a),.dead,.arr 3 1 (ia (OZ s a k))]) (λk=>k≤s.al.length) (λk=>s.al.length-k) (λ_ _=>⟨rfl,rfl,rfl,UW _,trivial⟩) ⟨0,?_⟩ (λ_=>rfl) λk hk=>?_
    ·conv=>whnf
     repeat(refine Aq ?_ ?_;(focus (first|rfl|(simp;done)|(first|exact congrArg (AV.own 3 1 0) (by simp)|exact congrArg (AV.int .i64) (by simp);done)));conv=>whnf)
     exact⟨by rw[ZdT],BD _⟩
    ·have QA:=rB s a k hk;repeat(refine sT rfl ?_;conv=>whnf)
     refine⟨λg1=>?_,λg1=>?_⟩
     ·have g1:k<s.al.length:=by simp at g1;omega
      have Bj:Wr .i64 ((k:Int)+1)=((k+1:Nat):Int):=by rw[AH _ (by omega) (by omega)];rfl
      conv=>whnf
      repeat(refine sT rfl ?_;conv=>whnf)
      refine⟨by omega,_,Rr.ER s.al k g1,?_⟩
      conv=>whnf
      repeat(refine sT rfl ?_;conv=>whnf)
      refine cS (Du s.al[k] (by have:=l3 _ (Cm g1);omega)) rfl ?_;conv=>whnf
      repeat(refine sT rfl ?_;conv=>whnf)
      refine cS (Et (foldM a.st) (foldM s.al[k])) rfl ?_;conv=>whnf
      repeat(refine sT rfl ?_;conv=>whnf)
      refine⟨by omega,?_⟩
      conv=>whnf
      refine⟨_,by rw[Ba,AO];exact pH (by omega:k<(OZ s a k).length),?_⟩
      conv=>whnf
      rw[Ba,AO,show(ia (OZ s a k)).set k (.int .i64 (Cv (foldM a.st) (foldM s.al[k])))=ia (OZ s a (k+1)) by rw[←rA s a k g1];simp[ia]]
      repeat(refine sT rfl ?_;conv=>whnf)
      refine⟨k+1,?_⟩;conv=>whnf
      repeat(refine Aq ?_ ?_;(focus (first|rfl|(simp;done)|(first|exact Bj;done)));conv=>whnf)
      exact⟨g1,by omega⟩
     ·have g1:k=s.al.length:=by simp at g1;omega
      subst g1;rw[rC];conv=>whnf
      repeat(refine sT rfl ?_;conv=>whnf)
      refine cS (Du s.na (by omega)) rfl ?_;conv=>whnf
      repeat(refine sT rfl ?_;conv=>whnf)
      refine cS (Et (foldM a.st) (foldM s.na)) rfl ?_;conv=>whnf
      repeat(refine sT rfl ?_;conv=>whnf)
      generalize hD:(s.al.map λx=>Cv (foldM a.st) (foldM x))=D at*
      have hDl:D.length=s.al.length:=by rw[←hD];simp
      have hDi:s.al.length=(ia D).length:=by rw[Sn,hDl]
      refine Ak.freeze 3 ?_ (by kernel_rfl)
      conv=>whnf
      refine⟨UW _,?_⟩;conv=>whnf
      repeat(refine⟨hDi,?_⟩;conv=>whnf)
      refine cS (Ml (Cv (foldM a.st) (foldM s.na)) D (by omega)) rfl ?_;conv=>whnf
      repeat(refine sT rfl ?_;conv=>whnf)
      have hMb:-1≤D.foldl min (Cv (foldM a.st) (foldM s.na))∧D.foldl min (Cv (foldM a.st) (foldM s.na))≤400:=Nz D (NI _ _) λy hy=>by
       rw[←hD]at hy;obtain⟨x,_,rfl⟩:=BJ.1 hy;exact NI _ _
      have TP:zJ s a=D.foldl min (Cv (foldM a.st) (foldM s.na))+(if a.co=[]then 0 else Cv a.co s.co)+(if a.tw=[]then 0 else Cv (foldM a.tw) (foldM s.to)):=by unfold zJ;rw[hD]
      generalize D.foldl min (Cv (foldM a.st) (foldM s.na))=M at*;have N5:=NI a.co s.co;have GA:=NI (foldM a.tw) (foldM s.to)
      have hl5:a.tw≠[]→a.tw.length≤200∧s.to.length≤200:=λh=>by
       have h3':=h3;unfold Jq at h3';simp[h,EV]at h3';omega
      refine⟨λg2=>?_,λg2=>?_⟩
      ·have g2:a.co≠[]:=by simpa using g2
       rw[if_neg g2]at TP
       conv=>whnf
       repeat(refine sT rfl ?_;conv=>whnf)
       refine Ak.D3 (Et a.co s.co) rfl λr hr=>?_
       subst hr
       conv=>whnf
       repeat(refine sT rfl ?_;conv=>whnf)
       rw[AH (M+Cv a.co s.co) (by omega) (by omega)]
       refine⟨λg3=>?_,λg3=>?_⟩
       ·have g3:a.tw≠[]:=by simpa using g3
        rw[if_neg g3]at TP
        conv=>whnf
        repeat(refine sT rfl ?_;conv=>whnf)
        refine Ac.draw [] Ae mO (by kernel_rfl) ?_
        conv=>whnf
        refine⟨_,⟨Du a.tw (by have:=hl5 g3;omega),rfl⟩,?_⟩
        conv=>whnf
        refine⟨_,⟨Du s.to (by have:=hl5 g3;omega),rfl⟩,?_⟩
        conv=>whnf
        refine⟨_,⟨Et (foldM a.tw) (foldM s.to),rfl⟩,?_⟩
        conv=>whnf
        repeat(refine sT rfl ?_;conv=>whnf)
        rw[AH ((M+Cv a.co s.co)+Cv (foldM a.tw) (foldM s.to)) (by omega) (by omega),TP]
        first|rfl|simp
       ·have g3:a.tw=[]:=by simpa using g3
        rw[if_pos g3]at TP
        conv=>whnf
        repeat(refine sT rfl ?_;conv=>whnf)
        rw[TP]
        simp
      ·have g2:a.co=[]:=by simpa using g2
       rw[if_pos g2]at TP
       conv=>whnf
       repeat(refine sT rfl ?_;conv=>whnf)
       refine⟨λg3=>?_,λg3=>?_⟩
       ·have g3:a.tw≠[]:=by simpa using g3
        rw[if_neg g3]at TP
        conv=>whnf
        repeat(refine sT rfl ?_;conv=>whnf)
        refine Ac.draw [] Ae mO (by kernel_rfl) ?_
        conv=>whnf
        refine⟨_,⟨Du a.tw (by have:=hl5 g3;omega),rfl⟩,?_⟩
        conv=>whnf
        refine⟨_,⟨Du s.to (by have:=hl5 g3;omega),rfl⟩,?_⟩
        conv=>whnf
        refine⟨_,⟨Et (foldM a.tw) (foldM s.to),rfl⟩,?_⟩
        conv=>whnf
        repeat(refine sT rfl ?_;conv=>whnf)
        rw[AH (M+Cv (foldM a.tw) (foldM s.to)) (by omega) (by omega),TP]
        first|rfl|simp
       ·have g3:a.tw=[]:=by simpa using g3
        rw[if_pos g3]at TP
        conv=>whnf
        repeat(refine sT rfl ?_;conv=>whnf)
        rw[TP]
        simp
 ·have hn:HI s a=none:=by unfold HI;rw[if_pos];simp at h1;simp[h1]
  rw[hn];conv=>whnf
  repeat(refine sT rfl ?_;conv=>whnf)
  rfl
theorem cY(S:List St)(a:Ad)(Ao:Int)(k:Nat)(h:k<S.length):D9 (S.take (k+1)) a Ao=D9 (S.take k) a Ao++(LS a Ao k S[k]).toList:=by
 unfold D9;rw[AZ h,List.zipIdx_append,List.filterMap_append,BC,C2 (Ds h)];congr 1;simp only[List.zipIdx_cons,List.zipIdx_nil,Ba,List.filterMap_cons,List.filterMap_nil];cases LS a Ao k S[k]<;>rfl
theorem Vg(S:List St)(a:Ad)(Ao:Int):(D9 S a Ao).length≤S.length:=by
 unfold D9;refine Nat.le_trans (List.length_filterMap_le _ _) ?_;simp
theorem QF(S:List St)(a:Ad)(Ao:Int)(hS:∀s∈S,Rr.BW s 60)(hl:S.length≤100)(hn:0≤a.nu∧a.nu≤1000000)(h0:0≤Ao)(h6:Ao≤6):Aw Tryz.prog 136 [Rr.Pl.Lq S,a.v,.int .i64 Ao] (λr=>∃l,r=.sl 3 (JL l)∧l.Perm (D9 S a Ao)):=by
 refine Aw.Ai Tryz.func136 rfl Ae (by kernel_rfl) ?_
 conv=>whnf
 repeat(refine sT rfl ?_;conv=>whnf)
 refine⟨λg1=>?_,λg1=>?_⟩
 ·conv=>whnf
  repeat(refine sT rfl ?_;conv=>whnf)
  refine⟨λg2=>absurd g2 (by simp;omega),λg2=>?_⟩
  conv=>whnf
  repeat(refine sT rfl ?_;conv=>whnf)
  have bI:(S.map Rr.Pl.St.v).length=S.length:=by simp
  refine Ac.OD 7 199 3 rfl ?_;refine Ac.AJ (λk:Nat=>mk 70 [(0,Rr.Pl.Lq S),(1,a.v),(2,.int .i64 Ao),(4,.ptr 0 0),(7,.own 1 3 0 (D9 (S.take k) a Ao).length),(18,Rr.Pl.Lq S),(19,.int .i64 S.length),(20,.int .i64 k)]) (λk=>[.cells (adK a),.arr 199 3 (JL (D9 (S.take k) a Ao))]) (λk=>k≤S.length) (λk=>S.length-k) (λ_ _=>⟨rfl,rfl,AS _,trivial⟩) ⟨0,?_⟩ (λ_=>rfl) λk hk=>?_
  ·conv=>whnf
   repeat(refine Aq ?_ ?_;(focus (first|rfl|(simp;done)|(first|exact congrArg (AV.int .i64) (by simp);done)));conv=>whnf)
   first|exact BD _|exact⟨rfl,BD _⟩
  ·have IJ:=Vg (S.take k) a Ao;rw[BC]at IJ;repeat(refine sT rfl ?_;conv=>whnf)
   refine⟨λh=>?_,λh=>?_⟩
   ·have h:k<S.length:=by simp at h;omega
    have Bj:Wr .i64 ((k:Int)+1)=((k+1:Nat):Int):=by rw[AH _ (by omega) (by omega)];rfl
    have Ah:=hS _ (Cm h);have ht:=cY S a Ao k h;obtain⟨q1,q2⟩:=Ah.lo;obtain⟨q3,q4⟩:=Ah.hi;obtain⟨q5,q6⟩:=Ah.sh;conv=>whnf
    repeat(refine sT rfl ?_;conv=>whnf)
    refine⟨by omega,(S[k]).v,by simp[h],?_⟩
    conv=>whnf
    repeat(refine sT rfl ?_;conv=>whnf)
    have Mz:LS a Ao k S[k]=none→D9 (S.take (k+1)) a Ao=D9 (S.take k) a Ao:=λe=>by rw[ht,e];simp
    have bR:LS a Ao k S[k]=if S[k].op&&decide (S[k].lo≤a.nu)&&decide (a.nu≤S[k].hi)then (match HI S[k] a with|some c=>if c≤Ao then some ⟨k,a.nu-S[k].sh,c⟩else none|none=>none)else none:=rfl
    repeat' (first|(refine Aq (λ_=>?_) (λ_=>?_)<;>conv=>whnf)|(refine cS (kZ S[k] a (by have:=Ah.al;omega)) rfl ?_;conv=>whnf)|(refine sT rfl ?_;conv=>whnf))
    rotate_left
    ·rename_i p1 p2 p3 p4 p5;obtain⟨c,hc⟩:=Option.isSome_iff_exists.1 p4;rw[hc]at p5 ⊢;simp only[Ec,decide_eq_true_eq]at p5 ⊢
     have yB:LS a Ao k S[k]=some ⟨k,a.nu-S[k].sh,c⟩:=by
      rw[bR,hc,if_pos (by simp at p1 p2 p3;simp[p1];omega)]
      simp only;rw[if_pos p5]
     rw[yB]at ht;have hwn:Wr .i64 (a.nu-S[k].sh)=a.nu-S[k].sh:=AH _ (by omega) (by omega)
     rw[hwn];refine⟨rfl,?_⟩;conv=>whnf
     refine⟨⟨by rw[C5],by rw[Cb,C5];simp only[List.length_singleton];omega⟩,?_⟩
     have he:JL (D9 (S.take k) a Ao)++[AV.agg [.int .i64 k,.int .i64 (a.nu-S[k].sh),.int .i64 c]]=JL (D9 (S.take (k+1)) a Ao):=by rw[ht];simp[Cd.v]
     rw[he];conv=>whnf
     repeat(refine sT rfl ?_;conv=>whnf)
     refine⟨k+1,?_⟩;conv=>whnf
     repeat(refine Aq ?_ ?_;(focus (first|rfl|(simp;done)|(first|exact Bj|exact congrArg (AV.own 1 3 0) (C5 _);done)));conv=>whnf)
     exact⟨h,by omega⟩
    all_goals
     have Sy:LS a Ao k S[k]=none:=by
      rw[bR];clear Mz ht bR Ah hS;generalize HI S[k] a=oc at*;cases oc<;>simp_all<;>intros<;>omega
     have e:=Mz Sy;refine⟨k+1,?_⟩;conv=>whnf
     repeat(refine Aq ?_ ?_;(focus (first|rfl|(simp;done)|(first|exact Bj|rw[e];done)));conv=>whnf)
     exact⟨h,by omega⟩
   ·have h:k=S.length:=by simp at h;omega
    subst h;rw[CA];have IJ:=Vg S a Ao;conv=>whnf
    repeat(refine sT rfl ?_;conv=>whnf)
    refine Ak.aJ 1 (P9 (D9 S a Ao) (by omega)) rfl rfl (AS _) ?_
    rintro r es ⟨rfl,l,rfl,hp⟩ hlen;refine⟨rfl,?_⟩;conv=>whnf
    repeat(refine sT rfl ?_;conv=>whnf)
    rw[C5,C5]at hlen;refine⟨⟨by rw[C5,hlen],AS _⟩,l,rfl,hp⟩
 ·exact absurd g1 (by simp;omega)
end Go.Proofs.YtdadkhcdoaeabaaGreatDoor
namespace Go.Proofs.YtdadkhcdoaeabaaGreatDoor
open Go.Av Go.Shelf Go.RowKit
open Rr.Pl (Pt Ad St Ch Bs My Mw)
def H5(l:List Od)(day:Int):List Pt→Prop
 |[]=>True
 |[_]=>True
 |p::q::r=>Gl l day p=some q∧H5 l day (q::r)
def ZbA(l:List Od)(day:Int)(p:Pt):List AV:=[.at_ [.int .i64 p.s,.int .i64 p.n],.at_ [H7 l],.at_ [.int .i64 day]]
theorem dF(l:List Od)(day:Int)(p:Pt):Aw Tryz.prog 50 [H7 l,.int .i64 day,p.v] (λr=>r=.fn 79 (ZbA l day p)):=by
 refine Aw.Ai Tryz.func50 rfl Ae (by kernel_rfl) ?_
 conv=>whnf
 repeat(refine sT rfl ?_;conv=>whnf)
 rfl
theorem H5.at_{l:List Od}{day:Int}:∀{ps:List Pt},H5 l day ps→∀(k:Nat)(h:k+1<ps.length),Gl l day ps[k]=some ps[k+1]
 |[],_,k,h=>by simp at h
 |[_],_,k,h=>by simp at h
 |p::q::r,hs,0,_=>hs.1
 |p::q::r,hs,k+1,h=>H5.at_ hs.2 k (by simpa using h)
theorem VE(ps:List Pt)(k:Nat)(h:k<ps.length):(ps.map λq=>[q.v])[k]?=some [ps[k].v]:=by simp[h]
theorem lE(l:List Od)(day:Int)(p:Pt)(hl:l.length≤40)(r:List Pt)(hs:H5 l day (p::r))(he:∀q,(p::r).getLast?=some q→Gl l day q=none):yW Tryz.prog 79 (ZbA l day p) ((p::r).map λq=>[q.v]):=by
 refine yW.Ai Tryz.func79 rfl Ae (by kernel_rfl) rfl λy I Ix hy=>?_
 have vA:∀(k:Nat)(x:List AV),((p::r).map λq=>[q.v])[k]?=some x→KJ Tryz.prog (.func (.yield y) #[] #[]) x (I k) (I (k+1)) Ix:=hy
 clear hy;generalize Y7:p::r=ps at*;have h0:∃h:0<ps.length,ps[0]=p:=by subst Y7;exact⟨by simp,rfl⟩
 obtain⟨h0,hp0⟩:=h0;conv=>whnf
 repeat(refine sT rfl ?_;conv=>whnf)
 refine Ac.AJ (λk:Nat=>mk 20 [(0,.raw (.func (.yield y) #[] #[])),(1,.at_ [.int .i64 p.s,.int .i64 p.n]),(2,.at_ [H7 l]),(3,.at_ [.int .i64 day]),(5,.ptr 1 0),(6,.bool (decide (k<ps.length)))]) (λk=>[.inv (I k),.cells [.int .i64 (ps.getD k (ps.getD (k-1) p)).s,.int .i64 (ps.getD k (ps.getD (k-1) p)).n]]) (λk=>k≤ps.length) (λk=>ps.length-k) (λ_ _=>⟨rfl,rfl,trivial⟩) ⟨0,?_⟩ (λ_=>rfl) λk hk=>?_
 ·conv=>whnf
  repeat(refine Aq ?_ ?_;(focus (first|rfl|(simp;done)|(first|exact(decide_eq_true h0).symm;done)));conv=>whnf)
  have hg:ps.getD 0 (ps.getD (0-1) p)=p:=by rw[Bh,Bc h0,hp0];rfl
  first|exact⟨by rw[hg],BD _⟩|exact BD _
 ·repeat(refine sT rfl ?_;conv=>whnf)
  refine⟨λh=>?_,λh=>?_⟩
  ·have h:k<ps.length:=by simpa using h
   have hg:ps.getD k (ps.getD (k-1) p)=ps[k]:=by simp[h]
   rw[hg];conv=>whnf
   repeat(refine sT rfl ?_;conv=>whnf)
   refine⟨rfl,I (k+1),Ix,vA k _ (VE ps k h),?_,?_⟩
   ·conv=>whnf
    repeat(refine sT rfl ?_;conv=>whnf)
    refine cS (UM l day ps[k] hl) rfl ?_;conv=>whnf
    repeat(refine sT rfl ?_;conv=>whnf)
    refine⟨k+1,?_⟩;by_cases bK:k+1<ps.length
    ·rw[H5.at_ hs k bK];conv=>whnf
     repeat(refine Aq ?_ ?_;(focus (first|rfl|(simp;done)|(first|exact(decide_eq_true bK).symm;done)));conv=>whnf)
     have hg1:ps.getD (k+1) (ps.getD (k+1-1) p)=ps[k+1]:=by simp[bK]
     exact⟨by rw[hg1];rfl,⟨by omega,by omega⟩⟩
    ·have pV:Gl l day ps[k]=none:=he _ (by rw[List.getLast?_eq_getElem?,show ps.length-1=k by omega,Bc h])
     rw[pV];conv=>whnf
     repeat(refine Aq ?_ ?_;(focus (first|rfl|(simp;done)|(first|exact(decide_eq_false bK).symm;done)));conv=>whnf)
     have hg1:ps.getD (k+1) (ps.getD (k+1-1) p)=ps[k]:=by
      rw[Bh,List.getElem?_eq_none (by omega),Option.getD_none,Nat.add_sub_cancel,Bh,Bc h]
      rfl
     exact⟨by rw[hg1];rfl,⟨by omega,by omega⟩⟩
   ·conv=>whnf
    repeat(refine sT rfl ?_;conv=>whnf)
    exact .inr rfl
  ·have h:k=ps.length:=by simp at h;omega
   conv=>whnf
   repeat(refine sT rfl ?_;conv=>whnf)
   exact .inl (by rw[h,BV])
theorem dG(l:List Od)(day:Int)(p:Pt)(hl:l.length≤40)(r:List Pt)(hs:H5 l day (p::r)):sD Tryz.prog 79 (ZbA l day p) ((p::r).map λq=>[q.v]):=by
 refine sD.Ai Tryz.func79 rfl Ae (by kernel_rfl) rfl λy I Ix Mz hy=>?_
 have vA:∀(k:Nat)(x:List AV),((p::r).map λq=>[q.v])[k]?=some x→KJ Tryz.prog (.func (.yield y) #[] #[]) x (I k) (I (k+1)) Ix:=hy
 clear hy;have Zc5:∀Sw Sr w,¬(I ((p::r).map λq=>[q.v]).length).J Sw Sr w:=Mz
 clear Mz;rw[BV]at Zc5;generalize Y7:p::r=ps at*;have h0:∃h:0<ps.length,ps[0]=p:=by subst Y7;exact⟨by simp,rfl⟩
 obtain⟨h0,hp0⟩:=h0;conv=>whnf
 repeat(refine sT rfl ?_;conv=>whnf)
 refine Ac.AJ (λk:Nat=>mk 20 [(0,.raw (.func (.yield y) #[] #[])),(1,.at_ [.int .i64 p.s,.int .i64 p.n]),(2,.at_ [H7 l]),(3,.at_ [.int .i64 day]),(5,.ptr 1 0),(6,.bool true)]) (λk=>[.inv (I k),.cells [.int .i64 (ps.getD k p).s,.int .i64 (ps.getD k p).n]]) (λk=>k<ps.length) (λk=>ps.length-k) (λ_ _=>⟨rfl,rfl,trivial⟩) ⟨0,?_⟩ (λ_=>rfl) λk hk=>?_
 ·conv=>whnf
  repeat(refine Aq ?_ ?_;(focus (first|rfl|(simp;done)));conv=>whnf)
  have hg:ps.getD 0 p=p:=by rw[Bh,Bc h0,hp0];rfl
  first|exact⟨by rw[hg],h0⟩|exact h0
 ·have hg:ps.getD k p=ps[k]:=by simp[hk]
  rw[hg];conv=>whnf
  repeat(refine sT rfl ?_;conv=>whnf)
  refine⟨λ_=>?_,λh=>absurd h (by decide)⟩
  conv=>whnf
  repeat(refine sT rfl ?_;conv=>whnf)
  refine⟨rfl,I (k+1),Ix,vA k _ (VE ps k hk),?_,?_⟩
  ·conv=>whnf
   by_cases bK:k+1<ps.length
   ·repeat(refine sT rfl ?_;conv=>whnf)
    refine cS (UM l day ps[k] hl) rfl ?_;conv=>whnf
    repeat(refine sT rfl ?_;conv=>whnf)
    refine⟨k+1,?_⟩;rw[H5.at_ hs k bK];conv=>whnf
    repeat(refine Aq ?_ ?_;(focus (first|rfl|(simp;done)));conv=>whnf)
    have hg1:ps.getD (k+1) p=ps[k+1]:=by simp[bK]
    exact⟨by rw[hg1];rfl,⟨by omega,by omega⟩⟩
   ·exact Ac.never rfl (by rw[show k+1=ps.length by omega];exact Zc5)
  ·conv=>whnf
   repeat(refine sT rfl ?_;conv=>whnf)
end Go.Proofs.YtdadkhcdoaeabaaGreatDoor
namespace Go.Proofs.YtdadkhcdoaeabaaGreatDoor
open Go.Av Go.Shelf Go.RowKit
open Rr.Pl (Pt)
theorem oY:laidOutB Tryz.prog=true:=by kernel_rfl
def TE(a:AV):Prop:=∃q:Pt,a=q.v
theorem Ry{C:Ag}{w:World}{mu:Mu}{q:Pt}{v:Value}(h:Aj C w q.v mu v):v=.agg #[.int .i64 q.s,.int .i64 q.n]∧DF .i64 q.s∧DF .i64 q.n:=by
 unfold Pt.v Aj at h;obtain⟨cs,rfl,h⟩:=h;unfold Aa at h;obtain⟨v1,_,rfl,h1,h⟩:=h;unfold Aa at h;obtain⟨v2,_,rfl,h2,h⟩:=h;unfold Aa at h;subst h;unfold Aj at h1 h2;obtain⟨rfl,k1⟩:=h1;obtain⟨rfl,k2⟩:=h2;exact⟨rfl,k1,k2⟩
theorem PF:gK Tryz.prog 34 TE where
 law:=Go.Maps.Keyed.of_law (deep_law_laid oY (m:=5) (by decide) (of_decide_eq_true (by kernel_rfl)) (by kernel_rfl) (by kernel_rfl))
 free:=λa ⟨q,e⟩=>by subst e;rfl
 reads:=λC w mu a v ⟨q,e⟩ hr=>by
  subst e;obtain⟨rfl,k1,k2⟩:=Ry hr;have hu:=Tryz.underlying34;have hu3:=Tryz.underlying3;have hkt:Tryz.prog.keyType 34=true:=by kernel_rfl
  have hc:Tryz.prog.cellsOf 34=2:=by kernel_rfl
  have hc3:Tryz.prog.cellsOf 3=1:=by kernel_rfl
  have hb:Nat.ble 1 Tryz.prog.types.size=true:=by kernel_rfl
  have hb:=DC hb;obtain⟨m,hm⟩:∃m,Tryz.prog.types.size=m+1:=⟨Tryz.prog.types.size-1,(Nat.sub_add_cancel hb).symm⟩
  have hint:∀n,DF .i64 n→Tryz.prog.keyLits (m+1) 3 [.int .i64 n]=some [.int .i64 n]:=λn hn=>by
   unfold Fy;rw[hu3];simp only;rw[if_pos ⟨trivial,by unfold Lit.wf;unfold DF at hn;simpa using hn⟩]
  have hl:Tryz.prog.keyLits (m+1+1) 34 [.int .i64 q.s,.int .i64 q.n]=some [.int .i64 q.s,.int .i64 q.n]:=by
   unfold Fy;rw[hu];simp only[hc];simp[hc3,hint q.s k1,hint q.n k2]
  unfold keyOf;rw[hu];simp only[hkt,Value.formed,hu,hc,hm];simp only[Value.cells];rw[hl];exact⟨_,rfl⟩
 inj:=λC w a b v ⟨p,ea⟩ ⟨q,eb⟩ h1 h2=>by
  subst ea eb;obtain⟨e1,_⟩:=Ry h1;obtain⟨e2,_⟩:=Ry h2;rw[e1]at e2;simp at e2;cases p;cases q;simp_all
 det:=λC w a u v ⟨p,ea⟩ h1 h2=>by
  subst ea;rw[(Ry h1).1,(Ry h2).1]
end Go.Proofs.YtdadkhcdoaeabaaGreatDoor
namespace Go.Proofs.YtdadkhcdoaeabaaGreatDoor
open Go.Av Go.Shelf Go.RowKit
open Rr.Pl (Pt Ad St Ch Bs My Mw)
theorem Tf{E E0:List AV}(h:eV E E0 True):sB E E0:=(Nk _ _ _ h).1
theorem SI(l:List Od)(day:Int):∀(k:Nat)(seen:List Pt)(p:Pt),seen.length+k=6→seen.length≤5→seen.Nodup→
  (∃r,U4 l day k seen p=(seen++p::r,0)∧H5 l day (p::r)∧(∀q,(p::r).getLast?=some q→Gl l day q=none)∧(seen++p::r).Nodup∧(seen++p::r).length≤5)∨
  ∃i z r,i++[z]=p::r∧H5 l day (p::r)∧(seen++i).Nodup∧(seen++i).length≤5∧((z∈seen++i∧U4 l day k seen p=([],70))∨(z∉seen++i∧4<(seen++i).length∧U4 l day k seen p=([],2)))
 |0,seen,p,h,h5,hn=>by omega
 |k+1,seen,p,h,h5,hn=>by
  unfold U4;by_cases hm:p∈seen
  ·rw[if_pos hm];exact .inr ⟨[],p,[],rfl,trivial,by simpa using hn,by simpa using h5,.inl ⟨by simpa using hm,rfl⟩⟩
  ·rw[if_neg hm];by_cases h4:4<seen.length
   ·rw[if_pos h4];exact .inr ⟨[],p,[],rfl,trivial,by simpa using hn,by simpa using h5,.inr ⟨by simpa using hm,by simpa using h4,rfl⟩⟩
   ·rw[if_neg h4];have hn':(seen++[p]).Nodup:=List.nodup_append.2 ⟨hn,by simp,λx hx y hy=>by rw[C3.1 hy];exact λe=>hm (e▸hx)⟩
    cases hq:Gl l day p with
    |none=>exact .inl ⟨[],rfl,trivial,λq hq'=>by simp at hq';rw[←hq'];exact hq,hn',by simp;omega⟩
    |some q=>
     simp only;rcases SI l day k (seen++[p]) q (by simp;omega) (by simp;omega) hn' with⟨r,h1,h2,h3,h4',h5'⟩|⟨i,z,r,h1,h2,h3,h4',h5'⟩
     ·exact .inl ⟨q::r,by rw[h1];simp,⟨hq,h2⟩,λx hx=>h3 x (by rw[List.getLast?_cons_cons]at hx;exact hx),by simpa using h4',by simpa using h5'⟩
     ·exact .inr ⟨p::i,z,q::r,by rw[←h1];rfl,⟨hq,h2⟩,by simpa using h3,by simpa using h4',by simpa using h5'⟩
def Dy(k:Nat):List AV:=C1 k (.lit true)
def Zbr(p:Pt)(e:Int)(ps:List Pt):List HO:=[.cells [.int .i64 p.s,.int .i64 p.n],.cells [.own 5 2 0 ps.length],.map (ps.map Pt.v) (Dy ps.length),.cells [.om 2],.cells [.int .i64 e],.arr 34 2 (ps.map Pt.v)]
def qO(l:List Od)(day:Int)(p:Pt):List AV:=mk 39 [(0,H7 l),(1,.int .i64 day),(2,p.v),(5,.ptr 0 0),(8,.ptr 1 0),(9,.ptr 3 0),(10,.ptr 4 0)]
theorem Di(l:List Pt):∀x∈l.map Pt.v,closed x=true:=by
 intro x hx;obtain⟨y,_,rfl⟩:=BJ.1 hx;rfl
def Zgi(p:Pt):List HO:=[.cells [.int .i64 p.s,.int .i64 p.n],.cells [.own 5 2 0 1],.map [] [],.cells [.om 2],.cells [.int .i64 0],.arr 34 2 [.int .i64 0]]
theorem I9(l:List Pt):∀a∈l.map Pt.v,TE a:=by
 intro x hx;obtain⟨y,_,rfl⟩:=BJ.1 hx;exact⟨y,rfl⟩
theorem eG{p q:Pt}(h:p.v=q.v):p=q:=by
 cases p;cases q
 unfold Pt.v at h;simp at h;rw[h.1,h.2]
theorem FT:∀{l:List Pt},l.Nodup→(l.map Pt.v).Nodup
 |[],_=>EM
 |p::l,h=>by
  rw[Gm,FP];obtain⟨h1,h2⟩:=FP.1 h
  exact⟨λhm=>by
   obtain⟨y,hy,e⟩:=BJ.1 hm;exact h1 (eG e▸hy),FT h2⟩
theorem FI{p:Pt}{l:List Pt}:p.v∈l.map Pt.v↔p∈l:=
 ⟨λh=>by
  obtain⟨y,hy,e⟩:=BJ.1 h
  exact eG e▸hy,λh=>BJ.2 ⟨p,h,rfl⟩⟩
theorem N6{k j:Nat}{v:AV}(h:(Dy k)[j]?=some v):v=.lit true:=List.eq_of_mem_replicate (Cu h)
theorem RY{l:List Pt}(h:l.Nodup)(k:Nat):(l.take k).Nodup:=h.sublist (List.take_sublist _ _)
theorem Xz{l:List Pt}(h:l.Nodup)(k:Nat)(hk:k<l.length):l[k]∉l.take k:=λhm=>by
 obtain⟨j,hj,e⟩:=List.mem_iff_getElem.1 hm;rw[BC]at hj;rw[CX]at e;exact absurd e (List.pairwise_iff_getElem.1 h j k (by omega) hk (by omega))
theorem Ks(l:List Od)(day:Int)(p:Pt)(hl:l.length≤100000):Aw Tryz.prog 24 [H7 l,.int .i64 day,p.v] (λr=>r=.tuple [VD (AW l day p).1,.int .i64 (AW l day p).2]):=by
 refine Aw.Ai Tryz.func24 rfl Ae (by kernel_rfl) ?_
 conv=>whnf
 repeat(refine sT rfl ?_;conv=>whnf)
 refine cS (JQ l) rfl ?_;conv=>whnf
 repeat(refine sT rfl ?_;conv=>whnf)
 refine⟨λh0=>?_,λh0=>?_⟩
 ·have h0:CC l=false:=by simpa using h0
  have hF:AW l day p=([],1):=by unfold AW;rw[h0];rfl
  rw[hF];conv=>whnf
  repeat(refine sT rfl ?_;conv=>whnf)
  exact⟨2,rfl⟩
 ·have h0:CC l=true:=by simpa using h0
  have hF:AW l day p=U4 l day 6 [] p:=by unfold AW;rw[h0];rfl
  rw[hF];conv=>whnf
  repeat(refine sT rfl ?_;conv=>whnf)
  refine cS (dF l day p) rfl ?_;conv=>whnf
  repeat(refine sT rfl ?_;conv=>whnf)
  have Zdg:l.length≤40:=by unfold CC at h0;simp at h0;exact h0.1
  refine Ac.Gv 1 0 34 2 rfl rfl ?_;rcases SI l day 6 [] p rfl (by simp) EM with⟨r,h1,h2,h3,h4,h5⟩|⟨i,z,r,h1,h2,h3,h4,h5⟩
  ·rw[h1];simp only[D0]at h4 h5 ⊢;have JE:=lE l day p Zdg r h2 h3;generalize Y7:p::r=ps at*
   refine Ac.rangeFunc (E0:=qO l day p) (xs:=ps.map λq=>[q.v]) (Tf ?_) rfl rfl JE rfl (λvs k=>Zbr p 0 (ps.take k)++[.ghost (qO l day p) vs []]) (λ_ _ _=>False) (λvs=>rfl)
    (λvs k=>⟨rfl,rfl,by(conv=>whnf);exact⟨rfl,rfl,rfl,rfl,Di _,rfl,trivial⟩⟩) (λvs k x hx=>?_) (λvs=>?_) (λ_ _ _ h=>h.elim)
   ·conv=>whnf
    repeat first|exact trivial|(refine⟨rfl,?_⟩;conv=>whnf)
   ·have hk:k<ps.length:=by have:=(D5.1 hx).1;simpa using this
    obtain rfl:x=[ps[k].v]:=by rw[VE ps k hk]at hx;exact(Fw.inj hx).symm
    refine⟨rfl,?_⟩;have N2:=RY h4 k;have hnt:=Xz h4 k hk;have Wc:k≤4:=by omega
    have hlk:(ps.take k).length=k:=by rw[BC];omega
    iterate 5 (refine sT rfl ?_;conv=>whnf)
    refine Ac.Ex [2] Ae ?_;conv=>whnf
    refine⟨TE,PF,⟨_,rfl⟩,⟨I9 _,FT N2⟩,λOP=>?_,λj v hj hv=>absurd (FI.1 (Cu hj)) hnt⟩
    repeat(refine sT rfl ?_;conv=>whnf)
    refine⟨λh=>absurd (of_decide_eq_true h) (by rw[hlk];omega),λ_=>?_⟩
    conv=>whnf
    iterate 2 (refine sT rfl ?_;conv=>whnf)
    refine Ac.Ex [2] Ae ?_;conv=>whnf
    refine⟨TE,PF,⟨⟨_,rfl⟩,rfl⟩,⟨I9 _,FT N2⟩,λOP=>?_,λj hj=>absurd (FI.1 (Cu hj)) hnt⟩
    conv=>whnf
    repeat(refine sT rfl ?_;conv=>whnf)
    refine⟨rfl,?_⟩;conv=>whnf
    refine⟨⟨by simp,by rw[Cb,BV,hlk];show(k+1)*16≤_;omega⟩,?_⟩
    conv=>whnf
    conv=>whnf
    repeat(refine Aq ?_ ?_;(focus (first|rfl|(simp;done)));conv=>whnf)
    have e1:ps.take (k+1)=ps.take k++[ps[k]]:=AZ hk;rw[e1];refine⟨by rw[Cb,Cb,BV];rfl,?_⟩
    conv=>whnf
    refine⟨?_,?_⟩
    ·show HO.map (List.map Pt.v (List.take k ps)++[ps[k].v]) (Dy (ps.take k).length++[.lit true])=_
     rw[CW,Cb,show Dy ((List.take k ps).length+[ps[k]].length)=Dy (List.take k ps).length++[.lit true]from Ep]
     rfl
    conv=>whnf
    repeat(refine Aq ?_ ?_;(focus (first|rfl|(simp;done)));conv=>whnf)
    exact⟨by rw[CW];rfl,by(conv=>whnf);exact⟨rfl,trivial⟩⟩
   ·rw[BV,CA];repeat(refine sT rfl ?_;conv=>whnf)
    refine⟨λh=>absurd h (by decide),λ_=>?_⟩
    conv=>whnf
    repeat(refine sT rfl ?_;conv=>whnf)
    refine⟨⟨by simp,Di _⟩,?_⟩
    rfl
  ·simp only[D0]at h3 h4 h5;have JE:=dG l day p Zdg r h2;generalize Y7:p::r=ps at*;have hlen:ps.length=i.length+1:=by rw[←h1];simp
   have Qy:ps.take i.length=i:=by rw[←h1];simp
   have hz:∀h,ps[i.length]'h=z:=λh=>by simp only[←h1];simp
   obtain⟨er,her,hgo⟩:∃er,er≠0∧U4 l day 6 [] p=([],er):=by rcases h5 with⟨_,h⟩|⟨_,_,h⟩<;>exact⟨_,by decide,h⟩
   refine Ac.Z4 (E0:=qO l day p) (xs:=ps.map λq=>[q.v]) (Tf ?_) rfl rfl JE rfl (λvs k=>(if k≤i.length then Zbr p 0 (ps.take k)else Zgi p)++[.ghost (qO l day p) vs []])
    (λvs e H'=>e=.exit 0∧H'=Zbr p er i++[.ghost (qO l day p) vs [],.cells [.int .i64 z.s,.int .i64 z.n]]) (λvs=>by rw[if_pos (BD _)];rfl)
    (λvs k=>?_) (λvs k x hx=>?_) (λvs=>?_) (λvs e H' h=>?_)
   ·conv=>whnf
    repeat first|exact trivial|(refine⟨rfl,?_⟩;conv=>whnf)
   ·by_cases hk:k≤i.length
    ·rw[if_pos hk];exact⟨rfl,rfl,by(conv=>whnf);exact⟨rfl,rfl,rfl,rfl,Di _,rfl,trivial⟩⟩
    ·rw[if_neg hk];exact⟨rfl,rfl,by(conv=>whnf);exact⟨rfl,rfl,rfl,rfl,(by intro e he;cases C3.1 he;rfl),rfl,trivial⟩⟩
   ·have hk:k<ps.length:=by have:=(D5.1 hx).1;simpa using this
    obtain rfl:x=[ps[k].v]:=by rw[VE ps k hk]at hx;exact(Fw.inj hx).symm
    rw[if_pos (show k≤i.length by omega)]
    refine⟨rfl,?_⟩;have hlk:(ps.take k).length=k:=by rw[BC];omega
    by_cases hki:k<i.length
    ·have Zdi:ps.take k=i.take k:=by rw[←h1,List.take_append_of_le_length (by omega)]
     have lN:ps[k]=i[k]:=by simp only[←h1];rw[List.getElem_append_left hki]
     have N2:(ps.take k).Nodup:=by rw[Zdi];exact RY h3 k
     have hnt:ps[k]∉ps.take k:=by rw[Zdi,lN];exact Xz h3 k hki
     have Wc:k≤4:=by omega
     rw[if_pos (show k+1≤i.length by omega)]
     iterate 5 (refine sT rfl ?_;conv=>whnf)
     refine Ac.Ex [2] Ae ?_;conv=>whnf
     refine⟨TE,PF,⟨_,rfl⟩,⟨I9 _,FT N2⟩,λOP=>?_,λj v hj hv=>absurd (FI.1 (Cu hj)) hnt⟩
     repeat(refine sT rfl ?_;conv=>whnf)
     refine⟨λh=>absurd (of_decide_eq_true h) (by rw[hlk];omega),λ_=>?_⟩
     conv=>whnf
     iterate 2 (refine sT rfl ?_;conv=>whnf)
     refine Ac.Ex [2] Ae ?_;conv=>whnf
     refine⟨TE,PF,⟨⟨_,rfl⟩,rfl⟩,⟨I9 _,FT N2⟩,λOP=>?_,λj hj=>absurd (FI.1 (Cu hj)) hnt⟩
     conv=>whnf
     repeat(refine sT rfl ?_;conv=>whnf)
     refine⟨rfl,?_⟩;conv=>whnf
     refine⟨⟨by simp,by rw[Cb,BV,hlk];show(k+1)*16≤_;omega⟩,?_⟩
     conv=>whnf
     conv=>whnf
     repeat(refine Aq ?_ ?_;(focus (first|rfl|(simp;done)));conv=>whnf)
     have e1:ps.take (k+1)=ps.take k++[ps[k]]:=AZ hk;rw[e1];refine⟨by rw[Cb,Cb,BV];rfl,?_⟩
     conv=>whnf
     refine⟨?_,?_⟩
     ·show HO.map (List.map Pt.v (List.take k ps)++[ps[k].v]) (Dy (ps.take k).length++[.lit true])=_
      rw[CW,Cb,show Dy ((List.take k ps).length+[ps[k]].length)=Dy (List.take k ps).length++[.lit true]from Ep]
      rfl
     conv=>whnf
     repeat(refine Aq ?_ ?_;(focus (first|rfl|(simp;done)));conv=>whnf)
     exact⟨by rw[CW];rfl,by(conv=>whnf);exact⟨rfl,trivial⟩⟩
    ·have sO:k=i.length:=by omega
     have e0:ps.take k=i:=by rw[sO];exact Qy
     have e1:ps[k]=z:=by simp only[sO];exact hz _
     rw[e0,e1];iterate 5 (refine sT rfl ?_;conv=>whnf)
     refine Ac.Ex [2] Ae ?_;conv=>whnf
     refine⟨TE,PF,⟨_,rfl⟩,⟨I9 _,FT h3⟩,λOP=>?_,λj v hj hv=>?_⟩
     ·have hzi:z∉i:=λh=>OP (FI.2 h)
      rcases h5 with⟨h,_⟩|⟨_,h5,h6⟩;·exact absurd h hzi
      obtain rfl:er=2:=by rw[h6]at hgo;exact(congrArg Gk hgo).symm
      repeat(refine sT rfl ?_;conv=>whnf)
      refine⟨λ_=>?_,λh=>absurd h (by simp;omega)⟩
      conv=>whnf
      conv=>whnf
      repeat(refine sT rfl ?_;conv=>whnf)
      exact⟨⟨_,rfl⟩,⟨rfl,rfl⟩,rfl,rfl⟩
     ·have hzi:z∈i:=FI.1 (Cu hj);rcases h5 with⟨_,h6⟩|⟨h,_,h6⟩;case inr=>exact absurd hzi h
      obtain rfl:er=70:=by rw[h6]at hgo;exact(congrArg Gk hgo).symm
      obtain rfl:=N6 hv;conv=>whnf
      repeat(refine sT rfl ?_;conv=>whnf)
      exact⟨⟨_,rfl⟩,⟨rfl,rfl⟩,rfl,rfl⟩
   ·rw[BV,hlen,if_neg (by omega)]
    exact⟨5,_,_,_,_,rfl,C3.2 rfl,by decide⟩
   ·obtain⟨rfl,rfl⟩:=h;rw[hgo];conv=>whnf
    conv=>whnf
    repeat(refine sT rfl ?_;conv=>whnf)
    refine⟨λ_=>?_,λh=>absurd h (by simpa using her)⟩
    conv=>whnf
    repeat(refine sT rfl ?_;conv=>whnf)
    refine Ac.draw [] Ae mO (by kernel_rfl) ?_
    conv=>whnf
    conv=>whnf
    repeat(refine sT rfl ?_;conv=>whnf)
    exact⟨2,rfl⟩
theorem HC{l:List Od}{day:Int}{p:Pt}(h:(AW l day p).2=0):0<(AW l day p).1.length∧(AW l day p).1.length≤5:=by
 unfold AW at h⊢;split at h;case isFalse=>exact absurd h (by decide)
 ·rename_i hv;rw[if_pos hv];rcases SI l day 6 [] p rfl (by simp) EM with⟨r,h1,h2,h3,h4,h5⟩|⟨i,z,r,h1,h2,h3,h4,h5⟩
  ·rw[h1];exact⟨by simp,h5⟩
  ·rcases h5 with⟨_,h5⟩|⟨_,_,h5⟩<;>rw[h5]at h<;>exact absurd h (by decide)
def Mr(l:List Od)(day:Int)(a s:Pt):Pt×Bool:=if (AW l day a).2=0 then ((AW l day a).1.getD ((AW l day a).1.length-1) My,false)else (s,true)
theorem SX(l:List Od)(day:Int)(to_ s:Pt)(hl:l.length≤100000):Aw Tryz.prog 15 [H7 l,.int .i64 day,to_.v,s.v] (λr=>r=.tuple [(Mr l day to_ s).1.v,.bool (Mr l day to_ s).2]):=by
 refine Aw.Ai Tryz.func15 rfl Ae (by kernel_rfl) ?_
 conv=>whnf
 repeat(refine sT rfl ?_;conv=>whnf)
 refine cS (Ks l day to_ hl) rfl ?_;conv=>whnf
 repeat(refine sT rfl ?_;conv=>whnf)
 unfold Mr;refine⟨λh=>?_,λh=>?_⟩
 ·rw[if_neg (by simpa using h)]
  conv=>whnf
  repeat(refine sT rfl ?_;conv=>whnf)
  rfl
 ·have h:(AW l day to_).2=0:=by simpa using h
  rw[if_pos h];obtain⟨k1,k2⟩:=HC h;generalize (AW l day to_).1=ps at*
  have hw:Wr .i64 (((ps.map Pt.v).length:Int)-1)=((ps.length-1:Nat):Int):=by
   rw[BV,Cy _ _ (by unfold DF IntKind.min IntKind.max Gu Gj;simp;omega)]
   omega
  conv=>whnf
  repeat(refine sT rfl ?_;conv=>whnf)
  rw[hw];refine⟨by omega,(ps.getD (ps.length-1) My).v,by simp[show ps.length-1<ps.length by omega],?_⟩
  conv=>whnf
  repeat(refine sT rfl ?_;conv=>whnf)
  rfl
end Go.Proofs.YtdadkhcdoaeabaaGreatDoor