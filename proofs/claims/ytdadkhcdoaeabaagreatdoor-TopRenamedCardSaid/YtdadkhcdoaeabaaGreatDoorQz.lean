/- Forwarding. -/
import Derived.Test.YtdadkhcdoaeabaaGreatDoorQf
import Derived.Test.YtdadkhcdoaeabaaGreatDoorQr
import Derived.DeepKeys4
set_option linter.unusedVariables false
set_option maxRecDepth 100000
set_option linter.unusedSectionVars false
set_option linter.unusedSimpArgs false
open Int renaming toNat_natCast → Ax
open List renaming take_succ_eq_append_getElem → A0, getElem?_eq_getElem → Bl, getD_eq_getElem?_getD → BI, length_take → BM, mem_map → Cb, length_map → Cr, mem_cons → CL, getElem_mem → CM, take_length → C0, pairwise_cons → C2, getElem_take → C3, take_of_length_le → C4, length_append → Ds, mem_of_getElem? → DE, drop_eq_getElem_cons → DG, replicate → D0, eq_nil_iff_forall_not_mem → El, mem_zipIdx_iff_getElem? → EI, map_append → E1, length_cons → E2, drop_eq_nil_of_le → Fi, nil_append → Fk, set_append_right → Fy, nodup_nil → FB, getElem_of_mem → FX, mem_filterMap → FY, mem_singleton → FZ, any_eq_false → F0, mem_flatMap → Gt, foldl_cons → GW, length_set → G2, nodup_cons → Hx, take_take → HM, map_cons → HQ
open Nat renaming zero_add → Bh, le_refl → Bv, zero_le → BY, min_eq_left → C1, add_zero → Ef, le_of_lt → Eg, le_of_ble_eq_true → Eu, le_add_right → GK, not_lt_zero → GZ
open And renaming intro → Cg
open Option renaming getD_some → E4, map_eq_some_iff → Fj, some → G1
open Bool renaming eq_iff_iff → Fl, and_eq_true → Gs, and_false → Hz
open Go.Program renaming keyLits → Hs
open Go.IntKind renaming signed → HB, bits → HR
namespace Go.Proofs.YtdadkhcdoaeabaaGreatDoor
open Go.Av
open Rr.Pl (Pt Ad St Ch Bs Mv HT)
open Rr (E6 Ar)
open Rr.Pl (CA AW)
structure Od where
 fr:Pt
 tt:Pt
 st:Int
 en:Int
def Od.v(o:Od):AV:=.agg [.int .i64 o.fr.s,.int .i64 o.fr.n,.int .i64 o.tt.s,.int .i64 o.tt.n,.int .i64 o.st,.int .i64 o.en]
def Hr(l:List Od):AV:=.sl 6 (l.map Od.v)
def Tv(l:List Pt):AV:=.sl 2 (l.map Pt.v)
def ptB(p:Pt):Bool:=decide (0<=p.s)&&decide (0<=p.n)
def tX(o:Od):Bool:=decide (o.st<=o.en)&&decide (-1000000<=o.st)&&decide (o.en<=1000000)&&!decide (o.fr=o.tt)&&ptB o.fr&&ptB o.tt
def B1(l:List Od):Bool:=decide (l.length<=40)&&l.all tX
def VF(p:Pt)(day:Int)(o:Od):Bool:=decide (o.fr=p)&&decide (o.st<=day)&&decide (day<=o.en)
def GJ(l:List Od)(day:Int)(p:Pt):Option Pt:=(l.find? (VF p day)).map Od.tt
def X3(l:List Od)(day:Int):Nat->List Pt->Pt->List Pt×Int
 |0,_,_=>([],2)
 |k+1,seen,p=>if p∈seen then ([],70)else if 4<seen.length then ([],2)else match GJ l day p with
  |none=>(seen++[p],0)
  |some q=>X3 l day k (seen++[p]) q
def AN(l:List Od)(day:Int)(p:Pt):List Pt×Int:=if B1 l then X3 l day 6 [] p else ([],1)
theorem lT(l:List Od)(day:Int):∀(k:Nat)(seen:List Pt)(p:Pt),(X3 l day k seen p).2=0\/X3 l day k seen p=([],70)\/X3 l day k seen p=([],2)
 |0,_,_=>.inr (.inr rfl)
 |k+1,seen,p=>by
  unfold X3;split;·exact .inr (.inl rfl)
  ·split;·exact .inr (.inr rfl)
   ·split;·exact .inl rfl
    ·exact lT l day k _ _
theorem wD(l:List Od)(day:Int):∀(k:Nat)(seen:List Pt)(p:Pt),(X3 l day k seen p).2=0->
  (∃r,(X3 l day k seen p).1=seen++p::r)/\(X3 l day k seen p).1.length<=5/\∃i q,(X3 l day k seen p).1=i++[q]/\GJ l day q=none
 |0,_,_,h=>by unfold X3 at h;cases h
 |k+1,seen,p,h=>by
  unfold X3 at h⊢;split at h;·cases h
  ·split at h;·cases h
   ·rename_i h1 h2;rw[if_neg h1,if_neg h2];cases hn:GJ l day p with
    |none=>exact⟨⟨[],rfl⟩,by simp;omega,seen,p,rfl,hn⟩
    |some q=>
     rw[hn]at h;simp only at h⊢;obtain⟨⟨r,k1⟩,k2,k3⟩:=wD l day k (seen++[p]) q h;exact⟨⟨q::r,by rw[k1];simp⟩,k2,k3⟩
theorem aQ(l:List Od)(day:Int)(k:Nat)(p:Pt)(h:GJ l day p=none):X3 l day (k+1) [] p=([p],0):=by
 unfold X3;rw[if_neg (by simp),if_neg (by simp),h]
 rfl
theorem gV{l:List Od}(hv:B1 l=true)(day:Int)(p:Pt):(AN l day p).2=0\/AN l day p=([],70)\/AN l day p=([],2):=by
 unfold AN;rw[if_pos hv];exact lT l day 6 [] p
theorem pV{l:List Od}{day:Int}{p:Pt}(h:(AN l day p).2=0):∃i q,(∃r,(AN l day p).1=p::r)/\(AN l day p).1.length<=5/\(AN l day p).1=i++[q]/\AN l day q=([q],0):=by
 unfold AN at h⊢;split at h
 ·rename_i hv;simp only[if_pos hv];obtain⟨⟨r,k1⟩,k2,i,q,k3,k4⟩:=wD l day 6 [] p h;exact⟨i,q,⟨r,by rw[k1];rfl⟩,k2,k3,aQ l day 5 q k4⟩
 ·cases h
theorem UA(day:Int)(p:Pt):AN [] day p=([p],0):=by
 unfold AN;rw[if_pos (by rfl)]
 exact aQ [] day 5 p rfl
def OI(x y:UInt8):Int:=if x=y then 0 else 1
def DC(x:UInt8):Bs->List Int->Int->List Int
 |y::b,p::q::r,left=>min (min (p+OI x y) (q+1)) (left+1)::DC x b (q::r) (min (min (p+OI x y) (q+1)) (left+1))
 |_,_,_=>[]
def HP(n:Nat):List Int:=(List.range (n+1)).map λk:Nat=>(k:Int)
def JC(b:Bs):List UInt8->Nat->List Int->List Int
 |[],_,r=>r
 |x::a,i,r=>JC b a (i+1) (((i+1:Nat):Int)::DC x b r ((i+1:Nat):Int))
def CB(a b:Bs):Int:=if 200<a.length\/200<b.length then -1 else (JC b a 0 (HP b.length)).getD b.length 0
theorem KP(x:UInt8):∀(b:Bs)(r:List Int)(left:Int),r.length=b.length+1->(DC x b r left).length=b.length
 |[],r,_,h=>by unfold DC;rfl
 |y::b,[],_,h|y::b,[p],_,h=>by simp at h
 |y::b,p::q::r,left,h=>by
  unfold DC;simp only[E2]at h ⊢;rw[KP x b (q::r) _ (by simpa using h)]
theorem YT(x:UInt8):∀(b:Bs)(r:List Int)(left:Int)(hr:r.length=b.length+1)(j:Nat)(hj:j<b.length),
  (left::DC x b r left)[j+1]'(by simp[KP x b r left hr];omega)=min (min (r[j]'(by omega)+OI x b[j]) (r[j+1]'(by omega)+1)) ((left::DC x b r left)[j]'(by simp[KP x b r left hr];omega)+1)
 |[],r,_,h,j,hj=>by simp at hj
 |y::b,[],_,h,_,_|y::b,[p],_,h,_,_=>by simp at h
 |y::b,p::q::r,left,h,0,hj=>by simp[DC]
 |y::b,p::q::r,left,h,j+1,hj=>by
  have ih:=YT x b (q::r) (min (min (p+OI x y) (q+1)) (left+1)) (by simpa using h) j (by simpa using hj)
  simpa[DC]using ih
theorem YU(x:UInt8):∀(b:Bs)(r:List Int)(left m:Int),r.length=b.length+1->(∀y∈r,0<=y/\y<=m)->0<=left->left<=m+1->∀y∈DC x b r left,0<=y/\y<=m+1
 |[],r,_,_,h,_,_,_=>by unfold DC;simp
 |y::b,[],_,_,h,_,_,_|y::b,[p],_,_,h,_,_,_=>by simp at h
 |y::b,p::q::r,left,m,h,h1,h2,h3=>by
  unfold DC;have e1:=h1 p (by simp)
  have e2:=h1 q (by simp)
  have e3:0<=OI x y/\OI x y<=1:=by unfold OI;split<;>omega
  have e4:0<=min (min (p+OI x y) (q+1)) (left+1)/\min (min (p+OI x y) (q+1)) (left+1)<=m+1:=by omega
  intro z hz;rcases CL.1 hz with rfl|hz;·exact e4
  ·exact YU x b (q::r) _ m (by simpa using h) (λy hy=>h1 y (by simp at hy⊢;exact .inr hy)) e4.1 e4.2 z hz
theorem Hn(n:Nat):(HP n).length=n+1:=by unfold HP;simp
theorem Tj(n:Nat):∀y∈HP n,0<=y/\y<=(n:Int):=by
 intro y hy;unfold HP at hy;obtain⟨k,hk,rfl⟩:=Cb.1 hy;have:=List.mem_range.1 hk;omega
theorem Og(b:Bs):∀(a:Bs)(i:Nat)(r:List Int),r.length=b.length+1->(JC b a i r).length=b.length+1
 |[],_,r,h=>h
 |x::a,i,r,h=>Og b a (i+1) _ (by simp[KP x b r _ h])
theorem Oh(b:Bs):∀(a:Bs)(i:Nat)(r:List Int),r.length=b.length+1->(∀y∈r,0<=y/\y<=((i+b.length:Nat):Int))->∀y∈JC b a i r,0<=y/\y<=((i+a.length+b.length:Nat):Int)
 |[],_,r,h,hb=>by simpa[JC]using hb
 |x::a,i,r,h,hb=>by
  intro y hy
  have:=Oh b a (i+1) _ (by simp[KP x b r _ h]) (λy hy=>by
   rcases CL.1 hy with rfl|hy;·constructor<;>omega
   ·have:=YU x b r ((i+1:Nat):Int) ((i+b.length:Nat):Int) h hb (by omega) (by omega) y hy
    omega) y hy
  simp only[E2];omega
theorem Pf(a b:Bs):-1<=CB a b/\CB a b<=400:=by
 unfold CB;split;·constructor<;>omega
 ·rename_i h;have hl:=Og b a 0 (HP b.length) (Hn _);have hb:=Oh b a 0 (HP b.length) (Hn _) (by simpa using Tj b.length)
  rw[BI,Bl (by omega)]
  have:=hb _ (CM (by omega:b.length<_))
  simp only[E4];omega
end Go.Proofs.YtdadkhcdoaeabaaGreatDoor
namespace Go.Proofs.YtdadkhcdoaeabaaGreatDoor
open Ff.Pl (Bs Ln Ee Nr piece_ne)
def VP(q:Nat->Bool):Bs->Bs->List Bs
 |cur,[]=>if cur=[]then []else [cur]
 |cur,c::r=>if q c.toNat then (if cur=[]then VP q [] r else cur::VP q [] r)else VP q (cur++[c]) r
variable {q:Nat->Bool}
theorem YE:∀(x cur r:Bs),(∀c∈x,q c.toNat=false)->VP q cur (x++r)=VP q (cur++x) r
 |[],cur,r,_=>by simp
 |c::x,cur,r,h=>by
  have hc:=h c (by simp)
  rw[List.cons_append,VP,if_neg (by simp[hc]),YE x (cur++[c]) r λd hd=>h d (by simp[hd])]
  simp
variable (hq:∀n,64<=n->q n=false)
include hq
theorem runes(s:ByteArray)(pos:Nat)(hp:pos<s.size):1<=(Utf8.decode s pos).2/\pos+(Utf8.decode s pos).2<=s.size/\
  ((q (Utf8.decode s pos).1=true/\(Utf8.decode s pos).2=1/\q (s.get! pos).toNat=true)\/(q (Utf8.decode s pos).1=false/\∀j,j<(Utf8.decode s pos).2->q (s.get! (pos+j)).toNat=false)):=by
 rw[Lib.decode_at];generalize lO:(s.get! pos).toNat=b0;generalize PC:(s.get! (pos+1)).toNat=b1;generalize G0:(s.get! (pos+2)).toNat=b2;generalize pE:(s.get! (pos+3)).toNat=b3;have g0:∀n,(s.get! (pos+0)).toNat=n->n=b0:=λn h=>by rw[Ef,lO]at h;exact h.symm
 have nb:∀(c:UInt8),64<=c.toNat->q c.toNat=false:=λc h=>hq _ h
 unfold Lib.decodeN;split
 ·rename_i h0;refine⟨Bv _,by simp only;omega,?_⟩
  by_cases Ur:q b0=true;·exact .inl ⟨Ur,rfl,Ur⟩
  ·refine .inr ⟨by simpa using Ur,λj hj=>?_⟩
   have:j=0:=by simp only at hj;omega
   subst this;rw[Ef,lO];simpa using Ur
 ·rename_i h0
  have one:(1:Nat)<=1/\pos+1<=s.size/\((q 65533=true/\(1:Nat)=1/\q b0=true)\/(q 65533=false/\∀j,j<1->q (s.get! (pos+j)).toNat=false)):=by
   refine⟨Bv _,by omega,.inr ⟨hq _ (by decide),λj hj=>?_⟩⟩
   have:j=0:=by omega
   subst this;exact nb _ (by rw[Ef,lO];omega)
  split
  ·rename_i h1;split
   ·refine⟨by simp,by simp only;omega,.inr ⟨hq _ (by simp only;omega),λj hj=>?_⟩⟩
    have:j=0\/j=1:=by simp only at hj;omega
    rcases this with rfl|rfl;·exact nb _ (by rw[Ef,lO];omega)
    ·exact nb _ (by rw[PC];omega)
   ·exact one
  ·split
   ·rename_i h1;split
    ·refine⟨by simp,by simp only;omega,.inr ⟨hq _ (by simp only;omega),λj hj=>?_⟩⟩
     have:j=0\/j=1\/j=2:=by simp only at hj;omega
     rcases this with rfl|rfl|rfl;·exact nb _ (by rw[Ef,lO];omega)
     ·exact nb _ (by rw[PC];omega)
     ·exact nb _ (by rw[G0];omega)
    ·exact one
   ·split
    ·rename_i h1;split
     ·refine⟨by simp,by simp only;omega,.inr ⟨hq _ (by simp only;omega),λj hj=>?_⟩⟩
      have:j=0\/j=1\/j=2\/j=3:=by simp only at hj;omega
      rcases this with rfl|rfl|rfl|rfl;·exact nb _ (by rw[Ef,lO];omega)
      ·exact nb _ (by rw[PC];omega)
      ·exact nb _ (by rw[G0];omega)
      ·exact nb _ (by rw[pE];omega)
     ·exact one
    ·exact one
def Es(l:Bs)(st:Option Nat)(pos:Nat):Bs:=match st with|some a=>Ee l (a,pos)|none=>[]
theorem sI(s:ByteArray):∀(f pos:Nat)(st:Option Nat)(acc:List (Nat×Nat)),s.size<=pos+f->pos<=s.size->(∀a,st=some a->a<pos)->
  (Lib.closeSpans s (Lib.spansFromP q s f pos st acc)).map (Ee s.data.toList)=acc.map (Ee s.data.toList)++VP q (Es s.data.toList st pos) (s.data.toList.drop pos):=by
 have hlen:s.data.toList.length=s.size:=Array.length_toList;intro f;induction f with
 |zero=>
  intro pos st acc h1 h2 h3;have hp:pos=s.size:=by omega
  subst hp;unfold Lib.spansFromP Lib.closeSpans;rw[Fi (by omega)]
  cases st with
  |none=>simp[Es,VP]
  |some a=>
   have:=piece_ne s.data.toList a s.size (h3 a rfl) (by omega)
   simp[Es,VP,this]
 |succ f ih=>
  intro pos st acc h1 h2 h3;by_cases hp:pos<s.size
  ·obtain⟨k1,k2,k3⟩:=runes hq s pos hp;unfold Lib.spansFromP;rw[if_pos hp];generalize Utf8.decode s pos=d at*;obtain⟨r,k⟩:=d;simp only at k1 k2 k3⊢;rcases k3 with⟨hb,rfl,Yy⟩|⟨hb,Yy⟩
   ·rw[if_pos hb]
    have hd:s.data.toList.drop pos=s.get! pos::s.data.toList.drop (pos+1):=by
     have h':pos<s.data.toList.length:=by omega
     rw[DG h'];have:=Ln s pos hp;rw[Bl h']at this;injection this with this
     rw[this]
    rw[hd,VP,if_pos Yy];cases st with
    |none=>simp only;rw[ih (pos+1) none acc (by omega) (by omega) (by simp)];simp[Es]
    |some a=>
     simp only;rw[ih (pos+1) none _ (by omega) (by omega) (by simp)]
     have:=piece_ne s.data.toList a pos (h3 a rfl) (by omega)
     simp[Es,this]
   ·rw[if_neg (by simp[hb])]
    have hd:s.data.toList.drop pos=(s.data.toList.drop pos).take k++s.data.toList.drop (pos+k):=by
     rw[<-List.drop_drop,List.take_append_drop]
    have yI:∀c∈(s.data.toList.drop pos).take k,q c.toNat=false:=by
     intro c hc;obtain⟨j,hj,rfl⟩:=FX hc;simp only[BM,List.length_drop]at hj;have O1:j<k:=by omega
     have:=Ln s (pos+j) (by omega)
     rw[C3,List.getElem_drop];rw[Bl (by omega)]at this
     injection this with this
     rw[this];exact Yy j O1
    rw[hd,YE _ _ _ yI];cases st with
    |none=>
     simp only;rw[ih (pos+k) (some pos) acc (by omega) (by omega) (by intro a ha;injection ha with ha;omega)]
     simp only[Es,Fk];unfold Ee;simp only[Nat.add_sub_cancel_left]
    |some a=>
     simp only;rw[ih (pos+k) (some a) acc (by omega) (by omega) (by intro b hb;injection hb with hb;have:=h3 a rfl;omega)]
     simp only[Es];rw[Nr _ _ _ _ (Eg (h3 a rfl))]
  ·have hp:pos=s.size:=by omega
   subst hp;rw[Lib.spansFromP_end _ _ _ _ _ _ (by omega)]
   unfold Lib.closeSpans;rw[Fi (by omega)]
   cases st with
   |none=>simp[Es,VP]
   |some a=>
    have:=piece_ne s.data.toList a s.size (h3 a rfl) (by omega)
    simp[Es,VP,this]
theorem qA(s:ByteArray):(Lib.goFieldsP q s).map (λx=>x.data.toList)=VP q [] s.data.toList:=by
 unfold Lib.goFieldsP Lib.spansOfP;have h:=sI hq s s.size 0 none [] (by omega) (by omega) (by simp)
 simp only[List.map_nil,Fk,List.drop_zero,Es]at h;rw[<-h,List.map_map];refine List.map_congr_left λx _=>?_
 simp only[Function.comp];unfold Ee;rw[ByteArray.data_extract];simp
end Go.Proofs.YtdadkhcdoaeabaaGreatDoor
namespace Go.Proofs.YtdadkhcdoaeabaaGreatDoor
open Go.Av
open Rr.Pl (Pt Ad St Ch Bs Mv HT CF Has bV)
open Rr (E6 Ar)
open Rr.Pl (CA AW)
def YY(s:Bs):List Bs:=VP (λn=>decide (n=32)) [] s
def bC:List (Bs×Bs):=
 [([115,116,114,101,101,116],[115,116]),([115,116,114,46],[115,116]),([115,116,114],[115,116]),([115,116,46],[115,116]),
  ([114,111,97,100],[114,100]),([114,100,46],[114,100]),([97,118,101,110,117,101],[97,118,101]),([97,118,101,46],[97,118,101]),
  ([108,97,110,101],[108,110]),([108,110,46],[108,110]),([115,113,117,97,114,101],[115,113]),([115,113,46],[115,113])]
def Zbd(w:Bs):Option Bs:=(bC.find? λx=>decide (x.1=w)).map Prod.snd
def T6(l:List Bs):List Bs:=if 2<=l.length then (match Zbd (l.getD (l.length-1) [])with|some x=>l.set (l.length-1) x|none=>l)else l
def foldM(s:Bs):Bs:=Lib.join (T6 (YY (CF s))) [32]
structure Cd where
 s:Int
 n:Int
 c:Int
deriving DecidableEq
def Cd.v(c:Cd):AV:=.agg [.int .i64 c.s,.int .i64 c.n,.int .i64 c.c]
def Cd.p(c:Cd):Pt:=⟨c.s,c.n⟩
def Fg(s:Bs):Bool:=decide (200<s.length)
def Iu(s:St)(a:Ad):Option Int:=
 if (Fg a.st||Fg s.na)||s.al.any Fg then none
 else if !decide (a.co=[])&&(Fg a.co||Fg s.co)||!decide (a.tw=[])&&(Fg a.tw||Fg s.to)then none
 else some ((s.al.map λx=>CB (foldM a.st) (foldM x)).foldl min (CB (foldM a.st) (foldM s.na))+(if a.co=[]then 0 else CB a.co s.co)+(if a.tw=[]then 0 else CB (foldM a.tw) (foldM s.to)))
def MT(a:Ad)(Ak:Int)(i:Nat)(s:St):Option Cd:=
 if s.op&&decide (s.lo<=a.nu)&&decide (a.nu<=s.hi)then match Iu s a with
  |some c=>if c<=Ak then some ⟨i,a.nu-s.sh,c⟩else none
  |none=>none
 else none
def Ec(S:List St)(a:Ad)(Ak:Int):List Cd:=S.zipIdx.filterMap λx=>MT a Ak x.2 x.1
def Dt(S:List St)(A:List Ad)(Ak:Int):List Cd:=A.flatMap λa=>Ec S a Ak
def C9(Ak:Int)(L:List Cd):Int:=L.foldl (λm c=>min m c.c) (Ak+1)
def H7(Ak:Int)(L:List Cd):List Pt:=(L.filter λc=>decide (c.c=C9 Ak L)).map Cd.p
def ltP(p q:Pt):Bool:=decide (p.s<q.s)||(decide (p.s=q.s)&&decide (p.n<q.n))
def Sc(p:Pt):List Pt->List Pt
 |[]=>[p]
 |q::r=>if ltP p q then p::q::r else if p=q then q::r else q::Sc p r
def MM(l:List Pt):List Pt:=l.foldr Sc []
def Fv(l:List Pt):Prop:=l.Pairwise λp q=>ltP p q=true
theorem D9{p q:Pt}:ltP p q=true↔p.s<q.s\/(p.s=q.s/\p.n<q.n):=by unfold ltP;simp
theorem Xr{p q:Pt}(h1:p.s=q.s)(h2:p.n=q.n):p=q:=by cases p;cases q;simp_all
theorem XH{p x:Pt}:∀{l:List Pt},x∈Sc p l↔x=p\/x∈l
 |[]=>by simp[Sc]
 |q::r=>by
  unfold Sc;split;·simp
  ·split
   ·rename_i h;subst h;simp
   ·simp only[CL,XH (l:=r)];exact⟨λh=>by rcases h with h|h|h<;>simp[h],λh=>by rcases h with h|h|h<;>simp[h]⟩
theorem Td{p:Pt}:∀{l:List Pt},Fv l->Fv (Sc p l)
 |[],_=>List.pairwise_singleton ..
 |q::r,h=>by
  unfold Fv at h;rw[C2]at h;unfold Sc;split
  ·rename_i AP;refine C2.2 ⟨λx hx=>?_,C2.2 h⟩
   rcases CL.1 hx with rfl|hx;·exact AP
   ·have:=h.1 x hx;rw[D9]at *;omega
  ·split;·exact C2.2 h
   ·rename_i h1 h2;refine C2.2 ⟨λx hx=>?_,Td h.2⟩
    rcases XH.1 hx with rfl|hx
    ·rw[D9]at *;have:¬(x.s=q.s/\x.n=q.n):=λh=>h2 (Xr h.1 h.2)
     omega
    ·exact h.1 x hx
theorem Hu{x:Pt}:∀{l:List Pt},x∈MM l↔x∈l
 |[]=>by simp[MM]
 |p::l=>by
  show x∈Sc p (MM l)↔_
  rw[XH,Hu (l:=l),CL]
theorem H5:∀(l:List Pt),Fv (MM l)
 |[]=>List.Pairwise.nil
 |p::l=>Td (H5 l)
theorem LI:∀{a b:List Pt},Fv a->Fv b->(∀p,p∈a↔p∈b)->a=b
 |[],[],_,_,_=>rfl
 |[],q::r,_,_,h=>by have:=(h q).2 (by simp);cases this
 |p::l,[],_,_,h=>by have:=(h p).1 (by simp);cases this
 |p::l,q::r,ha,hb,h=>by
  unfold Fv at ha hb;rw[C2]at ha hb
  have hpq:p=q:=by
   have h1:=(h p).1 (by simp)
   have h2:=(h q).2 (by simp)
   rcases CL.1 h1 with h1|h1;·exact h1
   ·rcases CL.1 h2 with h2|h2;·exact h2.symm
    ·have k1:=D9.1 (hb.1 p h1);have k2:=D9.1 (ha.1 q h2);omega
  subst hpq;rw[LI ha.2 hb.2 λx=>?_]
  have hx:=h x;simp only[CL]at hx;constructor
  ·intro hm;rcases hx.1 (.inr hm)with rfl|h';·have:=D9.1 (ha.1 x hm);omega
   ·exact h'
  ·intro hm;rcases hx.2 (.inr hm)with rfl|h';·have:=D9.1 (hb.1 x hm);omega
   ·exact h'
theorem norm_eq{a b:List Pt}(h:∀p,p∈a↔p∈b):MM a=MM b:=
 LI (H5 a) (H5 b) λp=>by rw[Hu,Hu,h]
theorem least_le(Ak:Int)(L:List Cd):C9 Ak L<=Ak+1/\∀c∈L,C9 Ak L<=c.c:=by
 unfold C9;generalize Ak+1=m;induction L generalizing m with
 |nil=>simp
 |cons x L ih=>
  rw[GW];obtain⟨h1,h2⟩:=ih (min m x.c);refine⟨by omega,λc hc=>?_⟩
  rcases CL.1 hc with rfl|hc;·omega
  ·exact h2 c hc
theorem OP(Ak:Int)(L:List Cd):C9 Ak L=Ak+1\/∃c∈L,c.c=C9 Ak L:=by
 unfold C9;generalize Ak+1=m;induction L generalizing m with
 |nil=>simp
 |cons x L ih=>
  rw[GW];rcases ih (min m x.c)with h|⟨c,hc,h⟩
  ·rw[h];by_cases hx:m<=x.c;·left;omega
   ·right;exact⟨x,by simp,by omega⟩
  ·exact .inr ⟨c,by simp[hc],h⟩
theorem uO{Ak:Int}{L M:List Cd}(h:∀c,c∈L↔c∈M):C9 Ak L=C9 Ak M:=by
 obtain⟨h1,h2⟩:=least_le Ak L;obtain⟨k1,k2⟩:=least_le Ak M;rcases OP Ak L with e|⟨c,hc,e⟩<;>rcases OP Ak M with f|⟨d,hd,f⟩
 ·omega
 ·have:=h2 d ((h d).2 hd);omega
 ·have:=k2 c ((h c).1 hc);omega
 ·have:=h2 d ((h d).2 hd);have:=k2 c ((h c).1 hc);omega
theorem CK{Ak:Int}{L:List Cd}{p:Pt}:p∈H7 Ak L↔∃c∈L,c.c=C9 Ak L/\c.p=p:=by
 unfold H7;simp only[Cb,List.mem_filter,decide_eq_true_eq];exact⟨λ⟨c,⟨h1,h2⟩,h3⟩=>⟨c,h1,h2,h3⟩,λ⟨c,h1,h2,h3⟩=>⟨c,⟨h1,h2⟩,h3⟩⟩
theorem kL{Ak:Int}{L M:List Cd}(h:∀c,c∈L↔c∈M)(p:Pt):p∈H7 Ak L↔p∈H7 Ak M:=by
 rw[CK,CK,uO h];exact⟨λ⟨c,h1,h2⟩=>⟨c,(h c).1 h1,h2⟩,λ⟨c,h1,h2⟩=>⟨c,(h c).2 h1,h2⟩⟩
theorem ZH{S:List St}{a:Ad}{Ak:Int}{c:Cd}:c∈Ec S a Ak↔∃(i:Nat) (s:St),S[i]?=some s/\MT a Ak i s=some c:=by
 unfold Ec;rw[FY];constructor
 ·rintro⟨⟨s,i⟩,h1,h2⟩;exact⟨i,s,by rw[EI]at h1;simpa using h1,h2⟩
 ·rintro⟨i,s,h1,h2⟩;exact⟨(s,i),by rw[EI];simpa using h1,h2⟩
theorem bL{a:Ad}{Ak:Int}{i:Nat}{s:St}{c:Cd}:MT a Ak i s=some c↔s.op=true/\s.lo<=a.nu/\a.nu<=s.hi/\Iu s a=some c.c/\c.c<=Ak/\c.s=i/\c.n=a.nu-s.sh:=by
 unfold MT;split
 ·rename_i h;simp only[Gs,decide_eq_true_eq]at h;obtain⟨⟨h1,h2⟩,h3⟩:=h;split
  ·rename_i k hk;split
   ·rename_i hm;constructor
    ·intro e;cases e;exact⟨h1,h2,h3,hk,hm,rfl,rfl⟩
    ·rintro⟨_,_,_,e1,e2,e3,e4⟩;rw[hk]at e1;cases c;simp_all
   ·rename_i hm;constructor;·intro e;cases e
    ·rintro⟨_,_,_,e1,e2,_⟩;rw[hk]at e1;injection e1 with e1
     omega
  ·rename_i hk;constructor;·intro e;cases e
   ·rintro⟨_,_,_,e1,_⟩;rw[hk]at e1;cases e1
 ·rename_i h;simp only[Gs,decide_eq_true_eq]at h;constructor;·intro e;cases e
  ·rintro⟨h1,h2,h3,_⟩;exact absurd ⟨⟨h1,h2⟩,h3⟩ h
theorem LX{S:List St}{A:List Ad}{Ak:Int}{c:Cd}:c∈Dt S A Ak↔∃a∈A,c∈Ec S a Ak:=by unfold Dt;rw[Gt]
theorem fD{S:List St}{A:List Ad}{m n:Int}(hmn:m<=n)(h:Dt S A m≠[])(p:Pt):p∈H7 m (Dt S A m)↔p∈H7 n (Dt S A n):=by
 have sub:∀c,c∈Dt S A m↔c∈Dt S A n/\c.c<=m:=λc=>by
  simp only[LX,ZH,bL];constructor
  ·rintro⟨a,ha,i,s,h1,h2,h3,h4,h5,h6,h7⟩;exact⟨⟨a,ha,i,s,h1,h2,h3,h4,h5,by omega,h7⟩,h6⟩
  ·rintro⟨⟨a,ha,i,s,h1,h2,h3,h4,h5,h6,h7⟩,h8⟩;exact⟨a,ha,i,s,h1,h2,h3,h4,h5,h8,h7⟩
 obtain⟨x,hx⟩:=List.exists_mem_of_ne_nil _ h;obtain⟨h1,h2⟩:=least_le m (Dt S A m);obtain⟨k1,k2⟩:=least_le n (Dt S A n);have hxm:=(sub x).1 hx
 have e:C9 m (Dt S A m)=C9 n (Dt S A n):=by
  have a1:=h2 x hx;have a2:=k2 x hxm.1;rcases OP n (Dt S A n)with f|⟨d,hd,f⟩;·omega
  ·have a3:=h2 d ((sub d).2 ⟨hd,by omega⟩)
   rcases OP m (Dt S A m)with g|⟨c,hc,g⟩;·omega
   ·have a4:=k2 c ((sub c).1 hc).1;omega
 rw[CK,CK,e];have a2:=k2 x hxm.1;constructor
 ·rintro⟨c,hc,h3⟩;exact⟨c,((sub c).1 hc).1,h3⟩
 ·rintro⟨c,hc,h3,h4⟩;exact⟨c,(sub c).2 ⟨hc,by omega⟩,h3,h4⟩
def adR(a:Ff.Ad):Ad:=⟨a.pe,a.st,a.nu,a.co,a.to⟩
def readAll(F:List Ff.Fm)(ls:List Bs):List Ad:=F.flatMap λf=>if (Ff.Br f ls).2=0 then (Ff.Br f ls).1.map adR else []
def DA(r:List Ch)(day:Int)(A:List Ad):List Pt:=A.filterMap λa=>if (CA r day a).2=0 then some (CA r day a).1 else none
def Bw(r:List Ch)(day:Int)(A:List Ad)(Ak:Int):List Pt:=MM (if DA r day A=[]then H7 Ak (Dt (E6 r day) A Ak)else DA r day A)
structure Rs where
 k:Int
 ps:List Pt
 ch:List Pt
 re:Int
deriving DecidableEq
def Rs.v(x:Rs):AV:=.agg [.int .i64 x.k,Tv x.ps,Tv x.ch,.int .i64 x.re]
def ID(e:Int):Rs:=⟨3,[],[],e⟩
def IA(F:List Ff.Fm)(r:List Ch)(l:List Od)(day Ak:Int):Bool:=
 decide (8<F.length)||decide (day < -1000000)||decide (1000000<day)||decide (Ak<0)||decide (6<Ak)||F.any (λf=>!Ff.A1 f)||!Ar r||!B1 l
def Gr(l:List Pt):Pt:=l.getD (l.length-1) Mv
def Dv(r:List Ch)(l:List Od)(day:Int)(M:List Pt):Rs:=
 if M=[]then ID 80
 else if 1<M.length then ⟨2,M,[],81⟩
 else let c:=AN l day (M.headD Mv)
  if c.2≠0 then ID c.2
  else if (AW r day (Gr c.1)).2≠0 then ID 3
  else ⟨1,[Gr c.1],c.1,0⟩
def Ai(F:List Ff.Fm)(r:List Ch)(l:List Od)(day:Int)(ls:List Bs)(Ak:Int):Rs:=
 if IA F r l day Ak then ID 1
 else if readAll F ls=[]then ID 1
 else Dv r l day (Bw r day (readAll F ls) Ak)
theorem LY{r:List Ch}{day:Int}{A:List Ad}{p:Pt}:p∈DA r day A↔∃a∈A,CA r day a=(p,0):=by
 unfold DA;rw[FY];constructor
 ·rintro⟨a,ha,h⟩;split at h
  ·rename_i h0;injection h with h
   exact⟨a,ha,Prod.ext h h0⟩
  ·cases h
 ·rintro⟨a,ha,h⟩;exact⟨a,ha,by rw[h];rfl⟩
theorem Qh{r:List Ch}(hs:Ar r=true){day Ak:Int}{A:List Ad}{p:Pt}(h:p∈Bw r day A Ak):∃a∈A,∃s,Has (E6 r day) p s/\a.nu=p.n+s.sh:=by
 unfold Bw at h;rw[Hu]at h;split at h
 ·obtain⟨c,hc,_,rfl⟩:=CK.1 h;obtain⟨a,ha,hc⟩:=LX.1 hc;obtain⟨i,s,h1,h2⟩:=ZH.1 hc;obtain⟨h3,h4,h5,_,_,h6,h7⟩:=bL.1 h2;refine⟨a,ha,s,⟨by simp only[Cd.p,h6];omega,by simp only[Cd.p,h6];simpa using h1,h3,by simp only[Cd.p,h7];omega,by simp only[Cd.p,h7];omega⟩,by simp only[Cd.p,h7];omega⟩
 ·obtain⟨a,ha,h⟩:=LY.1 h;rw[Rr.Pl.aZ hs]at h;obtain⟨k,s,h1,h2,rfl⟩:=Rr.Pl.O9 h;obtain⟨m1,m2,m3,m4,m5⟩:=Rr.Pl.LZ.1 h2;exact⟨a,ha,s,⟨by simp only;omega,by simpa using h1,m1,by simp only;omega,by simp only;omega⟩,by simp only;omega⟩
theorem JQ(r:List Ch)(day Ak:Int)(A:List Ad):Fv (Bw r day A Ak):=H5 _
structure Good(F:List Ff.Fm)(r:List Ch)(l:List Od):Prop where
 f:∀f∈F,Ff.A1 f=true
 n:F.length<=8
 r:Ar r=true
 o:B1 l=true
def J3(F:List Ff.Fm)(day:Int)(ls:List Bs):Bool:=decide (day < -1000000)||decide (1000000<day)||decide (readAll F ls=[])
theorem Cv{F:List Ff.Fm}{r:List Ch}{l:List Od}(h:Good F r l)(day:Int)(ls:List Bs){Ak:Int}(h0:0<=Ak)(h6:Ak<=6):
  Ai F r l day ls Ak=if J3 F day ls then ID 1 else Dv r l day (Bw r day (readAll F ls) Ak):=by
 have hf:F.any (λf=>!Ff.A1 f)=false:=by
  rw[F0];intro f hf;simp[h.f f hf]
 unfold Ai IA J3;rw[decide_eq_false (by have:=h.n;omega:¬8<F.length),decide_eq_false (by omega:¬Ak<0),decide_eq_false (by omega:¬6<Ak),hf,h.r,h.o]
 by_cases h1:day < -1000000;·simp[h1]
 ·by_cases h2:1000000<day;·simp[h1,h2]
  ·by_cases h3:readAll F ls=[];·simp[h1,h2,h3]
   ·simp[h1,h2,h3]
theorem ZC{r:List Ch}(h:Ar r=true)(day:Int)(p:Pt):(AW r day p).2=0\/AW r day p=(HT,3):=by
 rw[Rr.Pl.TP h];exact Rr.Pl.uD _ _
theorem H8{r:List Ch}(h:Ar r=true){day:Int}{p:Pt}{s:St}(hs:Has (E6 r day) p s):AW r day p=(bV s p,0):=by
 rw[Rr.Pl.TP h];exact Rr.Pl.ZB hs
theorem fP(i:List Pt)(q:Pt):Gr (i++[q])=q:=by unfold Gr;simp
inductive qS(r:List Ch)(l:List Od)(day:Int)(M:List Pt):Rs->Prop where
 |none:M=[]->qS r l day M (ID 80)
 |E8:1<M.length->qS r l day M ⟨2,M,[],81⟩
 |LA (p:Pt) (e:Int):M=[p]->(e=70\/e=2)->AN l day p=([],e)->qS r l day M (ID e)
 |gone (p q:Pt) (i:List Pt):M=[p]->AN l day p=(i++[q],0)->AW r day q=(HT,3)->qS r l day M (ID 3)
 |found (p q:Pt) (i t:List Pt):M=[p]->AN l day p=(i++[q],0)->i++[q]=p::t->(i++[q]).length<=5->AN l day q=([q],0)->(AW r day q).2=0->qS r l day M ⟨1,[q],i++[q],0⟩
def ZcY(r:List Ch)(day:Int)(c:List Pt×Int):Rs:=if c.2≠0 then ID c.2 else if (AW r day (Gr c.1)).2≠0 then ID 3 else ⟨1,[Gr c.1],c.1,0⟩
theorem bD(r:List Ch)(l:List Od)(day:Int)(p:Pt):Dv r l day [p]=ZcY r day (AN l day p):=by
 unfold Dv;rw[if_neg (by simp),if_neg (by simp)]
 rfl
theorem F4{r:List Ch}(hs:Ar r=true){l:List Od}(hl:B1 l=true)(day:Int)(M:List Pt):qS r l day M (Dv r l day M):=by
 match M with
 |[]=>exact .none rfl
 |p::q::t=>
  have:Dv r l day (p::q::t)=⟨2,p::q::t,[],81⟩:=by
   unfold Dv;rw[if_neg (by simp),if_pos (by simp)]
  rw[this];exact .E8 (by simp)
 |[p]=>
  rw[bD];rcases gV hl day p with h|h|h
  ·obtain⟨i,q,⟨t,k1⟩,k2,k3,k4⟩:=pV h;have hf:AN l day p=(i++[q],0):=Prod.ext k3 h;rw[hf];unfold ZcY;rw[if_neg (by simp)]
   simp only;rw[fP];rcases ZC hs day q with hn|hn
   ·rw[if_neg (by rw[hn];simp)]
    exact .found p q i t rfl hf (by rw[<-k3,k1]) (by rw[<-k3];exact k2) k4 hn
   ·rw[if_pos (by rw[hn];simp)]
    exact .gone p q i rfl hf hn
  ·rw[h];exact .LA p 70 rfl (.inl rfl) h
  ·rw[h];exact .LA p 2 rfl (.inr rfl) h
theorem Rc{r:List Ch}{day m n:Int}{A:List Ad}(hmn:m<=n):Bw r day A m=[]\/Bw r day A m=Bw r day A n:=by
 unfold Bw;split
 ·rename_i h;by_cases hL:Dt (E6 r day) A m=[]
  ·left;rw[hL];rfl
  ·right;exact norm_eq λp=>fD hmn hL p
 ·exact .inr rfl
theorem fK{r:List Ch}{day m n:Int}{A:List Ad}(hmn:m<=n)(h:Bw r day A n=[]):Bw r day A m=[]:=by
 rcases Rc (r:=r) (day:=day) (A:=A) hmn with e|e;·exact e
 ·rw[e];exact h
theorem wM{r:List Ch}{day:Int}{A B:List Ad}(h:∀a,a∈A↔a∈B)(p:Pt):p∈DA r day A↔p∈DA r day B:=by
 rw[LY,LY];exact⟨λ⟨a,h1,h2⟩=>⟨a,(h a).1 h1,h2⟩,λ⟨a,h1,h2⟩=>⟨a,(h a).2 h1,h2⟩⟩
theorem XC{α:Type}{A B:List α}(h:∀a,a∈A↔a∈B):A=[]↔B=[]:=by
 constructor
 ·rintro rfl;exact El.2 λb hb=>by have:=(h b).2 hb;cases this
 ·rintro rfl;exact El.2 λb hb=>by have:=(h b).1 hb;cases this
theorem uL{r:List Ch}{day Ak:Int}{A B:List Ad}(h:∀a,a∈A↔a∈B):Bw r day A Ak=Bw r day B Ak:=by
 unfold Bw;have he:=wM (r:=r) (day:=day) h;by_cases h0:DA r day A=[]
 ·rw[if_pos h0,if_pos ((XC he).1 h0)];refine norm_eq λp=>kL (λc=>?_) p
  rw[LX,LX];exact⟨λ⟨a,h1,h2⟩=>⟨a,(h a).1 h1,h2⟩,λ⟨a,h1,h2⟩=>⟨a,(h a).2 h1,h2⟩⟩
 ·rw[if_neg h0,if_neg λh1=>h0 ((XC he).2 h1)]
  exact norm_eq he
theorem Ia{F:List Ff.Fm}{ls:List Bs}{a:Ad}:a∈readAll F ls↔∃f∈F,(Ff.Br f ls).2=0/\∃b∈(Ff.Br f ls).1,adR b=a:=by
 unfold readAll;rw[Gt];constructor
 ·rintro⟨f,hf,h⟩;split at h
  ·rename_i h0;obtain⟨b,hb,e⟩:=Cb.1 h;exact⟨f,hf,h0,b,hb,e⟩
  ·cases h
 ·rintro⟨f,hf,h0,b,hb,e⟩;exact⟨f,hf,by rw[if_pos h0];exact Cb.2 ⟨b,hb,e⟩⟩
theorem RU{F G:List Ff.Fm}(h:∀f,f∈F↔f∈G){r:List Ch}{l:List Od}(hF:Good F r l)(hG:Good G r l)(day:Int)(ls:List Bs){Ak:Int}(h0:0<=Ak)(h6:Ak<=6):
  Ai F r l day ls Ak=Ai G r l day ls Ak:=by
 have ha:∀a,a∈readAll F ls↔a∈readAll G ls:=λa=>by
  rw[Ia,Ia];exact⟨λ⟨f,h1,h2⟩=>⟨f,(h f).1 h1,h2⟩,λ⟨f,h1,h2⟩=>⟨f,(h f).2 h1,h2⟩⟩
 have hb:J3 F day ls=J3 G day ls:=by
  unfold J3;have:=XC ha;by_cases h1:readAll F ls=[];·rw[decide_eq_true h1,decide_eq_true (this.1 h1)]
  ·rw[decide_eq_false h1,decide_eq_false λh2=>h1 (this.2 h2)]
 rw[Cv hF day ls h0 h6,Cv hG day ls h0 h6,hb,uL ha]
theorem uK{r:List Ch}{day Ak:Int}{A:List Ad}{a:Ad}{p:Pt}(ha:a∈A)(h:CA r day a=(p,0)):p∈Bw r day A Ak:=by
 have he:p∈DA r day A:=LY.2 ⟨a,ha,h⟩;unfold Bw;rw[if_neg (λh0=>by rw[h0]at he;cases he),Hu]
 exact he
theorem aX{r:List Ch}(h:Ar r=true){day:Int}{p:Pt}{s:St}(hs:Has (E6 r day) p s){t:Bs}(ht:Rr.Pl.Be s t=true){pe tw:Bs}:CA r day ⟨pe,t,p.n+s.sh,s.co,tw⟩=(p,0):=by
 rw[Rr.Pl.aZ h];exact Rr.Pl.wK (Rr.Pl.Zbp h day) hs ht
theorem dW{F:List Ff.Fm}{r:List Ch}{l:List Od}(h:Good F r l){day:Int}(hd:-1000000<=day)(X1:day<=1000000){ls:List Bs}{Ak:Int}(h0:0<=Ak)(h6:Ak<=6){a:Ad}{p:Pt}(ha:a∈readAll F ls)(hf:CA r day a=(p,0)):
  ∃M,p∈M/\(∀q∈M,(AW r day q).2=0)/\Ai F r l day ls Ak=Dv r l day M:=by
 refine⟨Bw r day (readAll F ls) Ak,uK ha hf,λq hq=>?_,?_⟩
 ·obtain⟨_,_,s,hs,_⟩:=Qh h.r hq;rw[H8 h.r hs]
 ·rw[Cv h day ls h0 h6,if_neg];unfold J3;have:readAll F ls≠[]:=λe=>by rw[e]at ha;cases ha
  simp[this];omega
end Go.Proofs.YtdadkhcdoaeabaaGreatDoor
namespace Go.Proofs.YtdadkhcdoaeabaaGreatDoor
open Go.Av Go.Shelf Go.RowKit
open Rr.Pl (Pt Ad St Ch Bs Mv HT)
theorem OW(p:Pt):AO Tryz.prog 78 [p.v] (λr=>r=.bool (ptB p)):=by
 refine kB Tryz.func78 rfl ?_;repeat' (first|(refine Cg (λ_=>?_) (λ_=>?_)<;>conv=>whnf)|refine Dd ?_|fail)
 all_goals (refine congrArg AV.bool ?_;rw[Fl];simp_all[ptB]<;>omega)
theorem Nq(p q:Pt):decide (p=q)=(decide (p.s=q.s)&&decide (p.n=q.n)):=by
 cases p;cases q
 rw[Fl];simp
theorem XB(l:List Od)(k:Nat)(h:k<l.length):(l.map Od.v)[k]?=some l[k].v:=by simp[h]
theorem bS{α:Type}{p:α->Bool}{l:List α}{k:Nat}(h:k<l.length)(ha:(l.take k).all p=true)(hk:p l[k]=true):(l.take (k+1)).all p=true:=by
 rw[A0 h,List.all_append,ha];simp[hk]
theorem xO{α:Type}{p:α->Bool}{l:List α}{k:Nat}(h:k<l.length)(hk:p l[k]=false):l.all p=false:=List.all_eq_false.2 ⟨l[k],CM h,by simp[hk]⟩
theorem KN(l:List Od):AO Tryz.prog 48 [Hr l] (λr=>r=.bool (B1 l)):=by
 refine kB Tryz.func48 rfl ?_;have cH:(l.map Od.v).length=l.length:=by simp
 refine⟨λh0=>?_,λh0=>?_⟩
 ·refine kW ?_;exact congrArg AV.bool (by unfold B1;rw[decide_eq_false (by simp at h0;omega)];rfl)
 ·have h0:l.length<=40:=by simp at h0;omega
  refine kW ?_;refine Aa.Aw (λk:Nat=>mk 47 [(0,Hr l),(2,.lit false),(8,Hr l),(9,.int .i64 (l.map Od.v).length),(10,.int .i64 k)]) (λ_=>[]) (λk=>k<=l.length/\(l.take k).all tX=true) (λk=>l.length-k) (λ_ _=>⟨rfl,trivial⟩) ⟨0,?_⟩ (λ_=>rfl) λk hk=>?_
  ·refine kQ ?_;first|exact⟨BY _,rfl⟩|exact rfl
  ·obtain⟨hk,ha⟩:=hk;refine kR ?_;refine⟨λh=>?_,λh=>?_⟩
   ·have h:k<l.length:=by simp at h;omega
    have A7:=D4 k (by omega)
    refine kW ?_;refine⟨by omega,_,XB l k h,?_⟩
    refine kW ?_;repeat' (first|(refine Cg (λ_=>?_) (λ_=>?_)<;>conv=>whnf)|(refine kC (OW (l[k]).fr) ?_)|(refine kC (OW (l[k]).tt) ?_)|refine Dd ?_|fail)
    all_goals first
     |(refine congrArg AV.bool ?_
       have hn:tX l[k]=false:=by unfold tX;rw[Nq];simp_all<;>intros<;>omega
       unfold B1
       rw[xO h hn,Hz])
     |(have hy:tX l[k]=true:=by unfold tX;rw[Nq];simp_all<;>omega
       refine⟨k+1,?_⟩
       refine CV A7 ?_
       exact⟨⟨by omega,bS h ha hy⟩,by omega⟩)
   ·have h:k=l.length:=by simp at h;omega
    rw[h,C0]at ha;refine kW ?_;exact congrArg AV.bool (by unfold B1;rw[ha,decide_eq_true h0];rfl)
theorem oF{l:List Od}{day:Int}{p:Pt}{k:Nat}(h:k<l.length)(hn:∀j (hj:j<l.length),j<k->VF p day l[j]=false)(hh:VF p day l[k]=true):GJ l day p=some l[k].tt:=by
 unfold GJ;rw[List.find?_eq_some_iff_getElem.2 ⟨hh,k,h,rfl,λj hj=>by rw[hn j (by omega) hj];rfl⟩]
 rfl
theorem uB{l:List Od}{day:Int}{p:Pt}(hn:∀j (hj:j<l.length),VF p day l[j]=false):GJ l day p=none:=by
 unfold GJ;rw[List.find?_eq_none.2 λx hx=>by obtain⟨i,hi,rfl⟩:=FX hx;rw[hn i hi];decide]
 rfl
theorem oE(l:List Od)(day:Int)(p:Pt)(hl:l.length<=40):AO Tryz.prog 80 [Hr l,.int .i64 day,p.v] (λr=>r=.tuple [((GJ l day p).getD p).v,.bool (GJ l day p).isSome]):=by
 refine kB Tryz.func80 rfl ?_;have cH:(l.map Od.v).length=l.length:=by simp
 refine Aa.Aw (λk:Nat=>mk 36 [(0,Hr l),(1,.int .i64 day),(2,p.v),(5,.ptr 0 0),(6,.ptr 1 0),(7,.lit false),(10,Hr l),(11,.int .i64 (l.map Od.v).length),(12,.int .i64 k)]) (λ_=>[.cells [.int .i64 p.s,.int .i64 p.n],.cells [.int .i64 0,.int .i64 0]]) (λk=>k<=l.length/\∀j (hj:j<l.length),j<k->VF p day l[j]=false) (λk=>l.length-k) (λ_ _=>⟨rfl,rfl,rfl,trivial⟩) ⟨0,?_⟩ (λ_=>rfl) λk hk=>?_
 ·refine kQ ?_;first|exact⟨BY _,λj hj hn=>absurd hn (GZ _)⟩|exact λj hj hn=>absurd hn (GZ _)
 ·obtain⟨hk,ha⟩:=hk;refine kR ?_;refine⟨λh=>?_,λh=>?_⟩
  ·have h:k<l.length:=by simp at h;omega
   have A7:=D4 k (by omega)
   refine kW ?_;refine⟨by omega,_,XB l k h,?_⟩
   refine kW ?_
   have no:VF p day l[k]=false->∀j (hj:j<l.length),j<k+1->VF p day l[j]=false:=λh3 j hj O1=>by
    rcases Nat.lt_or_ge j k with h4|h4;·exact ha j hj h4
    ·obtain rfl:j=k:=by omega
     exact h3
   repeat' (first|(refine Cg (λ_=>?_) (λ_=>?_)<;>conv=>whnf)|refine Dd ?_|fail)
   ·have hh:VF p day l[k]=true:=by unfold VF;rw[Nq];simp_all
    rw[oF h ha hh];rfl
   all_goals (
    refine⟨k+1,?_⟩;refine CV A7 ?_;refine⟨⟨by omega,no ?_⟩,by omega⟩
    unfold VF;rw[Nq];simp_all<;>intros<;>omega)
  ·have h:k=l.length:=by simp at h;omega
   refine kW ?_;rw[uB λj hj=>ha j hj (by omega)]
   rfl
theorem EA(l:List Pt)(k:Nat)(h:k<l.length):(l.map Pt.v)[k]?=some l[k].v:=by simp[h]
theorem QW(p:Pt):AO Tryz.prog 61 [p.v] (λr=>r=.bool (ptB p)):=by
 refine kB Tryz.func61 rfl ?_;repeat' (first|(refine Cg (λ_=>?_) (λ_=>?_)<;>conv=>whnf)|refine Dd ?_|fail)
 all_goals (refine congrArg AV.bool ?_;rw[Fl];simp_all[ptB]<;>omega)
theorem Ob(l:List Od)(hl:l.length<=100000):AO Tryz.prog 34 [Hr l] (λr=>r=.bool (B1 l)):=by
 refine kB Tryz.func34 rfl ?_;have cH:(l.map Od.v).length=l.length:=by simp
 refine Aa.Aw (λk:Nat=>mk 71 [(0,Hr l),(2,.lit false),(3,.int .i64 k)]) (λ_=>[]) (λk=>k<=l.length/\(l.take k).all tX=true) (λk=>l.length-k) (λ_ _=>⟨rfl,trivial⟩) ⟨0,?_⟩ (λ_=>rfl) λk hk=>?_
 ·refine kQ ?_;first|exact⟨BY _,rfl⟩|exact rfl
 ·obtain⟨hk,ha⟩:=hk;refine kR ?_;refine⟨λh=>?_,λh=>?_⟩
  ·have h:k<l.length:=by simp at h;omega
   have A7:=D4 k (by omega)
   refine kW ?_;refine Aa.draw [] Ag mO (by kernel_rfl) ?_
   conv=>whnf
   repeat' (first|(refine⟨by omega,_,XB l k h,?_⟩;conv=>whnf)|(refine⟨_,⟨QW (l[k]).fr,rfl⟩,?_⟩;conv=>whnf)|(refine⟨_,⟨QW (l[k]).tt,rfl⟩,?_⟩;conv=>whnf)|(refine Cg (λ_=>?_) (λ_=>?_)<;>conv=>whnf)|(refine sT rfl ?_;conv=>whnf))
   all_goals first
    |(refine congrArg AV.bool ?_
      have hn:tX l[k]=false:=by unfold tX;rw[Nq];simp_all<;>intros<;>omega
      unfold B1
      rw[xO h hn,Hz])
    |(have hy:tX l[k]=true:=by unfold tX;rw[Nq];simp_all<;>omega
      refine⟨k+1,?_⟩
      refine CV A7 ?_
      exact⟨⟨by omega,bS h ha hy⟩,by omega⟩)
  ·have h:k=l.length:=by simp at h;omega
   rw[h,C0]at ha;refine kW ?_;unfold B1;rw[ha,Bool.and_true,cH];refine congrArg AV.bool (decide_eq_decide.2 ?_);omega
theorem Hm(a b:List Pt)(lF:a.length<=100000)(hlb:b.length<=100000):AO Tryz.prog 25 [Tv a,Tv b] (λr=>r=.bool (decide (a=b))):=by
 refine kB Tryz.func25 rfl ?_;have cH:(a.map Pt.v).length=a.length:=by simp
 have hlm:(b.map Pt.v).length=b.length:=by simp
 refine⟨λh0=>?_,λh0=>?_⟩
 ·refine kW ?_;exact congrArg AV.bool (decide_eq_false λe=>by subst e;simp at h0).symm
 ·have h0:a.length=b.length:=by simp at h0;omega
  refine kW ?_;refine Aa.Aw (λk:Nat=>mk 26 [(0,Tv a),(1,Tv b),(4,.lit false),(5,.int .i64 k)]) (λ_=>[]) (λk=>k<=a.length/\a.take k=b.take k) (λk=>a.length-k) (λ_ _=>⟨rfl,trivial⟩) ⟨0,?_⟩ (λ_=>rfl) λk hk=>?_
  ·refine kQ ?_;first|exact⟨BY _,rfl⟩|exact rfl
  ·obtain⟨hk,ha⟩:=hk;refine kR ?_;refine⟨λh=>?_,λh=>?_⟩
   ·have h:k<a.length:=by simp at h;omega
    have A7:=D4 k (by omega)
    refine kW ?_;refine Aa.draw [] Ag mO (by kernel_rfl) ?_
    conv=>whnf
    refine⟨by omega,_,EA a k h,?_⟩
    conv=>whnf
    refine⟨by omega,_,EA b k (by omega),?_⟩
    conv=>whnf
    have Bq:(a[k]=b[k]'(by omega))↔(a[k].s=(b[k]'(by omega)).s/\a[k].n=(b[k]'(by omega)).n):=by
     have:=Nq a[k] (b[k]'(by omega))
     constructor;·intro e;rw[e];exact⟨rfl,rfl⟩
     ·rintro⟨e1,e2⟩;rw[decide_eq_true e1,decide_eq_true e2]at this;exact of_decide_eq_true this
    refine⟨λh4=>?_,λh4=>?_⟩
    ·refine kW ?_;refine congrArg AV.bool (decide_eq_false λe=>?_).symm
     have e2:=Bq.1 (by subst e;rfl)
     simp[e2.1,e2.2]at h4
    ·refine kW ?_;refine⟨k+1,?_⟩;refine CV A7 ?_;refine⟨⟨h,?_⟩,by omega⟩
     rw[A0 h,A0 (by omega:k<b.length),ha,Bq.2 (by simp at h4;exact h4)]
   ·have h:k=a.length:=by simp at h;omega
    refine kW ?_;rw[h,C0,C4 (by omega)]at ha
    rw[ha];simp
end Go.Proofs.YtdadkhcdoaeabaaGreatDoor
namespace Go.Proofs.YtdadkhcdoaeabaaGreatDoor
open Go.Av Go.Shelf Go.RowKit
open Rr.Pl (Bs)
def ia(r:List Int):List AV:=r.map (AV.int .i64)
theorem FW(F:List HO):∀(l:List Int),Bo F (ia l)=true
 |[]=>rfl
 |x::l=>by
  show Bo F (AV.int .i64 x::ia l)=true
  unfold Bo;rw[FW F l];rfl
theorem Ug(r:List Int):(ia r).length=r.length:=by simp[ia]
theorem Zde(r:List Int)(j:Nat)(v:Int):I3 (ia r) j [AV.int .i64 v]=ia (r.set j v):=by simp[I3,ia]
theorem N5{r:List Int}{v:Int}{o:Nat}(ho:o+1<=r.length){K:List AV->Prop}(h:K (ia (r.set o v))):(match Nat.ble (o+[AV.int .i64 v].length) (ia r).length with|true=>Q1 (ia r) o [AV.int .i64 v] K|false=>False):=by
 rw[show Nat.ble (o+[AV.int .i64 v].length) (ia r).length=true from Nat.ble_eq_true_of_le (by rw[Ug];exact ho)]
 exact(Cs _ _ _ _).2 (by rw[Zde];exact h)
theorem vA{r:List Int}{j:Nat}(h:j<r.length):(ia r)[j]?=some (.int .i64 r[j]):=by simp[ia,h]
theorem L3{r:List Int}{o:Nat}(ho:o<r.length){K:AV->Prop}(h:K (.int .i64 r[o])):Kh (ia r) o λcs=>ldK Jt 3 cs K:=by
 refine(BF _ _ _).2 ?_
 have e:(ia r).drop o=AV.int .i64 r[o]::ia (r.drop (o+1)):=by
  unfold ia;rw[<-List.map_drop,DG ho];rfl
 rw[e];conv=>whnf
 exact h
theorem We(b:Bs):∀(a:Bs)(i:Nat)(r:List Int)(x:UInt8),JC b (a++[x]) i r=((i+a.length+1:Nat):Int)::DC x b (JC b a i r) ((i+a.length+1:Nat):Int)
 |[],i,r,x=>rfl
 |y::a,i,r,x=>by
  show JC b (a++[x]) (i+1) _=_
  rw[We b a (i+1) _ x];simp only[E2,JC];rw[show i+1+a.length+1=i+(a.length+1)+1 by omega]
theorem sW(n k:Nat)(h:k<n+1):(HP n)[k]?=some (k:Int):=by unfold HP;simp[h]
theorem N9(r:List Int)(k:Nat)(v:Int)(h:k<r.length):(r.set k v).take (k+1)=r.take k++[v]:=by
 rw[A0 (by simpa using h),List.take_set_of_le (Bv _)]
 simp
theorem tk{l L:List Int}{n j:Nat}(h:l.take n=L)(hj:j<n)(hl:j<l.length)(hL:j<L.length):l[j]=L[j]:=by
 subst h;rw[C3]
structure Zhr(n k:Nat)(r:List Int):Prop where
 hk:k<=n+1
 hr:r.length=201
 eq:r.take k=(HP n).take k
structure ZkW(a b:Bs)(i:Nat)(r q:List Int):Prop where
 hi:i<=a.length
 hr:r.length=201
 hq:q.length=201
 eq:r.take (b.length+1)=JC b (a.take i) 0 (HP b.length)
structure Zhy(b:Bs)(R R':List Int)(j:Nat)(r q:List Int):Prop where
 hj:j<=b.length
 hr:r.length=201
 hq:q.length=201
 before:q.take (b.length+1)=R
 eq:r.take (j+1)=R'.take (j+1)
theorem Nz(x:Int)(l:List Int)(hl:l.length<=100000):AO Tryz.prog 218 [.int .i64 x,.sl 1 (ia l)] (λr=>r=.int .i64 (l.foldl min x)):=by
 refine kB Tryz.func218 rfl ?_;refine Aa.Aw (λs:Nat=>mk 18 [(0,.int .i64 ((l.take s).foldl min x)),(1,.sl 1 (ia l)),(7,.sl 1 (ia l)),(8,.int .i64 (ia l).length),(9,.int .i64 s)]) (λ_=>[]) (λs=>s<=l.length) (λs=>l.length-s) (λ_ _=>⟨rfl,trivial⟩) ⟨0,?_⟩ (λ_=>rfl) λk hk=>?_
 ·refine kQ ?_;exact BY _
 ·have cH:=Ug l;refine kR ?_;refine⟨λh=>?_,λh=>?_⟩
  ·have h:k<l.length:=by simp at h;omega
   have A7:=D4 k (by omega)
   refine kR ?_;refine⟨by omega,_,vA h,?_⟩
   refine kW ?_;refine⟨k+1,?_⟩;conv=>whnf
   repeat(refine Cg ?_ ?_;(focus (first|rfl|(simp;done)|(first|exact A7|(rw[A0 h,List.foldl_append];rfl);done)));conv=>whnf)
   exact⟨h,by omega⟩
  ·have h:k=l.length:=by simp at h;omega
   rw[h,C0];exact kRe
set_option maxHeartbeats 1000000 in
theorem Ey(a b:Bs):AO Tryz.prog 217 [.str a,.str b] (λr=>r=.int .i64 (CB a b)):=by
 refine kB Tryz.func217 rfl ?_;repeat' (first|(refine Cg (λ_=>?_) (λ_=>?_)<;>conv=>whnf)|refine Dd ?_|fail)
 ·rename_i ha hb;exact congrArg (AV.int .i64) (by unfold CB;rw[if_pos (.inr (by simp at hb;omega))])
 ·rename_i ha hb;have ha:a.length<=200:=by simp at ha;omega
  have hb:b.length<=200:=by simp at hb;omega
  have hw0:Wr .i64 ((b.length:Int)+1)=((b.length+1:Nat):Int):=by rw[Em (by omega)];rfl
  rw[hw0];clear hw0;refine Aa.Aw (λs:Nat×List Int=>mk 78 [(0,.str a),(1,.str b),(5,.ptr 0 0),(6,.ptr 1 0),(21,.int .i64 (b.length+1:Nat)),(22,.int .i64 s.1)]) (λs=>[.cells (ia s.2),.cells (ia (D0 201 0))]) (λs=>Zhr b.length s.1 s.2) (λs=>b.length+1-s.1) (λk _=>⟨rfl,FW _ _,FW _ _,trivial⟩) ⟨(0,D0 201 0),?_⟩ (λ_=>rfl) λs hs=>?_
  ·refine kQ ?_;exact⟨BY _,rfl,rfl⟩
  ·obtain⟨hk,hr,ht⟩:=hs;generalize s.1=k at*;generalize s.2=r at*;have A7:=D4 k (by omega)
   refine kR ?_;refine⟨λh=>?_,λh=>?_⟩
   ·have h:k<b.length+1:=by simp at h;omega
    refine kR ?_;refine⟨⟨(show(0:Int)<=(k:Int) by omega),(show(k:Int)<201 by omega)⟩,?_⟩
    refine kW ?_;refine N5 (show 0+((k:Int)).toNat*1+1<=r.length by omega) ?_
    refine kW ?_;refine⟨(k+1,r.set k k),?_⟩;conv=>whnf
    repeat(refine Cg ?_ ?_;(focus (first|rfl|(simp;done)|(first|exact A7|(simp;done);done)));conv=>whnf)
    refine⟨⟨h,by simpa using hr,?_⟩,(show b.length+1-(k+1)<b.length+1-k by omega)⟩
    rw[N9 r k k (by omega),ht,List.take_add_one,sW b.length k h]
    rfl
   ·have h:k=b.length+1:=by simp at h;omega
    subst h;refine kR ?_;refine Aa.Aw (λs:Nat×List Int×List Int=>mk 78 [(0,.str a),(1,.str b),(5,.ptr 0 0),(6,.ptr 1 0),(30,.int .i64 a.length),(31,.int .i64 s.1)]) (λs=>[.cells (ia s.2.1),.cells (ia s.2.2)]) (λs=>ZkW a b s.1 s.2.1 s.2.2) (λs=>a.length-s.1) (λk _=>⟨rfl,FW _ _,FW _ _,trivial⟩) ⟨(0,r,D0 201 0),?_⟩ (λ_=>rfl) λs hs=>?_
    ·refine kQ ?_;exact⟨BY _,hr,rfl,by rw[ht];exact C4 (by rw[Hn];exact Bv _)⟩
    ·obtain⟨hi,hr,hq,ht⟩:=hs;generalize s.2.1=r at*;generalize s.2.2=q at*;generalize s.1=i at*;refine kR ?_;refine⟨λh=>?_,λh=>?_⟩
     ·have h:i<a.length:=by simp at h;omega
      have A7:=D4 i (by omega)
      refine kR ?_;refine Aa.Zbh (l1:=1) (l2:=0) (n:=201) (cs1:=ia q) (cs2:=ia r) (el:=3) _ _ _ (by kernel_rfl) ⟨rfl,rfl,rfl,rfl⟩ ⟨rfl,rfl,rfl,rfl⟩ ⟨rfl,rfl,rfl,rfl⟩ ⟨rfl,by kernel_rfl,by kernel_rfl,by kernel_rfl,by kernel_rfl,by kernel_rfl⟩ (by kernel_rfl) (by kernel_rfl) (by kernel_rfl) rfl rfl ⟨by decide,by decide,by decide⟩ ⟨Eu rfl,Eu rfl⟩ rfl rfl (by rw[Ug];exact hq) (by rw[Ug];exact hr) ?_
      refine kW ?_;refine⟨⟨by omega,by omega⟩,?_⟩
      refine kW ?_;refine N5 (show 0+(0:Int).toNat*1+1<=r.length by simp;omega) ?_
      refine kW ?_;have hRl:(JC b (a.take i) 0 (HP b.length)).length=b.length+1:=Og b _ _ _ (Hn _)
      have hRb:∀y∈JC b (a.take i) 0 (HP b.length),0<=y/\y<=400:=λy hy=>by
       have:=Oh b (a.take i) 0 (HP b.length) (Hn _) (by simpa using Tj b.length) y hy
       rw[BM]at this;omega
      have aB:JC b (a.take (i+1)) 0 (HP b.length)=((i+1:Nat):Int)::DC a[i] b (JC b (a.take i) 0 (HP b.length)) ((i+1:Nat):Int):=by
       rw[A0 h,We,BM,C1 (Eg h),Bh]
      have hNb:∀y∈JC b (a.take (i+1)) 0 (HP b.length),0<=y/\y<=400:=λy hy=>by
       have:=Oh b (a.take (i+1)) 0 (HP b.length) (Hn _) (by simpa using Tj b.length) y hy
       rw[BM]at this;omega
      have hNl:(JC b (a.take (i+1)) 0 (HP b.length)).length=b.length+1:=Og b _ _ _ (Hn _);have hNg:=λj (hj:j<b.length)=>YT a[i] b (JC b (a.take i) 0 (HP b.length)) ((i+1:Nat):Int) hRl j hj
      generalize hR:JC b (a.take i) 0 (HP b.length)=R at*;generalize hN:JC b (a.take (i+1)) 0 (HP b.length)=N at*;have hN0:N.take 1=[((i+1:Nat):Int)]:=by rw[aB];rfl
      refine Aa.Aw (λs:Nat×List Int=>mk 78 [(0,.str a),(1,.str b),(5,.ptr 0 0),(6,.ptr 1 0),(8,.int .i64 i),(30,.int .i64 a.length),(31,.int .i64 i),(41,.int .i64 b.length),(42,.int .i64 s.1)]) (λs=>[.cells (ia s.2),.cells (ia r)]) (λs=>Zhy b R N s.1 s.2 r) (λs=>b.length-s.1) (λk _=>⟨rfl,FW _ _,FW _ _,trivial⟩) ⟨(0,r.set 0 (i+1:Nat)),?_⟩ (λ_=>rfl) λs hs=>?_
      ·refine kQ ?_
       refine⟨(show [HO.cells (ia (r.set 0 (Wr .i64 ((i:Int)+1)))),HO.cells (ia r)]=_ by rw[A7]),⟨BY _,by simpa using hr,hr,ht,by rw[N9 r 0 _ (by omega),hN0];rfl⟩⟩
      ·obtain⟨hj,gD,_,Zg2,heq⟩:=hs
       generalize s.2=q2 at*
       generalize s.1=j at*
       have E5:=D4 j (by omega)
       refine kR ?_
       refine⟨λh3=>?_,λh3=>?_⟩
       ·have h3:j<b.length:=by simp at h3;omega
        refine kR ?_
        refine⟨⟨(show(0:Int)<=(j:Int) by omega),(show(j:Int)<201 by omega)⟩,?_⟩
        refine kW ?_
        refine L3 (show 0+((j:Int)).toNat*1<r.length by omega) ?_
        refine kW ?_
        refine Aa.draw [] Ag mO (by kernel_rfl) ?_
        conv=>whnf
        refine⟨⟨by omega,(show(i:Int)<a.length by omega)⟩,?_⟩
        conv=>whnf
        refine⟨⟨by omega,(show(j:Int)<b.length by omega)⟩,?_⟩
        conv=>whnf
        have er0:r[0+(j:Int).toNat*1]'(by omega)=R[j]'(by omega):=by rw[tk ht (show 0+(j:Int).toNat*1<b.length+1 by omega) _ (by omega)];congr 1;omega
        have er1:r[0+((j+1:Nat):Int).toNat*1]'(by omega)=R[j+1]'(by omega):=by rw[tk ht (show 0+((j+1:Nat):Int).toNat*1<b.length+1 by omega) _ (by omega)];congr 1;omega
        have qD:q2[0+(j:Int).toNat*1]'(by omega)=N[j]'(by omega):=by
         rw[tk heq (show 0+(j:Int).toNat*1<j+1 by omega) _ (by rw[BM];omega),C3];congr 1;omega
        have b0:=hRb R[j] (CM (by omega))
        have b1:=hRb (R[j+1]'(by omega)) (CM (by omega))
        have b2:=hNb (N[j]'(by omega)) (CM (by omega))
        have hv0:Wr .i64 (R[j]+1)=R[j]+1:=Em (by omega)
        have hv1:Wr .i64 (R[j+1]'(by omega)+1)=R[j+1]'(by omega)+1:=Em (by omega)
        have hv2:Wr .i64 (N[j]'(by omega)+1)=N[j]'(by omega)+1:=Em (by omega)
        have hNj:N[j+1]'(by omega)=min (min (R[j]'(by omega)+OI a[i] b[j]) (R[j+1]'(by omega)+1)) (N[j]'(by omega)+1):=by
         have:=hNg j h3;simp only[<-aB]at this
         exact this
        have pH:decide ((((a.getD ((i:Int)).toNat 0).toNat:Nat):Int)=((b.getD ((j:Int)).toNat 0).toNat:Nat))=decide (((a[i]'(by omega)).toNat:Int)=(b[j]'(by omega)).toNat):=by
         rw[Ax,Ax,BI,BI,Bl h,Bl h3]
         rfl
        refine⟨λh4=>?_,λh4=>?_⟩
        ·have h4n:OI a[i] b[j]=1:=by
          unfold OI;rw[if_neg];rintro e;rw[pH]at h4
          simp[e]at h4
         rw[er0]
         refine kW ?_
         refine Aa.draw [15] Ag mO (by kernel_rfl) ?_
         conv=>whnf
         rw[E5]
         refine⟨⟨by omega,by omega⟩,?_⟩
         conv=>whnf
         refine L3 (show 0+((j+1:Nat):Int).toNat*1<r.length by omega) ?_
         conv=>whnf
         refine⟨⟨by omega,by omega⟩,?_⟩
         conv=>whnf
         refine L3 (show 0+(j:Int).toNat*1<q2.length by omega) ?_
         conv=>whnf
         refine⟨⟨rfl,by simp[closed]⟩,?_⟩
         conv=>whnf
         rw[er1,qD,hv0,hv1,hv2]
         refine⟨_,⟨Nz _ [R[j+1]+1,N[j]+1] (by simp),rfl⟩,?_⟩
         conv=>whnf
         refine⟨⟨by omega,by omega⟩,?_⟩
         conv=>whnf
         refine N5 (show 0+((j+1:Nat):Int).toNat*1+1<=q2.length by omega) ?_
         refine kW ?_
         have II:List.foldl min (R[j]+1) [R[j+1]'(by omega)+1,N[j]'(by omega)+1]=N[j+1]'(by omega):=by
          rw[hNj,h4n]
          rfl
         refine⟨(j+1,q2.set (j+1) (N[j+1]'(by omega))),?_⟩
         conv=>whnf
         repeat(refine Cg ?_ ?_;(focus (first|rfl|(simp;done)|(first|exact E5|(show HO.cells (ia (q2.set (0+((j+1:Nat):Int).toNat*1) _))=HO.cells (ia (q2.set (j+1) _));rw[II,show 0+((j+1:Nat):Int).toNat*1=j+1 by omega]);done)));conv=>whnf)
         refine⟨⟨h3,by simpa using gD,hr,Zg2,?_⟩,(show b.length-(j+1)<b.length-j by omega)⟩
         simp only
         rw[N9 q2 (j+1) _ (by omega),heq,A0 (by omega:j+1<N.length)]
        ·have h4n:OI a[i] b[j]=0:=by
          unfold OI;rw[if_pos];rw[pH]at h4;have h5:((a[i]'(by omega)).toNat:Int)=(b[j]'(by omega)).toNat:=by simpa using h4
          exact UInt8.toNat_inj.1 (by omega)
         rw[er0]
         refine kW ?_
         refine Aa.draw [15] Ag mO (by kernel_rfl) ?_
         conv=>whnf
         rw[E5]
         refine⟨⟨by omega,by omega⟩,?_⟩
         conv=>whnf
         refine L3 (show 0+((j+1:Nat):Int).toNat*1<r.length by omega) ?_
         conv=>whnf
         refine⟨⟨by omega,by omega⟩,?_⟩
         conv=>whnf
         refine L3 (show 0+(j:Int).toNat*1<q2.length by omega) ?_
         conv=>whnf
         refine⟨⟨rfl,by simp[closed]⟩,?_⟩
         conv=>whnf
         rw[er1,qD,hv1,hv2]
         refine⟨_,⟨Nz _ [R[j+1]+1,N[j]+1] (by simp),rfl⟩,?_⟩
         conv=>whnf
         refine⟨⟨by omega,by omega⟩,?_⟩
         conv=>whnf
         refine N5 (show 0+((j+1:Nat):Int).toNat*1+1<=q2.length by omega) ?_
         refine kW ?_
         have II:List.foldl min R[j] [R[j+1]'(by omega)+1,N[j]'(by omega)+1]=N[j+1]'(by omega):=by
          rw[hNj,h4n,Int.add_zero]
          rfl
         refine⟨(j+1,q2.set (j+1) (N[j+1]'(by omega))),?_⟩
         conv=>whnf
         repeat(refine Cg ?_ ?_;(focus (first|rfl|(simp;done)|(first|exact E5|(show HO.cells (ia (q2.set (0+((j+1:Nat):Int).toNat*1) _))=HO.cells (ia (q2.set (j+1) _));rw[II,show 0+((j+1:Nat):Int).toNat*1=j+1 by omega]);done)));conv=>whnf)
         refine⟨⟨h3,by simpa using gD,hr,Zg2,?_⟩,(show b.length-(j+1)<b.length-j by omega)⟩
         simp only
         rw[N9 q2 (j+1) _ (by omega),heq,A0 (by omega:j+1<N.length)]
       ·have h3:j=b.length:=by simp at h3;omega
        subst h3
        refine kR ?_
        refine⟨(i+1,q2,r),?_⟩
        refine CV A7 ?_
        refine⟨⟨h,gD,hr,?_⟩,(show a.length-(i+1)<a.length-i by omega)⟩
        simp only
        rw[heq,C4 (by omega),hN]
     ·have h:i=a.length:=by simp at h;omega
      subst h;rw[C0]at ht;refine kR ?_;refine⟨⟨by omega,(show(b.length:Int)<201 by omega)⟩,?_⟩
      refine kW ?_;refine L3 (show 0+(b.length:Int).toNat*1<r.length by omega) ?_
      refine kW ?_;refine congrArg (AV.int .i64) ?_;unfold CB;rw[if_neg (by omega),<-ht,BI,Bl (by rw[BM];omega),C3]
      simp only[E4];congr 1;omega
 ·rename_i ha;exact congrArg (AV.int .i64) (by unfold CB;rw[if_pos (.inl (by simp at ha;omega))])
end Go.Proofs.YtdadkhcdoaeabaaGreatDoor
namespace Go.Proofs.YtdadkhcdoaeabaaGreatDoor
open Go.Av Go.Shelf Go.RowKit
open Rr.Pl (Pt Ad St Ch Bs Mv HT CF CU)
def ZkN:AV:=.mp (bC.map λx=>.str x.1) (bC.map λx=>.str x.2)
theorem X9:AO Tryz.prog 242 [] (λr=>r=ZkN):=by
 refine kB Tryz.func242 rfl ?_;repeat(refine⟨by intro a ha;(repeat(rcases CL.1 ha with rfl|ha;(first|exact rfl|skip)))<;>first|rfl|(cases ha;done),?_⟩;(conv=>whnf))
 refine kR ?_;rfl
theorem gX(x:Nat)(hx:x<=1114111):AO Tryz.prog 241 [.int .i32 x] (λr=>r=.bool (decide (x=32))):=by
 refine kB Tryz.func241 rfl ?_;refine congrArg AV.bool (decide_eq_decide.2 ?_);omega
open Ff (strs)
theorem Sn(q:Nat->Bool):∀(l cur:Bs),∀w∈VP q cur l,w.length<=cur.length+l.length
 |[],cur,w,h=>by
  unfold VP at h;split at h;·simp at h
  ·rw[FZ]at h;subst h;exact GK _ _
 |c::r,cur,w,h=>by
  unfold VP at h;split at h
  ·split at h;·have:=Sn q r [] w h;simp at this⊢;omega
   ·rcases CL.1 h with rfl|h;·exact GK _ _
    ·have:=Sn q r [] w h;simp at this⊢;omega
  ·have:=Sn q r _ w h;simp at this⊢;omega
theorem jQ(l:Bs):∀w∈YY l,w.length<=l.length:=λw h=>by have:=Sn _ l [] w h;simpa using this
theorem LD(q:Nat->Bool):∀(l cur:Bs),(VP q cur l).length<=l.length+1
 |[],cur=>by unfold VP;split<;>simp
 |c::r,cur=>by
  unfold VP;split
  ·split;·have:=LD q r [];simp;omega
   ·have:=LD q r [];simp;omega
  ·have:=LD q r (cur++[c]);simp;omega
theorem mZ(l:Bs):(YY l).length<=l.length+1:=LD _ l []
theorem VZ(l:List Bs):(strs l).length=l.length:=by simp
theorem X5(s:Bs)(hs:s.length<=100000):xV Tryz.prog 81 [.str s,.fn 241 []] 9 1 (strs (YY s)):=by
 refine⟨by kernel_rfl,λa ha=>by obtain⟨x,_,rfl⟩:=Cb.1 ha;rfl,λC w vs AP hr=>?_⟩
 unfold Ab at hr;obtain⟨v1,_,rfl,h2,hr⟩:=hr;unfold Ab at hr;obtain⟨v2,_,rfl,h3,hr⟩:=hr;unfold Ab at hr;subst hr;unfold Ah at h2 h3;obtain⟨rfl,_⟩:=h2;obtain⟨us,rfl,hu⟩:=h3;have hj:=Tryz.strings_FieldsFunc_grows 241 us.toArray (enters_of Tryz.func241 (by kernel_rfl) rfl) (λn=>decide (n=32)) ⟨s.toArray⟩ w (by simp[ByteArray.size];omega) (I5 gX AP hu)
 have hw:(Lib.goFieldsP (λn=>decide (n=32)) ⟨s.toArray⟩).map (λx=>x.data.toList)=YY s:=qA (q:=λn=>decide (n=32)) (λn h=>decide_eq_false (by omega)) ⟨s.toArray⟩
 generalize Lib.goFieldsP (λn=>decide (n=32)) ⟨s.toArray⟩=L at hj hw
 have hlen:L.length=(YY s).length:=by rw[<-hw];simp
 refine hj.mono λe w' ⟨A,h3,h4,h5,h6⟩=>?_
 refine⟨_,h3,h6,?_⟩;rcases h5.2 with⟨h7,_⟩|⟨g,bK,cur,h7,h8,h9,h10,h11,h12,h13⟩;·cases h7
 ·injection h7 with h7 _ h7c
  injection h7 with h7;injection h7 with h7
  subst h7 h7c
  have BW:cur.toList=L.map Value.string:=by
   rw[<-h13,C4 (by simp;omega)]
  have fY:=VZ (YY s);refine .inr ⟨A,L.length,cur,by rw[fY,hlen],h8,⟨_,h9,.inl rfl⟩,by omega,by simp only[maxLen]at h11;omega,h12,?_,λv hv=>?_⟩
  ·have hf:flat (strs (YY s))=strs (YY s):=by
    unfold flat;induction YY s with
    |nil=>rfl
    |cons x l ih=>simpa[AV.cells]using ih
   rw[hf,fY,<-hlen,h13];refine(AH _).2 ⟨by rw[fY,Cr,hlen],λi hi Sg=>?_⟩
   have aF:i<(YY s).length:=by omega
   have hiL:i<L.length:=by omega
   have E5:(YY s)[i]=L[i].data.toList:=by
    have:=congrArg (·[i]?) hw;simp only[List.getElem?_map,Bl hiL,Bl aF,Option.map_some,G1.injEq]at this;exact this.symm
   have hlb:((YY s)[i]).length<=9223372036854775807:=by have:=jQ s _ (CM aF);omega
   simp only[List.getElem_map];unfold Ah;rw[E5]at hlb ⊢;exact⟨by simp,hlb⟩
  ·rw[BW]at hv;obtain⟨x,_,rfl⟩:=Cb.1 hv;rfl
theorem qE(w:Bs):∀a∈bC.map (λx=>AV.str x.1),JT (.str w) a=true:=by
 intro a ha;obtain⟨x,_,rfl⟩:=Cb.1 ha;rfl
theorem XR{W:List Bs}(h:W.length<=100001)(hw:∀y∈W,y.length<=100001):(Lib.join W [32]).length<=140737488355328:=by
 have:=Ff.OU [32] 100001 W hw;have e:100001+([32]:Bs).length=100002:=rfl;rw[e]at this;have:=Nat.mul_le_mul_right 100002 h;omega
theorem wP{w x:Bs}(h:Zbd w=some x):x.length<=100001:=by
 unfold Zbd at h;rw[Fj]at h;obtain⟨y,hy,rfl⟩:=h;have:=List.mem_of_find?_eq_some hy;unfold bC at this;simp only[CL,List.not_mem_nil,or_false]at this;rcases this with rfl|rfl|rfl|rfl|rfl|rfl|rfl|rfl|rfl|rfl|rfl|rfl<;>simp
theorem ZF(w:Bs):∀T:List (Bs×Bs),Qg (.str w) (T.map λx=>AV.str x.1) (T.map λx=>AV.str x.2)=((T.find? λx=>decide (x.1=w)).map Prod.snd).map AV.str
 |[]=>rfl
 |x::T=>by
  have ih:=ZF w T;unfold Qg at ih⊢;simp only[HQ,Qf,OS];by_cases h:x.1=w
  ·subst h;simp
  ·have h2:(w == x.1)=false:=by simpa using Ne.symm h
   rw[h2];simp only[List.find?_cons,decide_eq_false h];rw[<-ih];cases Qf (AV.str w) (T.map λx=>AV.str x.1)<;>simp
theorem ZG(w:Bs):Qg (.str w) (bC.map λx=>AV.str x.1) (bC.map λx=>AV.str x.2)=(Zbd w).map AV.str:=ZF w bC
theorem xQ{W:List Bs}(h:2<=W.length):(strs W)[0+((W.length:Int)-1).toNat]?=some (.str (W.getD (W.length-1) [])):=by
 rw[Bh,show((W.length:Int)-1).toNat=W.length-1 by omega]
 simp[BI,(by omega:W.length-1<W.length)]
abbrev byA(w:Bs):List AV:=w.map λb=>AV.int .u8 b.toNat
theorem iW(l:Bs):∀e∈byA l,closed e=true:=by
 intro e he;obtain⟨b,_,rfl⟩:=Cb.1 he;rfl
theorem Zbm{l:Bs}{k:Nat}{c:UInt8}(h:l[k]?=some c):(byA l)[k]?=some (.int .u8 c.toNat):=by simp[h]
def Ip(s:Bs)(k:Nat):Bs:=CF (s.take k)++s.drop k
theorem WS(s:Bs)(k:Nat):(Ip s k).length=s.length:=by unfold Ip CF;simp;omega
theorem WR(s:Bs)(k:Nat)(h:k<s.length):(Ip s k)[k]?=some s[k]:=by
 unfold Ip CF;rw[List.getElem?_append_right (by simp;omega)]
 simp[C1 (Eg h),h]
theorem WQ(s:Bs)(k:Nat)(h:k<s.length):(Ip s k).set k (CU s[k])=Ip s (k+1):=by
 unfold Ip CF;have e:(s.drop k).set 0 (CU s[k])=CU s[k]::s.drop (k+1):=by rw[DG h];rfl
 rw[Fy (h:=by simp;omega),A0 h,E1,Cr,BM,C1 (Eg h),Nat.sub_self,e]
 simp
theorem gW(s:Bs)(k:Nat)(h:k<s.length)(hc:CU s[k]=s[k]):Ip s (k+1)=Ip s k:=by
 rw[<-WQ s k h,hc];apply List.ext_getElem?;intro i;by_cases hi:k=i
 ·subst hi;rw[List.getElem?_set_self (by rw[WS];exact h),WR s k h]
 ·rw[List.getElem?_set_ne hi]
theorem Zbl(l:Bs)(k:Nat)(c:UInt8){n:Int}(h:n=c.toNat):(byA l).set k (.int .u8 n)=byA (l.set k c):=by subst h;simp
theorem Zat{c:UInt8}(h1:65<=c.toNat)(h2:c.toNat<=90):(CU c).toNat=c.toNat+32:=by
 unfold CU Rr.Pl.F6;rw[decide_eq_true h1,decide_eq_true h2];show(c+32).toNat=_
 rw[UInt8.toNat_add];show(c.toNat+32)%256=_
 omega
theorem Zc7{c:UInt8}(h:¬(65<=c.toNat/\c.toNat<=90)):CU c=c:=by
 unfold CU Rr.Pl.F6;rw[if_neg];simpa using h
theorem pW(s:Bs):Ip s s.length=CF s:=by unfold Ip;simp
theorem Dw(s:Bs)(hs:s.length<=100000):AO Tryz.prog 216 [.str s] (λr=>r=.str (foldM s)):=by
 refine AO.A3 Tryz.func216 rfl Ag (by kernel_rfl) ?_
 conv=>whnf
 iterate 3 (refine sT rfl ?_;conv=>whnf)
 refine Aa.ZcJ [1] Ag ?_;conv=>whnf
 refine kR ?_;refine Aa.Aw (λk:Nat=>mk 56 [(0,.str s),(2,.str []),(3,.own 0 1 0 s.length),(12,.own 0 1 0 s.length),(13,.int .i64 s.length),(14,.int .i64 k)]) (λk=>[.arr 5 1 (byA (Ip s k))]) (λk=>k<=s.length) (λk=>s.length-k) (λ_ _=>⟨rfl,iW _,trivial⟩) ⟨0,?_⟩ (λ_=>rfl) λk hk=>?_
 ·refine kQ ?_;first|exact BY _|exact⟨rfl,BY _⟩
 ·have KB:=WS s k;refine kR ?_;refine⟨λh=>?_,λh=>?_⟩
  ·have h:k<s.length:=by simp at h;omega
   have A7:=D4 k (by omega)
   have gk:(byA (Ip s k))[0+((k:Nat):Int).toNat]?=some (.int .u8 (s[k]'h).toNat):=by
    rw[Bh,Ax];exact Zbm (WR s k h)
   refine kW ?_;refine⟨by omega,?_⟩
   conv=>whnf
   refine⟨_,gk,?_⟩;refine kW ?_;repeat' (first|(refine Cg (λ_=>?_) (λ_=>?_)<;>conv=>whnf)|refine Dd ?_|fail)
   ·rename_i g1 g2;have g1:65<=(s[k]'h).toNat:=by simp at g1;omega
    have g2:(s[k]'h).toNat<=90:=by simp at g2;omega
    refine⟨by omega,?_⟩
    conv=>whnf
    refine⟨_,gk,?_⟩;refine kW ?_;refine⟨k+1,?_⟩;refine CV A7 ?_;refine⟨?_,h,by omega⟩
    refine congrArg (HO.arr _ 1) ?_;rw[Bh,Ax,<-WQ s k h,Zbl];rw[Zat g1 g2,xR (((s[k]'h).toNat:Int)-65) (by omega) (by omega),xR _ (by omega) (by omega)]
    omega
   all_goals
    rename_i g1;refine⟨k+1,?_⟩;refine CV A7 ?_;refine⟨?_,h,by omega⟩
    refine congrArg (HO.arr _ 1) ?_;rw[gW s k h (Zc7 (by simp at*;omega))]
  ·have h:k=s.length:=by simp at h;omega
   subst h;refine kW ?_;refine⟨by rw[Cr];omega,?_⟩
   conv=>whnf
   refine⟨Ip s s.length,⟨rfl,by omega⟩,?_⟩
   refine kW ?_;rw[pW]at KB ⊢;refine Aj.Zc0 (X5 (CF s) (by rw[KB];exact hs)) rfl ?_
   have hwl:(YY (CF s)).length<=100001:=by have:=mZ (CF s);omega
   have fY:=VZ (YY (CF s));refine kW ?_;have Zdj:∀y∈YY (CF s),y.length<=100001:=λy hy=>by have:=jQ _ y hy;omega
   generalize hWe:YY (CF s)=W at*;have hww:Wr .i64 ((strs W).length-1:Int)=(W.length:Int)-1:=by rw[fY,Em (by omega)]
   rw[hww];refine⟨λh2=>?_,λh2=>?_⟩
   ·have h2:2<=W.length:=by simp at h2;omega
    refine kW ?_;refine Aa.draw [] Ag mO (by kernel_rfl) ?_
    conv=>whnf
    refine⟨_,⟨X9,rfl⟩,?_⟩;conv=>whnf
    refine⟨by omega,?_⟩
    conv=>whnf
    refine⟨_,xQ h2,?_⟩;conv=>whnf
    refine⟨qE _,λhn=>?_,λv hv=>?_⟩
    ·rw[ZG]at hn;have hM:T6 W=W:=by unfold T6;rw[if_pos h2];split<;>simp_all
     refine kW ?_;refine Aj.freeze 1 ?_ (by kernel_rfl)
     conv=>whnf
     refine⟨(Ff.Cn _),?_⟩;conv=>whnf
     repeat(refine⟨(by first|rfl|(simp;done):(_:Nat)=_),?_⟩;conv=>whnf)
     refine cS (Ff.FV W (by omega) (XR hwl Zdj)) rfl ?_;refine kW ?_;unfold foldM;rw[hWe,hM]
    ·rw[ZG,Fj]at hv;obtain⟨x,hx,rfl⟩:=hv;have hM:T6 W=W.set (W.length-1) x:=by unfold T6;rw[if_pos h2,hx]
     refine kW ?_;refine⟨by omega,?_⟩
     conv=>whnf
     refine⟨_,xQ h2,?_⟩;conv=>whnf
     rw[Bh,show((W.length:Int)-1).toNat=W.length-1 by omega,show(strs W).set (W.length-1) (.str x)=strs (W.set (W.length-1) x) by simp[strs]]
     refine kR ?_;refine Aj.freeze 1 ?_ (by kernel_rfl)
     conv=>whnf
     refine⟨(Ff.Cn _),?_⟩;conv=>whnf
     repeat(refine⟨(by first|rfl|(simp;done):(_:Nat)=_),?_⟩;conv=>whnf)
     refine Aj.Dk (Ff.FV (W.set (W.length-1) x) (by rw[G2];omega) (XR (by rw[G2];exact hwl) λy hy=>by
      rcases List.mem_or_eq_of_mem_set hy with hy|rfl;·exact Zdj y hy
      ·exact wP hx)) rfl λr hr=>?_
     subst hr;refine kW ?_;unfold foldM;rw[hWe,hM]
   ·have h2:¬2<=W.length:=by simp at h2;omega
    have hM:T6 W=W:=by unfold T6;rw[if_neg h2]
    refine kW ?_;refine Aj.freeze 1 ?_ (by kernel_rfl)
    conv=>whnf
    refine⟨(Ff.Cn _),?_⟩;conv=>whnf
    repeat(refine⟨(by first|rfl|(simp;done):(_:Nat)=_),?_⟩;conv=>whnf)
    refine cS (Ff.FV W (by omega) (XR hwl Zdj)) rfl ?_;refine kW ?_;unfold foldM;rw[hWe,hM]
end Go.Proofs.YtdadkhcdoaeabaaGreatDoor
namespace Go.Proofs.YtdadkhcdoaeabaaGreatDoor
open Go.Av Go.Shelf Go.RowKit
open Rr.Pl (Pt Ad St Ch Bs Mv HT)
abbrev KH(l:List Cd):List AV:=l.map Cd.v
theorem AS(l:List Cd):∀x∈KH l,closed x=true:=by
 intro x hx;obtain⟨y,_,rfl⟩:=Cb.1 hx;rfl
def Js(l:List Cd)(es:List AV):Prop:=∃l',es=KH l'/\l'.Perm l
def IM:AV:=.fn 177 []
theorem swap_perm{l:List Cd}{i j:Nat}(hi:i<l.length)(hj:j<l.length):((l.set i l[j]).set j l[i]).Perm l:=by
 exact List.set_set_perm hi hj
theorem Dp(l:List Cd){e:Go.TypeId}{n:Nat}{v:Value}:Dl [.arr e 3 (KH l),.ghost [.own 0 3 0 n] [v] []] [.arr e 3 (KH l),.ghost [.own 0 3 0 n] [v] []] True:=⟨AS l,rfl,trivial⟩
theorem By{l:List Cd}{k:Nat}(h:k<l.length):(KH l)[k]?=some l[k].v:=by simp[h]
theorem Iv(l:List Cd)(k:Nat)(c:Cd):(KH l).set k (.agg [.int .i64 c.s,.int .i64 c.n,.int .i64 c.c])=KH (l.set k c):=by simp[Cd.v]
theorem CX(l:List Cd):(KH l).length=l.length:=by simp
structure PI(l:List Cd)(l':List Cd):Prop where
 perm:l'.Perm l
 len:l'.length=l.length
theorem PI.refl(l:List Cd):PI l l:=⟨.refl _,rfl⟩
theorem PI.swap{l l':List Cd}(h:PI l l'){i j:Nat}(hi:i<l'.length)(hj:j<l'.length):PI l ((l'.set i l'[j]).set j l'[i]):=⟨(swap_perm hi hj).trans h.perm,by simp[h.len]⟩
theorem ZV(m:Int):AO Tryz.prog 139 [.int .i64 m] (λr=>r=.bool false):=by
 refine kB Tryz.func139 rfl ?_;simp
def Yh(m n:Int):Int:=if m<n then -1 else if n<m then 1 else 0
theorem Lx(a b:Int):AO Tryz.prog 110 [.int .i64 a,.int .i64 b] (λr=>r=.int .i64 (Yh a b)):=by
 refine kB Tryz.func110 rfl ?_;repeat' (first|(refine Cg (λ_=>?_) (λ_=>?_)<;>conv=>whnf)|(refine kC (ZV _) ?_)|refine Dd ?_|fail)
 all_goals first|(rename_i h;cases h;done)|(refine congrArg (AV.int .i64) ?_;unfold Yh;simp_all;done)|(refine congrArg (AV.int .i64) ?_;unfold Yh;simp_all;omega)
theorem J1(a b:Cd):AO Tryz.prog 177 [a.v,b.v] (λr=>r=.int .i64 (Yh a.c b.c)):=by
 refine kB Tryz.func177 rfl ?_;exact kCe (Lx a.c b.c)
theorem Hf(l:List Cd)(a b n:Nat)(hl:l.length<=1000000)(ha:a+n<=l.length)(hb:b+n<=l.length):Ed Tryz.prog 259 [.own 0 3 0 l.length,.int .i64 a,.int .i64 b,.int .i64 n,IM] 199 3 (KH l)
  (λr es=>r=.tuple []/\Js l es):=by
 refine Ed.A3 Tryz.func259 rfl Ag (by kernel_rfl) (by simp) (λgv=>?_)
 conv=>whnf
 repeat(refine sT rfl ?_;conv=>whnf)
 refine Aa.Aw (λs:Nat×List Cd=>mk 38 [(0,.own 0 3 0 l.length),(1,.int .i64 a),(2,.int .i64 b),(3,.int .i64 n),(4,IM),(10,.int .i64 s.1)]) (λs=>[.arr 199 3 (KH s.2),.ghost [.own 0 3 0 l.length] [gv] []]) (λs=>s.1<=n/\PI l s.2) (λs=>n-s.1) (λs hs=>⟨rfl,Dp _⟩) ⟨(0,l),?_⟩ (λ_=>rfl) λs hk=>?_
 ·refine kQ ?_;first|exact⟨BY _,PI.refl l⟩|exact PI.refl l
 ·obtain⟨hk,hp⟩:=hk;generalize s.1=k at*;generalize s.2=l' at*;refine kR ?_;refine⟨λh=>?_,λh=>?_⟩
  ·have h:k<n:=by simp at h;omega
   have Bm:=hp.len;have yD:Wr .i64 ((a:Int)+k)=((a+k:Nat):Int):=by rw[Em (by omega)];rfl
   have hwb:Wr .i64 ((b:Int)+k)=((b+k:Nat):Int):=by rw[Em (by omega)];rfl
   have A7:=D4 k (by omega)
   refine kW ?_;refine Aa.Pe [21,23] Ag mO (by kernel_rfl) ?_
   conv=>whnf
   rw[hwb];refine⟨by omega,?_⟩
   conv=>whnf
   refine⟨_,by rw[Bh,Ax];exact By (by omega:b+k<l'.length),?_⟩
   conv=>whnf
   rw[yD];refine⟨by omega,?_⟩
   conv=>whnf
   refine⟨_,by rw[Bh,Ax];exact By (by omega:a+k<l'.length),?_⟩
   conv=>whnf
   refine⟨by omega,?_⟩
   conv=>whnf
   refine⟨_,by rw[Bh,Ax];exact By (by omega:a+k<l'.length),?_⟩
   conv=>whnf
   refine⟨by omega,?_⟩
   conv=>whnf
   rw[Bh,Bh,Ax,Ax,Iv];refine⟨_,By (l:=l'.set (a+k) l'[b+k]) (k:=b+k) (by simp;omega),?_⟩
   conv=>whnf
   rw[Iv];refine kR ?_;refine⟨(k+1,(l'.set (a+k) (l'[b+k]'(by omega))).set (b+k) (l'[a+k]'(by omega))),?_⟩
   refine CV A7 ?_;exact⟨⟨h,hp.swap (by omega) (by omega)⟩,(show n-(k+1)<n-k by omega)⟩
  ·refine kW ?_;refine⟨AS _,?_⟩;conv=>whnf
   exact⟨_,_,rfl,rfl,by simpa using hp.len,rfl,l',rfl,hp.perm⟩
theorem Lh(l:List Cd)(a b:Nat)(hl:l.length<=1000000)(ha:a<=b)(hb:b<=l.length):Ed Tryz.prog 243 [.own 0 3 0 l.length,.int .i64 a,.int .i64 b,IM] 199 3 (KH l)
  (λr es=>r=.tuple []/\Js l es):=by
 refine Ed.A3 Tryz.func243 rfl Ag (by kernel_rfl) (by simp) (λgv=>?_)
 conv=>whnf
 repeat(refine sT rfl ?_;conv=>whnf)
 have yD:=D4 a (by omega)
 rw[yD];refine Aa.Aw (λs:Nat×List Cd=>mk 53 [(0,.own 0 3 0 l.length),(1,.int .i64 a),(2,.int .i64 b),(3,IM),(8,.int .i64 s.1)]) (λs=>[.arr 199 3 (KH s.2),.ghost [.own 0 3 0 l.length] [gv] []]) (λs=>(a<s.1/\s.1<=b+1)/\PI l s.2) (λs=>b+1-s.1) (λs hs=>⟨rfl,Dp _⟩) ⟨(a+1,l),?_⟩ (λ_=>rfl) λs hk=>?_
 ·refine kQ ?_;exact⟨⟨Nat.lt_succ_self _,by simp only;omega⟩,PI.refl l⟩
 ·obtain⟨⟨vP,hk⟩,hp⟩:=hk;generalize s.1=k at*;generalize s.2=l' at*;refine kR ?_;refine⟨λh=>?_,λh=>?_⟩
  ·have h:k<b:=by simp at h;omega
   have A7:=D4 k (by omega)
   refine kW ?_;refine Aa.Aw (λs:Nat×List Cd=>mk 53 [(0,.own 0 3 0 l.length),(1,.int .i64 a),(2,.int .i64 b),(3,IM),(8,.int .i64 k),(9,.int .i64 s.1)]) (λs=>[.arr 199 3 (KH s.2),.ghost [.own 0 3 0 l.length] [gv] []]) (λs=>(a<=s.1/\s.1<=k)/\PI l s.2) (λs=>s.1) (λs hs=>⟨rfl,Dp _⟩) ⟨(k,l'),?_⟩ (λ_=>rfl) λs hj=>?_
   ·refine kQ ?_;exact⟨⟨by simp only;omega,Bv _⟩,hp⟩
   ·obtain⟨⟨hj0,hj⟩,hp⟩:=hj;generalize s.1=j at*;generalize s.2=l' at*;have Bm:=hp.len;refine kR ?_;refine Aa.draw [] Ag mO (by kernel_rfl) ?_
    conv=>whnf
    refine⟨λh3=>?_,λh3=>?_⟩
    ·have h3:a<j:=by simp at h3;omega
     have fW:Wr .i64 ((j:Int)-1)=((j-1:Nat):Int):=by rw[Em (by omega)];omega
     conv=>whnf
     refine⟨by omega,?_⟩
     conv=>whnf
     refine⟨_,by rw[Bh,Ax];exact By (by omega:j<l'.length),?_⟩
     conv=>whnf
     rw[fW];refine⟨by omega,?_⟩
     conv=>whnf
     refine⟨_,by rw[Bh,Ax];exact By (by omega:j-1<l'.length),?_⟩
     conv=>whnf
     refine⟨_,⟨J1 (l'[j]'(by omega)) (l'[j-1]'(by omega)),rfl⟩,?_⟩
     conv=>whnf
     refine⟨λh4=>?_,λh4=>?_⟩
     ·refine kW ?_;refine Aa.Pe [15,17] Ag mO (by kernel_rfl) ?_
      conv=>whnf
      rw[fW];refine⟨by omega,?_⟩
      conv=>whnf
      refine⟨_,by rw[Bh,Ax];exact By (by omega:j-1<l'.length),?_⟩
      conv=>whnf
      refine⟨by omega,?_⟩
      conv=>whnf
      refine⟨_,by rw[Bh,Ax];exact By (by omega:j<l'.length),?_⟩
      conv=>whnf
      refine⟨by omega,?_⟩
      conv=>whnf
      refine⟨_,by rw[Bh,Ax];exact By (by omega:j<l'.length),?_⟩
      conv=>whnf
      refine⟨by omega,?_⟩
      conv=>whnf
      rw[Bh,Bh,Ax,Ax,Iv];refine⟨_,By (l:=l'.set j (l'[j-1]'(by omega))) (k:=j-1) (by simp;omega),?_⟩
      conv=>whnf
      rw[Iv];refine kR ?_;refine⟨(j-1,(l'.set j (l'[j-1]'(by omega))).set (j-1) (l'[j]'(by omega))),?_⟩
      refine CV fW ?_;exact⟨⟨⟨by simp only;omega,by simp only;omega⟩,hp.swap (by omega) (by omega)⟩,(show j-1<j by omega)⟩
     ·refine kW ?_;refine⟨(k+1,l'),?_⟩;refine CV A7 ?_;exact⟨⟨⟨by simp only;omega,by simp only;omega⟩,hp⟩,(show b+1-(k+1)<b+1-k by omega)⟩
    ·refine kW ?_;refine⟨(k+1,l'),?_⟩;refine CV A7 ?_;exact⟨⟨⟨by simp only;omega,by simp only;omega⟩,hp⟩,(show b+1-(k+1)<b+1-k by omega)⟩
  ·refine kW ?_;refine⟨AS _,?_⟩;conv=>whnf
   exact⟨_,_,rfl,rfl,by simpa using hp.len,rfl,l',rfl,hp.perm⟩
theorem lR{i j:Nat}(h:i+j<=4000000):Wr .i64 (Wr .u64 (Wr .i64 ((i:Int)+j))/2)=(((i+j)/2:Nat):Int):=by
 have e2:Wr .u64 ((i:Int)+j)=(i:Int)+j:=by unfold Wr;simp[IntKind.wrap,HR,HB];omega
 rw[Pr ((i:Int)+j) (by omega) (by omega),e2,Em (by omega)]
 omega
theorem Zd(l:List Cd)(a m b:Nat)(hl:l.length<=1000000)(ha:a<m)(hm:m<b)(hb:b<=l.length):Ed Tryz.prog 256 [.own 0 3 0 l.length,.int .i64 a,.int .i64 m,.int .i64 b,IM] 199 3 (KH l)
  (λr es=>r=.tuple []/\Js l es):=by
 refine Ed.A3 Tryz.func256 rfl Ag (by kernel_rfl) (by simp) (λgv=>?_)
 conv=>whnf
 repeat(refine sT rfl ?_;conv=>whnf)
 have XV:Wr .i64 ((m:Int)-a)=((m-a:Nat):Int):=by rw[Em (by omega)];omega
 have fW:Wr .i64 ((b:Int)-m)=((b-m:Nat):Int):=by rw[Em (by omega)];omega
 rw[XV,fW];refine Aa.Aw (λs:Nat×Nat×List Cd=>mk 58 [(0,.own 0 3 0 l.length),(1,.int .i64 a),(2,.int .i64 m),(3,.int .i64 b),(4,IM),(10,.int .i64 s.1),(11,.int .i64 s.2.1)]) (λs=>[.arr 199 3 (KH s.2.2),.ghost [.own 0 3 0 l.length] [gv] []]) (λs=>((1<=s.1/\s.1<=m)/\1<=s.2.1/\m+s.2.1<=b)/\PI l s.2.2) (λs=>s.1+s.2.1) (λs hs=>⟨rfl,Dp _⟩) ⟨(m-a,b-m,l),?_⟩ (λ_=>rfl) λs hk=>?_
 ·refine kQ ?_;exact⟨⟨⟨by simp only;omega,by simp only;omega⟩,by simp only;omega,by simp only;omega⟩,PI.refl l⟩
 ·obtain⟨⟨⟨hi,Sg⟩,hj,gH⟩,hp⟩:=hk;generalize s.2.2=l' at*;generalize s.2.1=j at*;generalize s.1=i at*;have Bm:=hp.len;refine kR ?_;refine⟨λh=>?_,λh=>?_⟩
  ·have h:i≠j:=by simp at h;omega
   refine kW ?_;refine⟨λh2=>?_,λh2=>?_⟩
   ·have h2:j<i:=by simp at h2;omega
    have A7:Wr .i64 ((m:Int)-i)=((m-i:Nat):Int):=by rw[Em (by omega)];omega
    have E5:Wr .i64 ((i:Int)-j)=((i-j:Nat):Int):=by rw[Em (by omega)];omega
    refine kW ?_;rw[A7];have hs:=Hf l' (m-i) m j (by omega) (by omega) (by omega)
    rw[Bm]at hs;refine Aj.Lb hs rfl ⟨rfl,AS _,trivial⟩ ?_;rintro r es ⟨rfl,l2,rfl,KG⟩ hlen;refine kW ?_;refine⟨(i-j,j,l2),?_⟩;refine CV E5 ?_;exact⟨⟨⟨⟨by simp only;omega,by simp only;omega⟩,by simp only;omega,by simp only;omega⟩,KG.trans hp.perm,by simpa[Bm]using hlen⟩,(show i-j+j<i+j by omega)⟩
   ·have h2:i<j:=by simp at h2;omega
    have A7:Wr .i64 ((m:Int)-i)=((m-i:Nat):Int):=by rw[Em (by omega)];omega
    have E5:Wr .i64 ((j:Int)-i)=((j-i:Nat):Int):=by rw[Em (by omega)];omega
    have fX:Wr .i64 (Wr .i64 ((m:Int)+j)-i)=((m+j-i:Nat):Int):=by rw[Pr ((m:Int)+j) (by omega) (by omega),Em (by omega)];omega
    refine kW ?_;rw[A7,fX];have hs:=Hf l' (m-i) (m+j-i) i (by omega) (by omega) (by omega)
    rw[Bm]at hs;refine Aj.Lb hs rfl ⟨rfl,AS _,trivial⟩ ?_;rintro r es ⟨rfl,l2,rfl,KG⟩ hlen;refine kW ?_;refine⟨(i,j-i,l2),?_⟩;refine CV E5 ?_;exact⟨⟨⟨⟨by simp only;omega,by simp only;omega⟩,by simp only;omega,by simp only;omega⟩,KG.trans hp.perm,by simpa[Bm]using hlen⟩,(show i+(j-i)<i+j by omega)⟩
  ·have h:i=j:=by simp at h;omega
   have A7:Wr .i64 ((m:Int)-i)=((m-i:Nat):Int):=by rw[Em (by omega)];omega
   refine kW ?_;rw[A7];have hs:=Hf l' (m-i) m i (by omega) (by omega) (by omega)
   rw[Bm]at hs;refine Aj.Lb hs rfl ⟨rfl,AS _,trivial⟩ ?_;rintro r es ⟨rfl,l2,rfl,KG⟩ hlen;refine kW ?_;refine⟨AS _,?_⟩;conv=>whnf
   exact⟨_,_,rfl,rfl,by rw[hlen];simpa using Bm,rfl,l2,rfl,KG.trans hp.perm⟩
structure Zht(a m b Nw st r:Nat):Prop where
 le:st<=r
 lo:(Nw<m/\Nw+m<=st+b/\r<=Nw)\/(m<=Nw/\a<=st/\r<=m)
theorem TU:∀(n:Nat)(l:List Cd)(a m b:Nat)(hn:b-a<=n)(hl:l.length<=1000000)(ha:a<m)(hm:m<b)(hb:b<=l.length),Ed Tryz.prog 244 [.own 0 3 0 l.length,.int .i64 a,.int .i64 m,.int .i64 b,IM] 199 3 (KH l)
  (λr es=>r=.tuple []/\Js l es):=by
 intro n;induction n with
 |zero=>intro l a m b hn hl ha hm hb;omega
 |succ n ih=>
  intro l a m b hn hl ha hm hb;refine Ed.A3 Tryz.func244 rfl Ag (by kernel_rfl) (by simp) (λgv=>?_)
  conv=>whnf
  repeat(refine sT rfl ?_;conv=>whnf)
  have A7:Wr .i64 ((m:Int)-a)=((m-a:Nat):Int):=by rw[Em (by omega)];omega
  have E5:Wr .i64 ((b:Int)-m)=((b-m:Nat):Int):=by rw[Em (by omega)];omega
  rw[A7];refine⟨λh1=>?_,λh1=>?_⟩
  ·have h1:m-a=1:=by simp at h1;omega
   refine kW ?_;refine Aa.Aw (λs:Nat×Nat=>mk 220 [(0,.own 0 3 0 l.length),(1,.int .i64 a),(2,.int .i64 m),(3,.int .i64 b),(4,IM),(10,.int .i64 s.1),(11,.int .i64 s.2)]) (λs=>[.arr 199 3 (KH l),.ghost [.own 0 3 0 l.length] [gv] []]) (λs=>m<=s.1/\s.1<=s.2/\s.2<=b) (λs=>s.2-s.1) (λs hs=>⟨rfl,Dp _⟩) ⟨(m,b),?_⟩ (λ_=>rfl) λs hk=>?_
   ·refine kQ ?_;first|exact⟨Bv _,by simp only;omega,Bv _⟩|exact Bv _|exact⟨by simp only;omega,Bv _⟩|(simp only;omega)
   ·obtain⟨hi,PB,hj⟩:=hk;generalize s.1=i at*;generalize s.2=j at*;refine kR ?_;refine⟨λh3=>?_,λh3=>?_⟩
    ·have h3:i<j:=by simp at h3;omega
     conv=>whnf
     iterate 3 (refine sT rfl ?_;conv=>whnf)
     refine Aa.Xk [4] Ag ?_;conv=>whnf
     refine⟨⟨⟨rfl,rfl⟩,rfl⟩,?_⟩;conv=>whnf
     rw[lR (by omega)]
     refine kR ?_;have hwh:Wr .i64 ((((i+j)/2:Nat):Int)+1)=(((i+j)/2+1:Nat):Int):=by rw[Em (by omega)];rfl
     refine Aa.draw [] Ag mO (by kernel_rfl) ?_
     conv=>whnf
     refine⟨by omega,?_⟩
     conv=>whnf
     refine⟨_,by rw[Bh,Ax];exact By (by omega:(i+j)/2<l.length),?_⟩
     conv=>whnf
     refine⟨by omega,?_⟩
     conv=>whnf
     refine⟨_,by rw[Bh,Ax];exact By (by omega:a<l.length),?_⟩
     conv=>whnf
     refine⟨_,⟨J1 (l[(i+j)/2]'(by omega)) (l[a]'(by omega)),rfl⟩,?_⟩
     conv=>whnf
     refine⟨λh5=>?_,λh5=>?_⟩
     ·refine kW ?_;refine⟨((i+j)/2+1,j),?_⟩;refine CV hwh ?_;first|exact⟨⟨by simp only;omega,by simp only;omega,by simp only;omega⟩,(show j-((i+j)/2+1)<j-i by omega)⟩
     ·refine kW ?_;refine⟨(i,(i+j)/2),?_⟩;refine kQ ?_;first|exact⟨⟨by simp only;omega,by simp only;omega,by simp only;omega⟩,(show(i+j)/2-i<j-i by omega)⟩
    ·have h3:i=j:=by simp at h3;omega
     refine kW ?_;refine Aa.Aw (λs:Nat×List Cd=>mk 220 [(0,.own 0 3 0 l.length),(1,.int .i64 a),(2,.int .i64 m),(3,.int .i64 b),(4,IM),(10,.int .i64 i),(13,.int .i64 s.1)]) (λs=>[.arr 199 3 (KH s.2),.ghost [.own 0 3 0 l.length] [gv] []]) (λs=>(a<=s.1/\s.1<=i)/\PI l s.2) (λs=>i-s.1) (λs hs=>⟨rfl,Dp _⟩) ⟨(a,l),?_⟩ (λ_=>rfl) λs hk=>?_
     ·refine kQ ?_;exact⟨⟨Bv _,by simp only;omega⟩,PI.refl l⟩
     ·obtain⟨⟨vP,hk⟩,hp⟩:=hk;generalize s.1=k at*;generalize s.2=l' at*;have Bm:=hp.len;have XV:Wr .i64 ((i:Int)-1)=((i-1:Nat):Int):=by rw[Em (by omega)];omega
      refine kR ?_;rw[XV];refine⟨λh4=>?_,λh4=>?_⟩
      ·have h4:k<i-1:=by simp at h4;omega
       have hwk:=D4 k (by omega)
       refine kW ?_
       refine Aa.Pe [15,17] Ag mO (by kernel_rfl) ?_
       conv=>whnf
       rw[hwk]
       refine⟨by omega,?_⟩
       conv=>whnf
       refine⟨_,by rw[Bh,Ax];exact By (by omega:k+1<l'.length),?_⟩
       conv=>whnf
       refine⟨by omega,?_⟩
       conv=>whnf
       refine⟨_,by rw[Bh,Ax];exact By (by omega:k<l'.length),?_⟩
       conv=>whnf
       refine⟨by omega,?_⟩
       conv=>whnf
       refine⟨_,by rw[Bh,Ax];exact By (by omega:k<l'.length),?_⟩
       conv=>whnf
       refine⟨by omega,?_⟩
       conv=>whnf
       rw[Bh,Bh,Ax,Ax,Iv]
       refine⟨_,By (l:=l'.set (k) (l'[k+1]'(by omega))) (k:=k+1) (by simp;omega),?_⟩
       conv=>whnf
       rw[Iv]
       refine kR ?_
       refine⟨(k+1,(l'.set (k) (l'[k+1]'(by omega))).set (k+1) (l'[k]'(by omega))),?_⟩
       refine CV hwk ?_
       exact⟨⟨⟨by simp only;omega,by simp only;omega⟩,hp.swap (by omega) (by omega)⟩,(show i-(k+1)<i-k by omega)⟩
      ·refine kW ?_
       refine⟨AS _,?_⟩
       conv=>whnf
       exact⟨_,_,rfl,rfl,by simpa using Bm,rfl,l',rfl,hp.perm⟩
  ·have h1:m-a≠1:=by simp at h1;omega
   refine kW ?_;rw[E5];refine⟨λh2=>?_,λh2=>?_⟩
   ·have h2:b-m=1:=by simp at h2;omega
    refine kW ?_;refine Aa.Aw (λs:Nat×Nat=>mk 220 [(0,.own 0 3 0 l.length),(1,.int .i64 a),(2,.int .i64 m),(3,.int .i64 b),(4,IM),(14,.int .i64 s.1),(15,.int .i64 s.2)]) (λs=>[.arr 199 3 (KH l),.ghost [.own 0 3 0 l.length] [gv] []]) (λs=>a<=s.1/\s.1<=s.2/\s.2<=m) (λs=>s.2-s.1) (λs hs=>⟨rfl,Dp _⟩) ⟨(a,m),?_⟩ (λ_=>rfl) λs hk=>?_
    ·refine kQ ?_;first|exact⟨Bv _,by simp only;omega,Bv _⟩|exact Bv _|exact⟨by simp only;omega,Bv _⟩|(simp only;omega)
    ·obtain⟨hi,PB,hj⟩:=hk;generalize s.1=i at*;generalize s.2=j at*;refine kR ?_;refine⟨λh3=>?_,λh3=>?_⟩
     ·have h3:i<j:=by simp at h3;omega
      conv=>whnf
      iterate 3 (refine sT rfl ?_;conv=>whnf)
      refine Aa.Xk [4] Ag ?_;conv=>whnf
      refine⟨⟨⟨rfl,rfl⟩,rfl⟩,?_⟩;conv=>whnf
      rw[lR (by omega)]
      refine kR ?_;have hwh:Wr .i64 ((((i+j)/2:Nat):Int)+1)=(((i+j)/2+1:Nat):Int):=by rw[Em (by omega)];rfl
      refine Aa.draw [] Ag mO (by kernel_rfl) ?_
      conv=>whnf
      refine⟨by omega,?_⟩
      conv=>whnf
      refine⟨_,by rw[Bh,Ax];exact By (by omega:m<l.length),?_⟩
      conv=>whnf
      refine⟨by omega,?_⟩
      conv=>whnf
      refine⟨_,by rw[Bh,Ax];exact By (by omega:(i+j)/2<l.length),?_⟩
      conv=>whnf
      refine⟨_,⟨J1 (l[m]'(by omega)) (l[(i+j)/2]'(by omega)),rfl⟩,?_⟩
      conv=>whnf
      refine⟨λh5=>?_,λh5=>?_⟩
      ·refine kW ?_
       refine⟨(i,(i+j)/2),?_⟩
       refine kQ ?_
       first|exact⟨⟨by simp only;omega,by simp only;omega,by simp only;omega⟩,(show(i+j)/2-i<j-i by omega)⟩
      ·refine kW ?_
       refine⟨((i+j)/2+1,j),?_⟩
       refine CV hwh ?_
       first|exact⟨⟨by simp only;omega,by simp only;omega,by simp only;omega⟩,(show j-((i+j)/2+1)<j-i by omega)⟩
     ·have h3:i=j:=by simp at h3;omega
      refine kW ?_;refine Aa.Aw (λs:Nat×List Cd=>mk 220 [(0,.own 0 3 0 l.length),(1,.int .i64 a),(2,.int .i64 m),(3,.int .i64 b),(4,IM),(14,.int .i64 i),(17,.int .i64 s.1)]) (λs=>[.arr 199 3 (KH s.2),.ghost [.own 0 3 0 l.length] [gv] []]) (λs=>(i<=s.1/\s.1<=m)/\PI l s.2) (λs=>s.1) (λs hs=>⟨rfl,Dp _⟩) ⟨(m,l),?_⟩ (λ_=>rfl) λs hk=>?_
      ·refine kQ ?_
       exact⟨⟨by simp only;omega,Bv _⟩,PI.refl l⟩
      ·obtain⟨⟨vP,hk⟩,hp⟩:=hk
       generalize s.1=k at*
       generalize s.2=l' at*
       have Bm:=hp.len
       refine kR ?_
       refine⟨λh4=>?_,λh4=>?_⟩
       ·have h4:i<k:=by simp at h4;omega
        have hwk:Wr .i64 ((k:Int)-1)=((k-1:Nat):Int):=by rw[Em (by omega)];omega
        refine kW ?_
        refine Aa.Pe [15,17] Ag mO (by kernel_rfl) ?_
        conv=>whnf
        rw[hwk]
        refine⟨by omega,?_⟩
        conv=>whnf
        refine⟨_,by rw[Bh,Ax];exact By (by omega:k-1<l'.length),?_⟩
        conv=>whnf
        refine⟨by omega,?_⟩
        conv=>whnf
        refine⟨_,by rw[Bh,Ax];exact By (by omega:k<l'.length),?_⟩
        conv=>whnf
        refine⟨by omega,?_⟩
        conv=>whnf
        refine⟨_,by rw[Bh,Ax];exact By (by omega:k<l'.length),?_⟩
        conv=>whnf
        refine⟨by omega,?_⟩
        conv=>whnf
        rw[Bh,Bh,Ax,Ax,Iv]
        refine⟨_,By (l:=l'.set (k) (l'[k-1]'(by omega))) (k:=k-1) (by simp;omega),?_⟩
        conv=>whnf
        rw[Iv]
        refine kR ?_
        refine⟨(k-1,(l'.set (k) (l'[k-1]'(by omega))).set (k-1) (l'[k]'(by omega))),?_⟩
        refine CV hwk ?_
        exact⟨⟨⟨by simp only;omega,by simp only;omega⟩,hp.swap (by omega) (by omega)⟩,(show k-1<k by omega)⟩
       ·refine kW ?_
        refine⟨AS _,?_⟩
        conv=>whnf
        exact⟨_,_,rfl,rfl,by simpa using Bm,rfl,l',rfl,hp.perm⟩
   ·have h2:b-m≠1:=by simp at h2;omega
    conv=>whnf
    iterate 2 (refine sT rfl ?_;conv=>whnf)
    refine Aa.Xk [4] Ag ?_;conv=>whnf
    refine⟨⟨⟨rfl,rfl⟩,rfl⟩,?_⟩;conv=>whnf
    rw[lR (by omega)]
    have hwn:Wr .i64 ((((a+b)/2:Nat):Int)+m)=(((a+b)/2+m:Nat):Int):=by rw[Em (by omega)];rfl
    generalize ZmK:(a+b)/2=Nw at*;iterate 4 (refine sT rfl ?_;conv=>whnf)
    rw[hwn];refine Aa.seq ?_;refine Aa.iN (λs:Nat×Nat=>mk 220 [(0,.own 0 3 0 l.length),(1,.int .i64 a),(2,.int .i64 m),(3,.int .i64 b),(4,IM),(18,.int .i64 Nw),(19,.int .i64 (Nw+m:Nat)),(20,.int .i64 s.1),(21,.int .i64 s.2)]) (λs=>[.arr 199 3 (KH l),.ghost [.own 0 3 0 l.length] [gv] []]) (λs=>Zht a m b Nw s.1 s.2) (λ_ _=>⟨rfl,Dp _⟩) (λ_=>Bv _) ?_ λs hs=>?_
    ·refine kR ?_;refine⟨λh3=>?_,λh3=>?_⟩
     ·have h3:Nw<m:=by simp at h3;omega
      have hwb:Wr .i64 (((Nw+m:Nat):Int)-b)=((Nw+m-b:Nat):Int):=by rw[Em (by omega)];omega
      refine kW ?_;refine⟨(Nw+m-b,Nw),?_⟩;refine CV hwb ?_;exact⟨by simp only;omega,.inl ⟨h3,by simp only;omega,Bv _⟩⟩
     ·have h3:m<=Nw:=by simp at h3;omega
      refine kW ?_;refine⟨(a,m),?_⟩;refine kQ ?_;exact⟨by simp only;omega,.inr ⟨h3,Bv _,Bv _⟩⟩
    ·generalize s.1=st at*;generalize s.2=r at*;have hwp:Wr .i64 (((Nw+m:Nat):Int)-1)=((Nw+m-1:Nat):Int):=by rw[Em (by omega)];omega
     refine kR ?_;rw[hwp];refine Aa.Aw (λs:Nat×Nat=>mk 220 [(0,.own 0 3 0 l.length),(1,.int .i64 a),(2,.int .i64 m),(3,.int .i64 b),(4,IM),(18,.int .i64 Nw),(19,.int .i64 (Nw+m:Nat)),(20,.int .i64 s.1),(21,.int .i64 s.2),(22,.int .i64 (Nw+m-1:Nat))]) (λs=>[.arr 199 3 (KH l),.ghost [.own 0 3 0 l.length] [gv] []]) (λs=>Zht a m b Nw s.1 s.2) (λs=>s.2-s.1) (λs hs=>⟨rfl,Dp _⟩) ⟨(st,r),?_⟩ (λ_=>rfl) λs hs=>?_
     ·refine kQ ?_;exact hs
     ·generalize s.1=i at*;generalize s.2=j at*;obtain⟨PB,hlo⟩:=hs;refine kR ?_;refine⟨λh3=>?_,λh3=>?_⟩
      ·have h3:i<j:=by simp at h3;omega
       conv=>whnf
       iterate 3 (refine sT rfl ?_;conv=>whnf)
       refine Aa.Xk [4] Ag ?_
       conv=>whnf
       refine⟨⟨⟨rfl,rfl⟩,rfl⟩,?_⟩
       conv=>whnf
       rw[lR (by omega)]
       refine kR ?_
       have hwh:Wr .i64 ((((i+j)/2:Nat):Int)+1)=(((i+j)/2+1:Nat):Int):=by rw[Em (by omega)];rfl
       have hwc:Wr .i64 (((Nw+m-1:Nat):Int)-(((i+j)/2:Nat):Int))=((Nw+m-1-(i+j)/2:Nat):Int):=by rw[Em (by omega)];omega
       refine Aa.draw [] Ag mO (by kernel_rfl) ?_
       conv=>whnf
       rw[hwc]
       refine⟨by omega,?_⟩
       conv=>whnf
       refine⟨_,by rw[Bh,Ax];exact By (by omega:Nw+m-1-(i+j)/2<l.length),?_⟩
       conv=>whnf
       refine⟨by omega,?_⟩
       conv=>whnf
       refine⟨_,by rw[Bh,Ax];exact By (by omega:(i+j)/2<l.length),?_⟩
       conv=>whnf
       refine⟨_,⟨J1 (l[Nw+m-1-(i+j)/2]'(by omega)) (l[(i+j)/2]'(by omega)),rfl⟩,?_⟩
       conv=>whnf
       refine⟨λh5=>?_,λh5=>?_⟩
       ·refine kW ?_
        refine⟨(i,(i+j)/2),?_⟩
        refine kQ ?_
        exact⟨⟨by simp only;omega,by simp only;omega⟩,(show(i+j)/2-i<j-i by omega)⟩
       ·refine kW ?_
        refine⟨((i+j)/2+1,j),?_⟩
        refine CV hwh ?_
        exact⟨⟨by simp only;omega,by simp only;omega⟩,(show j-((i+j)/2+1)<j-i by omega)⟩
      ·have h3:i=j:=by simp at h3;omega
       have hwe:Wr .i64 (((Nw+m:Nat):Int)-i)=((Nw+m-i:Nat):Int):=by rw[Em (by omega)];omega
       subst h3
       conv=>whnf
       iterate 3 (refine sT rfl ?_;conv=>whnf)
       rw[hwe]
       generalize Zm7:Nw+m-i=en at*
       refine Aa.seq ?_
       refine Aa.iN (λ_:List Cd=>mk 220 [(0,.own 0 3 0 l.length),(1,.int .i64 a),(2,.int .i64 m),(3,.int .i64 b),(4,IM),(18,.int .i64 Nw),(20,.int .i64 i),(24,.int .i64 en)]) (λl'=>[.arr 199 3 (KH l'),.ghost [.own 0 3 0 l.length] [gv] []]) (λl'=>PI l l') (λ_ _=>⟨rfl,Dp _⟩) (λ_=>Bv _) ?_ λl' hp=>?_
       ·refine kR ?_
        repeat' (first|(refine Cg (λ_=>?_) (λ_=>?_)<;>conv=>whnf)|refine Dd ?_|fail)
        ·rename_i q1 q2
         have hs:=Zd l i m en hl (by simp at q1;omega) (by simp at q2;omega) (by omega)
         refine Aj.Lb hs rfl ⟨rfl,AS _,trivial⟩ ?_
         rintro r es ⟨rfl,l2,rfl,KG⟩ hlen
         refine kW ?_
         refine⟨l2,?_⟩
         refine kQ ?_
         exact⟨KG,by simpa using hlen⟩
        all_goals
         refine⟨l,?_⟩;refine kQ ?_
         exact PI.refl l
       ·have Bm:=hp.len
        iterate 1 (refine sT rfl ?_;conv=>whnf)
        refine Aa.iN (λ_:List Cd=>mk 220 [(0,.own 0 3 0 l.length),(1,.int .i64 a),(2,.int .i64 m),(3,.int .i64 b),(4,IM),(18,.int .i64 Nw),(20,.int .i64 i),(24,.int .i64 en)]) (λl'=>[.arr 199 3 (KH l'),.ghost [.own 0 3 0 l.length] [gv] []]) (λl'=>PI l l') (λ_ _=>⟨rfl,Dp _⟩) (λ_=>Bv _) ?_ λl' hp=>?_
        ·refine kR ?_
         repeat' (first|(refine Cg (λ_=>?_) (λ_=>?_)<;>conv=>whnf)|refine Dd ?_|fail)
         ·rename_i q1 q2
          have hs:=ih l' a i Nw (by omega) (by omega) (by simp at q1;omega) (by simp at q2;omega) (by omega)
          rw[Bm]at hs
          refine Aj.Lb hs rfl ⟨rfl,AS _,trivial⟩ ?_
          rintro r es ⟨rfl,l2,rfl,KG⟩ hlen
          refine kW ?_
          refine⟨l2,?_⟩
          refine kQ ?_
          exact⟨KG.trans hp.perm,by rw[CX,CX]at hlen;omega⟩
         all_goals
          refine⟨l',?_⟩;refine kQ ?_
          exact hp
        ·have Bm:=hp.len
         refine kR ?_
         repeat' (first|(refine Cg (λ_=>?_) (λ_=>?_)<;>conv=>whnf)|refine Dd ?_|fail)
         ·rename_i q1 q2
          have hs:=ih l' Nw en b (by omega) (by omega) (by simp at q1;omega) (by simp at q2;omega) (by omega)
          rw[Bm]at hs
          refine Aj.Lb hs rfl ⟨rfl,AS _,trivial⟩ ?_
          rintro r es ⟨rfl,l2,rfl,KG⟩ hlen
          refine kW ?_
          refine⟨AS _,?_⟩
          conv=>whnf
          exact⟨_,_,rfl,rfl,by rw[hlen];simpa using Bm,rfl,l2,rfl,KG.trans hp.perm⟩
         all_goals
          refine⟨AS _,?_⟩;conv=>whnf
          exact⟨_,_,rfl,rfl,by simpa using Bm,rfl,l',rfl,hp.perm⟩
theorem YW(l:List Cd)(hl:l.length<=1000000):Ed Tryz.prog 219 [.own 0 3 0 l.length,.int .i64 l.length,IM] 199 3 (KH l)
  (λr es=>r=.tuple []/\Js l es):=by
 refine Ed.A3 Tryz.func219 rfl Ag (by kernel_rfl) (by simp) (λgv=>?_)
 conv=>whnf
 repeat(refine sT rfl ?_;conv=>whnf)
 refine Aa.Aw (λs:Nat×Nat×List Cd=>mk 63 [(0,.own 0 3 0 l.length),(1,.int .i64 l.length),(2,IM),(6,.int .i64 20),(7,.int .i64 s.1),(8,.int .i64 s.2.1)]) (λs=>[.arr 199 3 (KH s.2.2),.ghost [.own 0 3 0 l.length] [gv] []]) (λs=>(s.1<=l.length/\s.2.1=s.1+20)/\PI l s.2.2) (λs=>l.length-s.1) (λs hs=>⟨rfl,Dp _⟩) ⟨(0,20,l),?_⟩ (λ_=>rfl) λs hk=>?_
 ·refine kQ ?_;first|exact⟨⟨BY _,rfl⟩,PI.refl l⟩|exact PI.refl l|exact⟨.refl _,rfl⟩|exact .refl _
 ·obtain⟨⟨ha,hb⟩,hp⟩:=hk;generalize s.2.2=l' at*;generalize s.2.1=b at*;generalize s.1=a at*;have Bm:=hp.len;have hwb:Wr .i64 ((b:Int)+20)=((b+20:Nat):Int):=by rw[Em (by omega)];rfl
  refine kR ?_;refine⟨λh=>?_,λh=>?_⟩
  ·have h:b<=l.length:=by simp at h;omega
   refine kW ?_;have hs:=Lh l' a b (by omega) (by omega) (by omega)
   rw[Bm]at hs;refine Aj.Lb hs rfl ⟨rfl,AS _,trivial⟩ ?_;rintro r es ⟨rfl,l2,rfl,KG⟩ hlen;refine kW ?_;refine⟨(b,b+20,l2),?_⟩;refine CV hwb ?_;rw[CX,CX]at hlen;exact⟨⟨⟨h,rfl⟩,KG.trans hp.perm,hlen.trans Bm⟩,(show l.length-b<l.length-a by omega)⟩
  ·refine kW ?_;have hs:=Lh l' a l.length (by omega) (by omega) (by omega)
   rw[Bm]at hs;refine Aj.Lb hs rfl ⟨rfl,AS _,trivial⟩ ?_;rintro r es ⟨rfl,l2,rfl,KG⟩ hlen;replace hp:PI l l2:=⟨KG.trans hp.perm,by rw[CX,CX]at hlen;omega⟩
   refine kW ?_;refine Aa.Aw (λs:Nat×List Cd=>mk 63 [(0,.own 0 3 0 l.length),(1,.int .i64 l.length),(2,IM),(6,.int .i64 s.1)]) (λs=>[.arr 199 3 (KH s.2),.ghost [.own 0 3 0 l.length] [gv] []]) (λs=>(1<=s.1/\s.1<=2000000)/\PI l s.2) (λs=>l.length-s.1) (λs hs=>⟨rfl,Dp _⟩) ⟨(20,l2),?_⟩ (λ_=>rfl) λs hk=>?_
   ·refine kQ ?_;first|exact⟨⟨by simp only;omega,by simp only;omega⟩,hp⟩|exact hp|exact hp.perm
   ·clear hs KG hlen hp Bm hb ha;obtain⟨⟨PC,G0⟩,hp⟩:=hk;generalize s.2=l' at*;generalize s.1=bs at*;have Bm:=hp.len;have E5:Wr .i64 (2*(bs:Int))=((2*bs:Nat):Int):=by rw[Em (by omega)];rfl
    have fX:Wr .i64 ((bs:Int)*2)=((2*bs:Nat):Int):=by rw[Em (by omega)];omega
    refine kR ?_;refine⟨λh5=>?_,λh5=>?_⟩
    ·have h5:bs<l.length:=by simp at h5;omega
     refine kW ?_;rw[E5];refine Aa.Aw (λs:Nat×Nat×List Cd=>mk 63 [(0,.own 0 3 0 l.length),(1,.int .i64 l.length),(2,IM),(6,.int .i64 bs),(7,.int .i64 s.1),(8,.int .i64 s.2.1)]) (λs=>[.arr 199 3 (KH s.2.2),.ghost [.own 0 3 0 l.length] [gv] []]) (λs=>(s.1<=l.length/\s.2.1=s.1+2*bs)/\PI l s.2.2) (λs=>l.length-s.1) (λs hs=>⟨rfl,Dp _⟩) ⟨(0,2*bs,l'),?_⟩ (λ_=>rfl) λs hk=>?_
     ·refine kQ ?_;first|exact⟨⟨BY _,by simp⟩,hp⟩|exact hp
     ·clear hp Bm;obtain⟨⟨ha,hb⟩,hp⟩:=hk;generalize s.2.2=l' at*;generalize s.2.1=b at*;generalize s.1=a at*;have Bm:=hp.len;have yD:Wr .i64 ((a:Int)+bs)=((a+bs:Nat):Int):=by rw[Em (by omega)];rfl
      have hwb:Wr .i64 ((b:Int)+((2*bs:Nat):Int))=((b+2*bs:Nat):Int):=by rw[Em (by omega)];rfl
      refine kR ?_;refine⟨λh6=>?_,λh6=>?_⟩
      ·have h6:b<=l.length:=by simp at h6;omega
       refine kW ?_
       rw[yD]
       have hs:=TU (b-a) l' a (a+bs) b (Bv _) (by omega) (by omega) (by omega) (by omega)
       rw[Bm]at hs
       refine Aj.Lb hs rfl ⟨rfl,AS _,trivial⟩ ?_
       rintro r es ⟨rfl,l2,rfl,KG⟩ hlen
       rw[CX,CX]at hlen
       refine kW ?_
       rw[E5,hwb]
       refine⟨(b,b+2*bs,l2),?_⟩
       refine kQ ?_
       exact⟨⟨⟨h6,rfl⟩,KG.trans hp.perm,hlen.trans Bm⟩,(show l.length-b<l.length-a by omega)⟩
      ·refine kW ?_
       rw[yD]
       refine⟨λh7=>?_,λh7=>?_⟩
       ·have h7:a+bs<l.length:=by simp at h7;omega
        have h6:l.length<b:=by simp at h6;omega
        refine kW ?_
        have hs:=TU (l.length-a) l' a (a+bs) l.length (Bv _) (by omega) (by omega) (by omega) (by omega)
        rw[Bm]at hs
        refine Aj.Lb hs rfl ⟨rfl,AS _,trivial⟩ ?_
        rintro r es ⟨rfl,l2,rfl,KG⟩ hlen
        rw[CX,CX]at hlen
        refine kW ?_
        refine⟨(2*bs,l2),?_⟩
        refine CV fX ?_
        exact⟨⟨⟨by simp only;omega,by simp only;omega⟩,KG.trans hp.perm,hlen.trans Bm⟩,(show l.length-2*bs<l.length-bs by omega)⟩
       ·refine kW ?_
        refine⟨(2*bs,l'),?_⟩
        refine CV fX ?_
        exact⟨⟨⟨by simp only;omega,by simp only;omega⟩,hp⟩,(show l.length-2*bs<l.length-bs by omega)⟩
    ·refine kW ?_;refine⟨AS _,?_⟩;conv=>whnf
     exact⟨_,_,rfl,rfl,by simpa using Bm,rfl,l',rfl,hp.perm⟩
theorem RQ(l:List Cd)(hl:l.length<=1000000):Ed Tryz.prog 176 [.own 0 3 0 l.length,IM] 199 3 (KH l)
  (λr es=>r=.tuple []/\Js l es):=by
 refine Ed.A3 Tryz.func176 rfl Ag (by kernel_rfl) (by simp) (λgv=>?_)
 conv=>whnf
 repeat(refine sT rfl ?_;conv=>whnf)
 refine Aj.Lb (YW l hl) rfl ⟨rfl,AS _,trivial⟩ ?_;rintro r es ⟨rfl,l2,rfl,KG⟩ hlen;refine kW ?_;refine⟨AS _,?_⟩;conv=>whnf
 exact⟨_,_,rfl,rfl,by simpa using hlen,rfl,l2,rfl,KG⟩
end Go.Proofs.YtdadkhcdoaeabaaGreatDoor
namespace Go.Proofs.YtdadkhcdoaeabaaGreatDoor
open Go.Av Go.Shelf Go.RowKit
open Ff (strs)
open Rr.Pl (Pt Ad St Ch Bs Mv HT CF CU)
theorem Vi(t:Bs):AO Tryz.prog 240 [.str t] (λr=>r=.bool (Fg t)):=by
 refine kB Tryz.func240 rfl ?_;refine congrArg AV.bool (decide_eq_decide.2 ?_);omega
theorem E7(l:List Bs)(hl:l.length<=1000):AO Tryz.prog 215 [.sl 1 (strs l)] (λr=>r=.bool (l.any Fg)):=by
 refine kB Tryz.func215 rfl ?_;refine cS (Rr.Fq l _ [] Fg (by omega) rfl rfl λx _=>Vi x) rfl ?_;exact GA
def Kd(s:St)(a:Ad):Bool:=!decide (a.co=[])&&(Fg a.co||Fg s.co)||!decide (a.tw=[])&&(Fg a.tw||Fg s.to)
def ZcD(s:St)(a:Ad):Int:=(s.al.map λx=>CB (foldM a.st) (foldM x)).foldl min (CB (foldM a.st) (foldM s.na))+(if a.co=[]then 0 else CB a.co s.co)+(if a.tw=[]then 0 else CB (foldM a.tw) (foldM s.to))
def FA(s:St):List AV:=[.str s.co,.str s.to,.str s.na,.sl 1 (strs s.al),.int .i64 s.lo,.int .i64 s.hi,.int .i64 s.sh,.bool s.op]
def adK(a:Ad):List AV:=[.str a.pe,.str a.st,.int .i64 a.nu,.str a.co,.str a.tw]
def QE(s:St)(a:Ad)(k:Nat):List Int:=((s.al.take k).map λx=>CB (foldM a.st) (foldM x))++D0 (s.al.length-k) 0
theorem wW(s:St)(a:Ad)(k:Nat)(h:k<=s.al.length):(QE s a k).length=s.al.length:=by unfold QE;simp;omega
theorem Zhl(s:St)(a:Ad):D0 (((strs s.al).length:Nat):Int).toNat (AV.int .i64 0)=ia (QE s a 0):=by unfold QE ia;simp
theorem wV(s:St)(a:Ad)(k:Nat)(h:k<s.al.length):(QE s a k).set k (CB (foldM a.st) (foldM s.al[k]))=QE s a (k+1):=by
 unfold QE;obtain⟨j,hj⟩:∃j,s.al.length-k=j+1:=⟨s.al.length-k-1,by omega⟩
 rw[Fy (h:=by simp;omega),hj,show s.al.length-(k+1)=j by omega,A0 h,E1]
 simp[List.replicate_succ,C1 (Eg h)]
theorem wX(s:St)(a:Ad):QE s a s.al.length=s.al.map λx=>CB (foldM a.st) (foldM x):=by unfold QE;simp
theorem WE(l:List Int):∀x∈ia l,closed x=true:=by
 intro x hx;obtain⟨n,_,rfl⟩:=Cb.1 hx;rfl
theorem O8:∀(l:List Int){x:Int},-1<=x/\x<=400->(∀y∈l,-1<=y/\y<=400)->-1<=l.foldl min x/\l.foldl min x<=400
 |[],x,h,_=>h
 |y::l,x,h,hl=>by
  have:=hl y (by simp)
  exact O8 l (by omega) λz hz=>hl z (by simp[hz])
theorem qH(s:St)(a:Ad)(hs:s.al.length<=1000):AO Tryz.prog 175 [s.v,a.v] (λr=>r=.tuple [.int .i64 ((Iu s a).getD 0),.bool (Iu s a).isSome]):=by
 refine kB Tryz.func175 rfl ?_;refine Aj.freeze 2 ?_ (by kernel_rfl)
 conv=>whnf
 refine⟨(by simp[closed]),?_⟩
 conv=>whnf
 repeat(refine⟨(by first|rfl|(simp;done):(_:Nat)=_),?_⟩;conv=>whnf)
 refine cS (E7 [a.st,s.na] (by simp)) rfl ?_;conv=>whnf
 refine⟨λh1=>?_,λh1=>?_⟩
 ·refine kW ?_;refine cS (E7 s.al hs) rfl ?_;refine kW ?_;have yK:s.al.any Fg=true->Iu s a=none:=λh=>by unfold Iu;rw[if_pos];rw[h,Bool.or_true]
  refine⟨λh2=>?_,λh2=>?_⟩
  ·rw[yK h2];refine kW ?_;rfl
  ·conv=>whnf
   iterate 2 (refine sT rfl ?_;conv=>whnf)
   have yJ:Kd s a=true->Iu s a=none:=λh=>by
    unfold Iu;unfold Kd at h;rw[if_neg (by simp at h1 h2⊢;simp_all),if_pos h]
   refine Aa.iN (λ_:Unit=>mk 99 [(2,.ptr 0 0),(3,.ptr 1 0),(4,.int .i64 0),(5,.lit false)]) (λ_=>[.cells (FA s),.cells (adK a),.dead]) (λ_=>Kd s a=false) (λ_ _=>⟨rfl,rfl,rfl,trivial⟩) (λ_=>Bv _) ?_ λ_ h3=>?_
   ·refine kR ?_;refine⟨λg1=>?_,λg1=>?_⟩
    ·have g1:a.co≠[]:=by simpa using g1
     refine kW ?_;refine Aj.freeze 3 ?_ (by kernel_rfl)
     conv=>whnf
     refine⟨(by simp[closed]),?_⟩
     conv=>whnf
     repeat(refine⟨(by first|rfl|(simp;done):(_:Nat)=_),?_⟩;conv=>whnf)
     refine cS (E7 [a.co,s.co] (by simp)) rfl ?_;refine kW ?_;refine⟨λg2=>?_,λg2=>?_⟩
     ·refine kW ?_;simp at g2;refine⟨λg3=>?_,λg3=>?_⟩
      ·have g3:a.tw≠[]:=by simpa using g3
       refine kW ?_
       refine Aj.freeze 4 ?_ (by kernel_rfl)
       conv=>whnf
       refine⟨(by simp[closed]),?_⟩
       conv=>whnf
       repeat(refine⟨(by first|rfl|(simp;done):(_:Nat)=_),?_⟩;conv=>whnf)
       refine Aj.Dk (E7 [a.tw,s.to] (by simp)) rfl λr hr=>?_
       subst hr
       refine kW ?_
       refine⟨λg4=>?_,λg4=>?_⟩
       ·rw[yJ (by unfold Kd;simp at g4;simp[g3,g4])]
        refine kW ?_
        rfl
       ·refine kW ?_
        refine⟨(),?_⟩
        refine kQ ?_
        unfold Kd
        simp at g4
        simp[g1,g2,g4,g3]
      ·have g3:a.tw=[]:=by simpa using g3
       refine kW ?_
       refine⟨(),?_⟩
       refine kQ ?_
       unfold Kd
       simp[g1,g2,g3]
     ·rw[yJ (by unfold Kd;simp at g2;simp[g1,g2])]
      refine kW ?_;rfl
    ·have g1:a.co=[]:=by simpa using g1
     refine kW ?_;refine⟨λg3=>?_,λg3=>?_⟩
     ·have g3:a.tw≠[]:=by simpa using g3
      refine kW ?_;refine Aj.freeze 3 ?_ (by kernel_rfl)
      conv=>whnf
      refine⟨(by simp[closed]),?_⟩
      conv=>whnf
      repeat(refine⟨(by first|rfl|(simp;done):(_:Nat)=_),?_⟩;conv=>whnf)
      refine cS (E7 [a.tw,s.to] (by simp)) rfl ?_;refine kW ?_;refine⟨λg4=>?_,λg4=>?_⟩
      ·rw[yJ (by unfold Kd;simp at g4;simp[g3,g4])]
       refine kW ?_
       rfl
      ·refine kW ?_
       refine⟨(),?_⟩
       refine kQ ?_
       unfold Kd
       simp at g4
       simp[g1,g4,g3]
     ·have g3:a.tw=[]:=by simpa using g3
      refine kW ?_;refine⟨(),?_⟩;refine kQ ?_;unfold Kd;simp[g1,g3]
   ·have hc:Iu s a=some (ZcD s a):=by
     unfold Iu;have h3':=h3;unfold Kd at h3';rw[if_neg (by simp at h1 h2⊢;simp_all),if_neg (by rw[h3'];decide)]
     rfl
    rw[hc];have l1:a.st.length<=200:=by simp[Fg]at h1;omega
    have l2:s.na.length<=200:=by simp[Fg]at h1;omega
    have l3:∀x∈s.al,x.length<=200:=λx hx=>by
     have:=F0.1 h2 x hx;simp[Fg]at this;omega
    refine kR ?_;refine kC (Dw a.st (by omega)) ?_
    have fY:(strs s.al).length=s.al.length:=by simp
    refine⟨⟨by omega,by omega,by omega⟩,?_⟩
    refine kW ?_;refine Aa.Aw (λk:Nat=>mk 99 [(2,.ptr 0 0),(3,.ptr 1 0),(4,.int .i64 0),(5,.lit false),(6,.str (foldM a.st)),(7,.own 3 1 0 s.al.length),(54,.sl 1 (strs s.al)),(55,.int .i64 s.al.length),(56,.int .i64 k)]) (λk=>[.cells (FA s),.cells (adK a),.dead,.arr 3 1 (ia (QE s a k))]) (λk=>k<=s.al.length) (λk=>s.al.length-k) (λ_ _=>⟨rfl,rfl,rfl,WE _,trivial⟩) ⟨0,?_⟩ (λ_=>rfl) λk hk=>?_
    ·conv=>whnf
     repeat(refine Cg ?_ ?_;(focus (first|rfl|(simp;done)|(first|exact congrArg (AV.own 3 1 0) (by simp)|exact congrArg (AV.int .i64) (by simp);done)));conv=>whnf)
     exact⟨by rw[Zhl],BY _⟩
    ·have SE:=wW s a k hk;refine kR ?_;refine⟨λg1=>?_,λg1=>?_⟩
     ·have g1:k<s.al.length:=by simp at g1;omega
      have A7:=D4 k (by omega)
      refine kW ?_;refine⟨by omega,_,Rr.Ep s.al k g1,?_⟩
      refine kW ?_;refine kC (Dw s.al[k] (by have:=l3 _ (CM g1);omega)) ?_
      refine kC (Ey (foldM a.st) (foldM s.al[k])) ?_;refine⟨by omega,?_⟩
      conv=>whnf
      refine⟨_,by rw[Bh,Ax];exact vA (by omega:k<(QE s a k).length),?_⟩
      conv=>whnf
      rw[Bh,Ax,show(ia (QE s a k)).set k (.int .i64 (CB (foldM a.st) (foldM s.al[k])))=ia (QE s a (k+1)) by rw[<-wV s a k g1];simp[ia]]
      refine kR ?_;refine⟨k+1,?_⟩;refine CV A7 ?_;exact⟨g1,by omega⟩
     ·have g1:k=s.al.length:=by simp at g1;omega
      subst g1;rw[wX];refine kW ?_;refine kC (Dw s.na (by omega)) ?_
      refine kC (Ey (foldM a.st) (foldM s.na)) ?_;generalize hD:(s.al.map λx=>CB (foldM a.st) (foldM x))=D at*
      have hDl:D.length=s.al.length:=by rw[<-hD];simp
      have hDi:s.al.length=(ia D).length:=by rw[Ug,hDl]
      refine Aj.freeze 3 ?_ (by kernel_rfl)
      conv=>whnf
      refine⟨WE _,?_⟩;conv=>whnf
      repeat(refine⟨hDi,?_⟩;conv=>whnf)
      refine cS (Nz (CB (foldM a.st) (foldM s.na)) D (by omega)) rfl ?_;refine kW ?_
      have hMb:-1<=D.foldl min (CB (foldM a.st) (foldM s.na))/\D.foldl min (CB (foldM a.st) (foldM s.na))<=400:=O8 D (Pf _ _) λy hy=>by
       rw[<-hD]at hy;obtain⟨x,_,rfl⟩:=Cb.1 hy;exact Pf _ _
      have VA:ZcD s a=D.foldl min (CB (foldM a.st) (foldM s.na))+(if a.co=[]then 0 else CB a.co s.co)+(if a.tw=[]then 0 else CB (foldM a.tw) (foldM s.to)):=by unfold ZcD;rw[hD]
      generalize D.foldl min (CB (foldM a.st) (foldM s.na))=M at*;have PC:=Pf a.co s.co;have G0:=Pf (foldM a.tw) (foldM s.to)
      have hl5:a.tw≠[]->a.tw.length<=200/\s.to.length<=200:=λh=>by
       have h3':=h3;unfold Kd at h3';simp[h,Fg]at h3';omega
      refine⟨λg2=>?_,λg2=>?_⟩
      ·have g2:a.co≠[]:=by simpa using g2
       rw[if_neg g2]at VA
       refine kW ?_
       refine kC (Ey a.co s.co) ?_
       rw[Pr (M+CB a.co s.co) (by omega) (by omega)]
       refine⟨λg3=>?_,λg3=>?_⟩
       ·have g3:a.tw≠[]:=by simpa using g3
        rw[if_neg g3]at VA
        refine kW ?_
        refine Aa.draw [] Ag mO (by kernel_rfl) ?_
        conv=>whnf
        refine⟨_,⟨Dw a.tw (by have:=hl5 g3;omega),rfl⟩,?_⟩
        conv=>whnf
        refine⟨_,⟨Dw s.to (by have:=hl5 g3;omega),rfl⟩,?_⟩
        conv=>whnf
        refine⟨_,⟨Ey (foldM a.tw) (foldM s.to),rfl⟩,?_⟩
        conv=>whnf
        refine kR ?_
        rw[Pr ((M+CB a.co s.co)+CB (foldM a.tw) (foldM s.to)) (by omega) (by omega),VA]
        first|rfl|simp
       ·have g3:a.tw=[]:=by simpa using g3
        rw[if_pos g3]at VA
        refine kW ?_
        rw[VA]
        simp
      ·have g2:a.co=[]:=by simpa using g2
       rw[if_pos g2]at VA
       refine kW ?_
       refine⟨λg3=>?_,λg3=>?_⟩
       ·have g3:a.tw≠[]:=by simpa using g3
        rw[if_neg g3]at VA
        refine kW ?_
        refine Aa.draw [] Ag mO (by kernel_rfl) ?_
        conv=>whnf
        refine⟨_,⟨Dw a.tw (by have:=hl5 g3;omega),rfl⟩,?_⟩
        conv=>whnf
        refine⟨_,⟨Dw s.to (by have:=hl5 g3;omega),rfl⟩,?_⟩
        conv=>whnf
        refine⟨_,⟨Ey (foldM a.tw) (foldM s.to),rfl⟩,?_⟩
        conv=>whnf
        refine kR ?_
        rw[Pr (M+CB (foldM a.tw) (foldM s.to)) (by omega) (by omega),VA]
        first|rfl|simp
       ·have g3:a.tw=[]:=by simpa using g3
        rw[if_pos g3]at VA
        refine kW ?_
        rw[VA]
        simp
 ·have hn:Iu s a=none:=by unfold Iu;rw[if_pos];simp at h1;simp[h1]
  rw[hn];refine kW ?_;rfl
theorem iV(S:List St)(a:Ad)(Ak:Int)(k:Nat)(h:k<S.length):Ec (S.take (k+1)) a Ak=Ec (S.take k) a Ak++(MT a Ak k S[k]).toList:=by
 unfold Ec;rw[A0 h,List.zipIdx_append,List.filterMap_append,BM,C1 (Eg h)];congr 1;simp only[List.zipIdx_cons,List.zipIdx_nil,Bh,List.filterMap_cons,List.filterMap_nil];cases MT a Ak k S[k]<;>rfl
theorem WY(S:List St)(a:Ad)(Ak:Int):(Ec S a Ak).length<=S.length:=by
 unfold Ec;refine Nat.le_trans (List.length_filterMap_le _ _) ?_;simp
theorem Sl(S:List St)(a:Ad)(Ak:Int)(hS:∀s∈S,Rr.BX s 60)(hl:S.length<=100)(hn:0<=a.nu/\a.nu<=1000000)(h0:0<=Ak)(h6:Ak<=6):AO Tryz.prog 136 [Rr.Pl.KD S,a.v,.int .i64 Ak] (λr=>∃l,r=.sl 3 (KH l)/\l.Perm (Ec S a Ak)):=by
 refine kB Tryz.func136 rfl ?_;refine⟨λg1=>?_,λg1=>?_⟩
 ·refine kW ?_;refine⟨λg2=>absurd g2 (by simp;omega),λg2=>?_⟩
  refine kW ?_;have cH:(S.map Rr.Pl.St.v).length=S.length:=by simp
  refine Aa.Qc 7 199 3 rfl ?_;refine Aa.Aw (λk:Nat=>mk 70 [(0,Rr.Pl.KD S),(1,a.v),(2,.int .i64 Ak),(4,.ptr 0 0),(7,.own 1 3 0 (Ec (S.take k) a Ak).length),(18,Rr.Pl.KD S),(19,.int .i64 S.length),(20,.int .i64 k)]) (λk=>[.cells (adK a),.arr 199 3 (KH (Ec (S.take k) a Ak))]) (λk=>k<=S.length) (λk=>S.length-k) (λ_ _=>⟨rfl,rfl,AS _,trivial⟩) ⟨0,?_⟩ (λ_=>rfl) λk hk=>?_
  ·conv=>whnf
   repeat(refine Cg ?_ ?_;(focus (first|rfl|(simp;done)|(first|exact congrArg (AV.int .i64) (by simp);done)));conv=>whnf)
   first|exact BY _|exact⟨rfl,BY _⟩
  ·have HC:=WY (S.take k) a Ak;rw[BM]at HC;refine kR ?_;refine⟨λh=>?_,λh=>?_⟩
   ·have h:k<S.length:=by simp at h;omega
    have A7:=D4 k (by omega)
    have Af:=hS _ (CM h);have ht:=iV S a Ak k h;obtain⟨q1,q2⟩:=Af.lo;obtain⟨q3,q4⟩:=Af.hi;obtain⟨q5,q6⟩:=Af.sh;refine kW ?_;refine⟨by omega,(S[k]).v,by simp[h],?_⟩
    refine kW ?_;have Pz:MT a Ak k S[k]=none->Ec (S.take (k+1)) a Ak=Ec (S.take k) a Ak:=λe=>by rw[ht,e];simp
    have gM:MT a Ak k S[k]=if S[k].op&&decide (S[k].lo<=a.nu)&&decide (a.nu<=S[k].hi)then (match Iu S[k] a with|some c=>if c<=Ak then some ⟨k,a.nu-S[k].sh,c⟩else none|none=>none)else none:=rfl
    repeat' (first|(refine Cg (λ_=>?_) (λ_=>?_)<;>conv=>whnf)|(refine kC (qH S[k] a (by have:=Af.al;omega)) ?_)|refine Dd ?_|fail)
    rotate_left
    ·rename_i p1 p2 p3 p4 p5;obtain⟨c,hc⟩:=Option.isSome_iff_exists.1 p4;rw[hc]at p5 ⊢;simp only[E4,decide_eq_true_eq]at p5 ⊢
     have hs1:MT a Ak k S[k]=some ⟨k,a.nu-S[k].sh,c⟩:=by
      rw[gM,hc,if_pos (by simp at p1 p2 p3;simp[p1];omega)]
      simp only;rw[if_pos p5]
     rw[hs1]at ht;have hwn:Wr .i64 (a.nu-S[k].sh)=a.nu-S[k].sh:=Em (by omega)
     rw[hwn];refine⟨rfl,?_⟩;conv=>whnf
     refine⟨⟨by rw[CX],by rw[Ds,CX];simp only[List.length_singleton];omega⟩,?_⟩
     have he:KH (Ec (S.take k) a Ak)++[AV.agg [.int .i64 k,.int .i64 (a.nu-S[k].sh),.int .i64 c]]=KH (Ec (S.take (k+1)) a Ak):=by rw[ht];simp[Cd.v]
     rw[he];refine kW ?_;refine⟨k+1,?_⟩;conv=>whnf
     repeat(refine Cg ?_ ?_;(focus (first|rfl|(simp;done)|(first|exact A7|exact congrArg (AV.own 1 3 0) (CX _);done)));conv=>whnf)
     exact⟨h,by omega⟩
    all_goals
     have Ul:MT a Ak k S[k]=none:=by
      rw[gM];clear Pz ht gM Af hS;generalize Iu S[k] a=oc at*;cases oc<;>simp_all<;>intros<;>omega
     have e:=Pz Ul;refine⟨k+1,?_⟩;conv=>whnf
     repeat(refine Cg ?_ ?_;(focus (first|rfl|(simp;done)|(first|exact A7|rw[e];done)));conv=>whnf)
     exact⟨h,by omega⟩
   ·have h:k=S.length:=by simp at h;omega
    subst h;rw[C0];have HC:=WY S a Ak;refine kW ?_;refine Aj.fA 1 (RQ (Ec S a Ak) (by omega)) rfl rfl (AS _) ?_
    rintro r es ⟨rfl,l,rfl,hp⟩ hlen;refine⟨rfl,?_⟩;refine kW ?_;rw[CX,CX]at hlen;refine⟨⟨by rw[CX,hlen],AS _⟩,l,rfl,hp⟩
 ·exact absurd g1 (by simp;omega)
end Go.Proofs.YtdadkhcdoaeabaaGreatDoor
namespace Go.Proofs.YtdadkhcdoaeabaaGreatDoor
open Go.Av Go.Shelf Go.RowKit
open Rr.Pl (Pt Ad St Ch Bs Mv HT)
def NO(l:List Od)(day:Int):List Pt->Prop
 |[]|[_]=>True
 |p::q::r=>GJ l day p=some q/\NO l day (q::r)
def Zho(l:List Od)(day:Int)(p:Pt):List AV:=[.at_ [.int .i64 p.s,.int .i64 p.n],.at_ [Hr l],.at_ [.int .i64 day]]
theorem jD(l:List Od)(day:Int)(p:Pt):AO Tryz.prog 50 [Hr l,.int .i64 day,p.v] (λr=>r=.fn 79 (Zho l day p)):=by
 refine kB Tryz.func50 rfl ?_;rfl
theorem NO.at_{l:List Od}{day:Int}:∀{ps:List Pt},NO l day ps->∀(k:Nat)(h:k+1<ps.length),GJ l day ps[k]=some ps[k+1]
 |[],_,k,h|[_],_,k,h=>by simp at h
 |p::q::r,hs,0,_=>hs.1
 |p::q::r,hs,k+1,h=>NO.at_ hs.2 k (by simpa using h)
theorem tI(ps:List Pt)(k:Nat)(h:k<ps.length):(ps.map λq=>[q.v])[k]?=some [ps[k].v]:=by simp[h]
theorem qP(l:List Od)(day:Int)(p:Pt)(hl:l.length<=40)(r:List Pt)(d:Prop)(hs:NO l day (p::r))(he:d->∀q,(p::r).getLast?=some q->GJ l day q=none):Its Tryz.prog 79 (Zho l day p) ((p::r).map λq=>[q.v]) d:=by
 refine Its.A3 Tryz.func79 rfl Ag (by kernel_rfl) rfl λy I Ix Pz hy=>?_
 have hy':∀(k:Nat)(x:List AV),((p::r).map λq=>[q.v])[k]?=some x->U7 Tryz.prog (.func (.yield y) #[] #[]) x (I k) (I (k+1)) Ix:=hy
 have Zgv:¬d->∀Sw Sr w,¬(I ((p::r).map λq=>[q.v]).length).J Sw Sr w:=Pz
 clear hy Pz;rw[Cr]at Zgv;generalize qZ:p::r=ps at*;have h0:∃h:0<ps.length,ps[0]=p:=by subst qZ;exact⟨by simp,rfl⟩
 obtain⟨h0,hp0⟩:=h0;refine kW ?_;refine Aa.Aw (λk:Nat=>mk 20 [(0,.raw (.func (.yield y) #[] #[])),(1,.at_ [.int .i64 p.s,.int .i64 p.n]),(2,.at_ [Hr l]),(3,.at_ [.int .i64 day]),(5,.ptr 1 0),(6,.bool (decide (k<ps.length)))]) (λk=>[.inv (I k),.cells [.int .i64 (ps.getD k (ps.getD (k-1) p)).s,.int .i64 (ps.getD k (ps.getD (k-1) p)).n]]) (λk=>k<=ps.length) (λk=>ps.length-k) (λ_ _=>⟨rfl,rfl,trivial⟩) ⟨0,?_⟩ (λ_=>rfl) λk hk=>?_
 ·conv=>whnf
  repeat(refine Cg ?_ ?_;(focus (first|rfl|(simp;done)|(first|exact(decide_eq_true h0).symm;done)));conv=>whnf)
  have hg:ps.getD 0 (ps.getD (0-1) p)=p:=by rw[BI,Bl h0,hp0];rfl
  first|exact⟨by rw[hg],BY _⟩|exact BY _
 ·refine kR ?_;refine⟨λh=>?_,λh=>?_⟩
  ·have h:k<ps.length:=by simpa using h
   have hg:ps.getD k (ps.getD (k-1) p)=ps[k]:=by simp[h]
   rw[hg];refine kW ?_;refine⟨rfl,I (k+1),Ix,hy' k _ (tI ps k h),?_,?_⟩
   ·conv=>whnf
    by_cases hb:k+1<ps.length\/d;case neg=>exact Aa.never rfl (by rw[show k+1=ps.length from Nat.le_antisymm h (Nat.le_of_not_lt λh=>hb (.inl h))];exact Zgv λh=>hb (.inr h))
    refine kR ?_;refine kC (oE l day ps[k] hl) ?_;refine⟨k+1,?_⟩;by_cases lH:k+1<ps.length
    ·rw[NO.at_ hs k lH];conv=>whnf
     repeat(refine Cg ?_ ?_;(focus (first|rfl|(simp;done)|(first|exact(decide_eq_true lH).symm;done)));conv=>whnf)
     have hg1:ps.getD (k+1) (ps.getD (k+1-1) p)=ps[k+1]:=by simp[lH]
     exact⟨by rw[hg1];rfl,⟨by omega,by omega⟩⟩
    ·have vO:GJ l day ps[k]=none:=he (hb.resolve_left lH) _ (by rw[List.getLast?_eq_getElem?,show ps.length-1=k by omega,Bl h])
     rw[vO];conv=>whnf
     repeat(refine Cg ?_ ?_;(focus (first|rfl|(simp;done)|(first|exact(decide_eq_false lH).symm;done)));conv=>whnf)
     have hg1:ps.getD (k+1) (ps.getD (k+1-1) p)=ps[k]:=by
      rw[BI,List.getElem?_eq_none (by omega),Option.getD_none,Nat.add_sub_cancel,BI,Bl h]
      rfl
     exact⟨by rw[hg1];rfl,⟨by omega,by omega⟩⟩
   ·refine kW ?_;exact .inr rfl
  ·have h:k=ps.length:=by simp at h;omega
   refine kW ?_;exact .inl (by rw[h,Cr])
end Go.Proofs.YtdadkhcdoaeabaaGreatDoor
namespace Go.Proofs.YtdadkhcdoaeabaaGreatDoor
open Go.Av Go.Shelf Go.RowKit
open Rr.Pl (Pt)
theorem uR:laidOutB Tryz.prog=true:=by kernel_rfl
def Zs(a:AV):Prop:=∃q:Pt,a=q.v
theorem Tn{C:Ae}{w:World}{mu:Mu}{q:Pt}{v:Value}(h:Ah C w q.v mu v):v=.agg #[.int .i64 q.s,.int .i64 q.n]/\DJ .i64 q.s/\DJ .i64 q.n:=by
 unfold Pt.v Ah at h;obtain⟨cs,rfl,h⟩:=h;unfold Ab at h;obtain⟨v1,_,rfl,h1,h⟩:=h;unfold Ab at h;obtain⟨v2,_,rfl,h2,h⟩:=h;unfold Ab at h;subst h;unfold Ah at h1 h2;obtain⟨rfl,k1⟩:=h1;obtain⟨rfl,k2⟩:=h2;exact⟨rfl,k1,k2⟩
theorem WB:mJ Tryz.prog 34 Zs where
 law:=Go.Maps.Keyed.of_law (deep_law_laid uR (m:=5) (by decide) (of_decide_eq_true (by kernel_rfl)) (by kernel_rfl) (by kernel_rfl))
 free:=λa ⟨q,e⟩=>by subst e;rfl
 reads:=λC w mu a v ⟨q,e⟩ hr=>by
  subst e;obtain⟨rfl,k1,k2⟩:=Tn hr;have hu:=Tryz.underlying34;have hu3:=Tryz.underlying3;have hkt:Tryz.prog.keyType 34=true:=by kernel_rfl
  have hc:Tryz.prog.cellsOf 34=2:=by kernel_rfl
  have hc3:Tryz.prog.cellsOf 3=1:=by kernel_rfl
  have hb:Nat.ble 1 Tryz.prog.types.size=true:=by kernel_rfl
  have hb:=Eu hb;obtain⟨m,hm⟩:∃m,Tryz.prog.types.size=m+1:=⟨Tryz.prog.types.size-1,(Nat.sub_add_cancel hb).symm⟩
  have hint:∀n,DJ .i64 n->Tryz.prog.keyLits (m+1) 3 [.int .i64 n]=some [.int .i64 n]:=λn hn=>by
   unfold Hs;rw[hu3];simp only;rw[if_pos ⟨trivial,by unfold Lit.wf;unfold DJ at hn;simpa using hn⟩]
  have hl:Tryz.prog.keyLits (m+1+1) 34 [.int .i64 q.s,.int .i64 q.n]=some [.int .i64 q.s,.int .i64 q.n]:=by
   unfold Hs;rw[hu];simp only[hc];simp[hc3,hint q.s k1,hint q.n k2]
  unfold keyOf;rw[hu];simp only[hkt,Value.formed,hu,hc,hm];simp only[Value.cells];rw[hl];exact⟨_,rfl⟩
 inj:=λC w a b v ⟨p,ea⟩ ⟨q,eb⟩ h1 h2=>by
  subst ea eb;obtain⟨e1,_⟩:=Tn h1;obtain⟨e2,_⟩:=Tn h2;rw[e1]at e2;simp at e2;cases p;cases q;simp_all
 det:=λC w a u v ⟨p,ea⟩ h1 h2=>by
  subst ea;rw[(Tn h1).1,(Tn h2).1]
end Go.Proofs.YtdadkhcdoaeabaaGreatDoor
namespace Go.Proofs.YtdadkhcdoaeabaaGreatDoor
open Go.Av Go.Shelf Go.RowKit
open Rr.Pl (Pt Ad St Ch Bs Mv HT)
theorem Yr{E E0:List AV}(h:oM E E0 True):LeE E E0:=(OQ _ _ _ h).1
theorem Uu(l:List Od)(day:Int):∀(k:Nat)(seen:List Pt)(p:Pt),seen.length+k=6->seen.length<=5->seen.Nodup->
  ∃(r:List Pt) (m:Nat) (d:Prop),NO l day (p::r)/\(d->∀q,(p::r).getLast?=some q->GJ l day q=none)/\(seen++(p::r).take m).Nodup/\(seen++(p::r).take m).length<=5/\
  ((d/\m=(p::r).length/\X3 l day k seen p=(seen++p::r,0))\/(¬d/\∃(z:Pt) (er:Int),er≠0/\(p::r)[m]?=some z/\m+1=(p::r).length/\X3 l day k seen p=([],er)/\(z∈seen++(p::r).take m/\er=70\/z∉seen++(p::r).take m/\4<(seen++(p::r).take m).length/\er=2)))
 |0,seen,p,h,h5,hn=>by omega
 |k+1,seen,p,h,h5,hn=>by
  unfold X3;by_cases hm:p∈seen
  ·rw[if_pos hm];exact⟨[],0,False,trivial,λh=>h.elim,by simpa using hn,by simpa using h5,.inr ⟨id,p,70,by decide,rfl,rfl,rfl,.inl ⟨by simpa using hm,rfl⟩⟩⟩
  ·rw[if_neg hm];by_cases h4:4<seen.length
   ·rw[if_pos h4];exact⟨[],0,False,trivial,λh=>h.elim,by simpa using hn,by simpa using h5,.inr ⟨id,p,2,by decide,rfl,rfl,rfl,.inr ⟨by simpa using hm,by simpa using h4,rfl⟩⟩⟩
   ·rw[if_neg h4];have hn':(seen++[p]).Nodup:=List.nodup_append.2 ⟨hn,by simp,λx hx y hy=>by rw[FZ.1 hy];exact λe=>hm (e▸hx)⟩
    cases hq:GJ l day p with
    |none=>exact⟨[],1,True,trivial,λ_ q hq'=>by simp at hq';rw[<-hq'];exact hq,hn',by simp;omega,.inl ⟨trivial,rfl,rfl⟩⟩
    |some q=>
     simp only;obtain⟨r,m,d,h1,h2,h3,h4',h5'⟩:=Uu l day k (seen++[p]) q (by simp;omega) (by simp;omega) hn'
     refine⟨q::r,m+1,d,⟨hq,h1⟩,λhd x hx=>h2 hd x (by rw[List.getLast?_cons_cons]at hx;exact hx),by simpa using h3,by simpa using h4',?_⟩
     rcases h5' with⟨a,b,c⟩|⟨a,z,er,b1,b2,b3,b4,b5⟩;·exact .inl ⟨a,congrArg (·+1) b,by rw[c];simp⟩
     ·exact .inr ⟨a,z,er,b1,b2,congrArg (·+1) b3,b4,by simpa using b5⟩
def Eo(k:Nat):List AV:=D0 k (.lit true)
def Zhb(p:Pt)(e:Int)(ps:List Pt):List HO:=[.cells [.int .i64 p.s,.int .i64 p.n],.cells [.own 5 2 0 ps.length],.map (ps.map Pt.v) (Eo ps.length),.cells [.om 2],.cells [.int .i64 e],.arr 34 2 (ps.map Pt.v)]
def Zd4(l:List Od)(day:Int)(p:Pt):List AV:=mk 39 [(0,Hr l),(1,.int .i64 day),(2,p.v),(5,.ptr 0 0),(8,.ptr 1 0),(9,.ptr 3 0),(10,.ptr 4 0)]
theorem DT(l:List Pt):∀x∈l.map Pt.v,closed x=true:=by
 intro x hx;obtain⟨y,_,rfl⟩:=Cb.1 hx;rfl
theorem OR(l:List Pt):∀a∈l.map Pt.v,Zs a:=by
 intro x hx;obtain⟨y,_,rfl⟩:=Cb.1 hx;exact⟨y,rfl⟩
theorem kF{p q:Pt}(h:p.v=q.v):p=q:=by
 cases p;cases q
 unfold Pt.v at h;simp at h;rw[h.1,h.2]
theorem Jb:∀{l:List Pt},l.Nodup->(l.map Pt.v).Nodup
 |[],_=>FB
 |p::l,h=>by
  rw[HQ,Hx];obtain⟨h1,h2⟩:=Hx.1 h
  exact⟨λhm=>by
   obtain⟨y,hy,e⟩:=Cb.1 hm;exact h1 (kF e▸hy),Jb h2⟩
theorem Ib{p:Pt}{l:List Pt}:p.v∈l.map Pt.v↔p∈l:=
 ⟨λh=>by
  obtain⟨y,hy,e⟩:=Cb.1 h
  exact kF e▸hy,λh=>Cb.2 ⟨p,h,rfl⟩⟩
theorem PE{k j:Nat}{v:AV}(h:(Eo k)[j]?=some v):v=.lit true:=List.eq_of_mem_replicate (DE h)
theorem fC{l:List Pt}(h:l.Nodup)(k:Nat):(l.take k).Nodup:=h.sublist (List.take_sublist _ _)
theorem tY{l:List Pt}(h:l.Nodup)(k:Nat)(hk:k<l.length):l[k]∉l.take k:=λhm=>by
 obtain⟨j,hj,e⟩:=List.mem_iff_getElem.1 hm;rw[BM]at hj;rw[C3]at e;exact absurd e (List.pairwise_iff_getElem.1 h j k (by omega) hk (by omega))
theorem Lp(l:List Od)(day:Int)(p:Pt)(hl:l.length<=100000):AO Tryz.prog 24 [Hr l,.int .i64 day,p.v] (λr=>r=.tuple [Tv (AN l day p).1,.int .i64 (AN l day p).2]):=by
 refine kB Tryz.func24 rfl ?_;refine kC (KN l) ?_;refine⟨λh0=>?_,λh0=>?_⟩
 ·have h0:B1 l=false:=by simpa using h0
  have hF:AN l day p=([],1):=by unfold AN;rw[h0];rfl
  rw[hF];refine kW ?_;exact⟨2,rfl⟩
 ·have h0:B1 l=true:=by simpa using h0
  have hF:AN l day p=X3 l day 6 [] p:=by unfold AN;rw[h0];rfl
  rw[hF];refine kW ?_;refine kC (jD l day p) ?_;have ZjH:l.length<=40:=by unfold B1 at h0;simp at h0;exact h0.1
  refine Aa.GX 1 0 34 2 rfl rfl ?_;obtain⟨r,m,d,h1,h2,h3,h4,h5⟩:=Uu l day 6 [] p rfl (by simp) FB
  have VE:=qP l day p ZjH r d h1 h2;simp only[Fk]at h3 h4 h5;generalize p::r=ps at*;have hmp:m<=ps.length:=by rcases h5 with⟨_,h,_⟩|⟨_,_,_,_,_,h,_⟩<;>omega
  rw[BM,C1 hmp]at h4 h5
  refine Aa.JM (E0:=Zd4 l day p) (xs:=ps.map λq=>[q.v]) (Yr ?_) rfl rfl VE rfl (λvs k (_:Unit)=>Zhb p 0 (ps.take k)++[.ghost (Zd4 l day p) vs []]) (λk _=>k<=m) () (BY _)
   (λvs e H'=>∃(z:Pt) (er:Int),er≠0/\X3 l day 6 [] p=([],er)/\e=.exit 0/\H'=Zhb p er (ps.take m)++[.ghost (Zd4 l day p) vs [],.cells [.int .i64 z.s,.int .i64 z.n]])
   (λvs=>rfl) (λvs k _ _=>⟨rfl,rfl,by(conv=>whnf);exact⟨rfl,rfl,rfl,rfl,DT _,rfl,trivial⟩⟩) (λvs k _ x hkm hx=>?_) (λhd _ h=>?_) (λvs _ h=>?_) (λvs e H' h=>?_)
  ·conv=>whnf
   repeat first|exact trivial|(refine⟨rfl,?_⟩;conv=>whnf)
  ·have hk:k<ps.length:=by have:=(List.getElem?_eq_some_iff.1 hx).1;simpa using this
   obtain rfl:x=[ps[k].v]:=by rw[tI ps k hk]at hx;exact(G1.inj hx).symm
   refine⟨rfl,?_⟩;have hlk:(ps.take k).length=k:=by rw[BM];omega
   have Qp:=fC h3 k;rw[HM,C1 hkm]at Qp;by_cases hki:k<m
   ·have hnt:=tY h3 k (by rw[BM];omega)
    rw[C3,HM,C1 hkm]at hnt;iterate 5 (refine sT rfl ?_;conv=>whnf)
    refine Aa.FP [2] Ag ?_;conv=>whnf
    refine⟨Zs,WB,⟨_,rfl⟩,⟨OR _,Jb Qp⟩,λSf=>?_,λj v hj hv=>absurd (Ib.1 (DE hj)) hnt⟩
    refine kR ?_;refine⟨λh=>absurd (of_decide_eq_true h) (by rw[hlk];omega),λ_=>?_⟩
    conv=>whnf
    iterate 2 (refine sT rfl ?_;conv=>whnf)
    refine Aa.FP [2] Ag ?_;conv=>whnf
    refine⟨Zs,WB,⟨⟨_,rfl⟩,rfl⟩,⟨OR _,Jb Qp⟩,λSf=>?_,λj hj=>absurd (Ib.1 (DE hj)) hnt⟩
    conv=>whnf
    refine kR ?_;refine⟨rfl,?_⟩;conv=>whnf
    refine⟨⟨by simp,by rw[Ds,Cr,hlk];show(k+1)*16<=_;omega⟩,?_⟩
    conv=>whnf
    refine⟨(),hki,?_⟩;conv=>whnf
    refine kQ ?_;have e1:ps.take (k+1)=ps.take k++[ps[k]]:=A0 hk;rw[e1];refine⟨by rw[Ds,Ds,Cr];rfl,?_⟩
    conv=>whnf
    refine⟨?_,?_⟩
    ·show HO.map (List.map Pt.v (List.take k ps)++[ps[k].v]) (Eo (ps.take k).length++[.lit true])=_
     rw[E1,Ds,show Eo ((List.take k ps).length+[ps[k]].length)=Eo (List.take k ps).length++[.lit true]from List.replicate_succ']
     rfl
    refine kQ ?_;exact⟨by rw[E1];rfl,by(conv=>whnf);exact⟨rfl,trivial⟩⟩
   ·obtain rfl:k=m:=by omega
    rcases h5 with⟨_,h,_⟩|⟨_,z,er,her,hz,_,hgo,h5⟩;·omega
    obtain rfl:ps[k]=z:=by rw[Bl hk]at hz;exact G1.inj hz
    iterate 5 (refine sT rfl ?_;conv=>whnf)
    refine Aa.FP [2] Ag ?_;conv=>whnf
    refine⟨Zs,WB,⟨_,rfl⟩,⟨OR _,Jb Qp⟩,λSf=>?_,λj v hj hv=>?_⟩
    ·rcases h5 with⟨h,_⟩|⟨_,h5,rfl⟩;·exact absurd (Ib.2 h) Sf
     refine kR ?_;refine⟨λ_=>?_,λh=>absurd h (by simp;omega)⟩
     conv=>whnf
     refine kW ?_;exact⟨⟨_,rfl⟩,⟨ps[k],2,her,hgo,rfl,rfl⟩,rfl,rfl⟩
    ·rcases h5 with⟨_,rfl⟩|⟨h,_⟩;case inr=>exact absurd (Ib.1 (DE hj)) h
     obtain rfl:=PE hv;refine kW ?_;exact⟨⟨_,rfl⟩,⟨ps[k],70,her,hgo,rfl,rfl⟩,rfl,rfl⟩
  ·rw[Cr]at h;rcases h5 with⟨h,_⟩|⟨_,_,_,_,_,h5,_⟩;·exact hd h
   ·omega
  ·rw[Cr]at h;rcases h5 with⟨_,_,h5⟩|⟨_,_,_,_,_,h5,_⟩;case inr=>omega
   rw[h5,Cr,C0];refine kR ?_;refine⟨λh=>absurd h (by decide),λ_=>?_⟩
   refine kW ?_;refine⟨⟨by simp,DT _⟩,?_⟩
   rfl
  ·obtain⟨z,er,her,hgo,rfl,rfl⟩:=h;rw[hgo];conv=>whnf
   refine kW ?_;refine⟨λ_=>?_,λh=>absurd h (by simpa using her)⟩
   refine kW ?_;refine Aa.draw [] Ag mO (by kernel_rfl) ?_
   conv=>whnf
   refine kW ?_;exact⟨2,rfl⟩
theorem Io{l:List Od}{day:Int}{p:Pt}(h:(AN l day p).2=0):0<(AN l day p).1.length/\(AN l day p).1.length<=5:=by
 unfold AN at h⊢;split at h;case isFalse=>exact absurd h (by decide)
 ·rename_i hv;rw[if_pos hv];obtain⟨r,m,d,h1,h2,h3,h4,⟨_,h5,h6⟩|⟨_,z,er,h5,_,_,h6,_⟩⟩:=Uu l day 6 [] p rfl (by simp) FB
  ·rw[h5,C0]at h4;rw[h6];exact⟨by simp,h4⟩
  ·rw[h6]at h;exact absurd h h5
def JY(l:List Od)(day:Int)(a s:Pt):Pt×Bool:=if (AN l day a).2=0 then ((AN l day a).1.getD ((AN l day a).1.length-1) Mv,false)else (s,true)
theorem NH(l:List Od)(day:Int)(to_ s:Pt)(hl:l.length<=100000):AO Tryz.prog 15 [Hr l,.int .i64 day,to_.v,s.v] (λr=>r=.tuple [(JY l day to_ s).1.v,.bool (JY l day to_ s).2]):=by
 refine kB Tryz.func15 rfl ?_;refine kC (Lp l day to_ hl) ?_;unfold JY;refine⟨λh=>?_,λh=>?_⟩
 ·rw[if_neg (by simpa using h)]
  refine kW ?_;rfl
 ·have h:(AN l day to_).2=0:=by simpa using h
  rw[if_pos h];obtain⟨k1,k2⟩:=Io h;generalize (AN l day to_).1=ps at*
  have hw:Wr .i64 (((ps.map Pt.v).length:Int)-1)=((ps.length-1:Nat):Int):=by
   rw[Cr,DI _ _ (by unfold DJ IntKind.min IntKind.max HR HB;simp;omega)]
   omega
  refine kW ?_;rw[hw];refine⟨by omega,(ps.getD (ps.length-1) Mv).v,by simp[show ps.length-1<ps.length by omega],?_⟩
  refine kW ?_;rfl
end Go.Proofs.YtdadkhcdoaeabaaGreatDoor