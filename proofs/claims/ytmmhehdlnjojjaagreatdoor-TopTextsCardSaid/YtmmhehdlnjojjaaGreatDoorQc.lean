/- Comparisons that are total orders. -/
import Derived.Test.YtmmhehdlnjojjaaGreatDoorQx
import Derived.Lib.ItoaNum
import Derived.Lib.Join
import Derived.Lib.ItoaMem
import Derived.Test.YtmmhehdlnjojjaaGreatDoorKg2
import Derived.Test.YtmmhehdlnjojjaaGreatDoorQs
import Derived.Lib.AtoiAll
import Derived.Lib.IndexLaws
import Derived.Lib.Bytealg
set_option linter.unusedVariables false
set_option maxRecDepth 100000
set_option linter.unusedSectionVars false
set_option linter.unusedSimpArgs false
open Go.Proofs.Tryz
open Go.Proofs.Tryz renaming prog → Pg
open Go.Op renaming bytesLess → Ai
open List renaming getElem_mem → Am, replicate → Ao, drop_eq_getElem_cons → As, take_succ_eq_append_getElem → Ax, drop_eq_nil_of_le → AZ, mem_cons → A0, mem_of_getElem? → A2, mem_of_mem_drop → A3, getElem?_eq_some_iff → A4, getElem?_eq_getElem → A5, mem_cons_of_mem → A9, count_le_length → Bb, mem_append → Bc, getElem_of_mem → Be, mem_singleton → Bg, take_length → BG, mem_map → BQ, singleton_append → BR, map_cons → Ce, length_append → Cz, append_assoc → CJ, length_cons → C0, not_mem_nil → C1
open Bool renaming and_eq_true → Ap, and_eq_false_iff → BK, or_eq_false_iff → BU, or_eq_true → C2
open Int renaming toNat_natCast → A1
open And renaming intro → A6
open Go.IntKind renaming signed → Cb, bits → CT, min → De, max → Dj, i64 → Dk
open Nat renaming zero_add → CL, le_refl → C4, strongRecOn → C5
open Option renaming some → C3
namespace Go.Proofs.YtmmhehdlnjojjaaGreatDoor
theorem YaW{P:Prop}(e:P:=by
 refine kW ?_;refine⟨by simp,?_⟩;(conv=>whnf);refine⟨_,rfl,?_⟩;refine kW ?_;(have hw:Wr .i64 (1+((0:Nat):Int))=1:=by rw[LY _ (by decide) (by decide)];rfl);refine⟨by show 0<=Wr .i64 (1+((0:Nat):Int));rw[hw];decide,.str ws[1],by show(strs ws)[(Wr .i64 (1+((0:Nat):Int))).toNat]?=_;rw[hw];exact Jk ws 1 (by omega),?_⟩;refine kW ?_;refine Ah.BZ (Gm ws[1] (gG _ (Am _))) rfl λr hr=>?_;rcases hr with⟨v,hv,rfl⟩|⟨hv,v,rfl⟩;·refine kW ?_;refine⟨(1,v,b,c),?_⟩;refine qG ?_;refine⟨⟨by simp,?_,?_,?_⟩,by simp⟩<;>simp_all
 refine kW ?_;refine⟨1,?_⟩;(conv=>whnf);refine .inr ⟨λr h5 h6=>?_,rfl⟩;have OL:=yD h5 h6;have hf:=BT h5;subst OL;exact hv r.sc (DU hf.sc0 hf.sc1)):P:=e
theorem YaX{P:Prop}(e:P:=by
 refine kW ?_;refine⟨by simp,?_⟩;(conv=>whnf);refine⟨_,rfl,?_⟩;refine kW ?_;(have hw:Wr .i64 (1+((1:Nat):Int))=2:=by rw[LY _ (by decide) (by decide)];rfl);refine⟨by show 0<=Wr .i64 (1+((1:Nat):Int));rw[hw];decide,.str ws[2],by show(strs ws)[(Wr .i64 (1+((1:Nat):Int))).toNat]?=_;rw[hw];exact Jk ws 2 (by omega),?_⟩;refine kW ?_;refine Ah.BZ (Gm ws[2] (gG _ (Am _))) rfl λr hr=>?_;rcases hr with⟨v,hv,rfl⟩|⟨hv,v,rfl⟩;·refine kW ?_;refine⟨(2,a,v,c),?_⟩;refine qG ?_;refine⟨⟨by simp,?_,?_,?_⟩,by simp⟩<;>simp_all
 refine kW ?_;refine⟨1,?_⟩;(conv=>whnf);refine .inr ⟨λr h5 h6=>?_,rfl⟩;have OL:=yD h5 h6;have hf:=BT h5;subst OL;exact hv r.nu (DU hf.nu0 hf.nu1)):P:=e
theorem YaY{P:Prop}(e:P:=by refine qG ?_;refine⟨⟨by omega,?_,λh=>by first|exact h3|(exact absurd h (by decide))⟩,by omega⟩;rw[hp];simp[Fs,Lt,h3]):P:=e
theorem YaZ{P:Prop}(e:P:=by
 rw[hk]at hw;refine kW ?_;refine Aa.draw [] Ab mO (by kernel_rfl) ?_;conv=>whnf
 refine⟨_,⟨hs,rfl⟩,?_⟩;conv=>whnf
 refine⟨_,⟨hn,rfl⟩,?_⟩;conv=>whnf
 refine⟨_,⟨ht,rfl⟩,?_⟩;conv=>whnf
 refine kR ?_;refine⟨⟨rfl,by have:=hr.co;simp[CV];omega⟩,?_⟩;refine kW ?_;refine Ah.T9 ⟨⟨rfl,by simp[closed];exact Cm r.co⟩,.str (Lib.join (CB r) [32]),⟨hw,rfl⟩,?_⟩ (by kernel_rfl);exact Er):P:=e
theorem Ya0{P:Prop}(e:P:=by
 refine kW ?_;refine⟨1,?_⟩;conv=>whnf
 refine .inr ⟨λr h8 h9=>?_,rfl⟩;have:=hq r h8 h9;subst this;rw[h6]at h8;cases h8):P:=e
theorem Ya1{P:Prop}(e:P:=by refine .inr ⟨λr h5 h6=>?_,rfl⟩;have OL:=yD h5 h6;have hf:=BT h5;subst OL;exact hv r.ti (DU hf.ti0 hf.ti1)):P:=e
theorem Ya2{P:Prop}(e:P:=by exact⟨_,_,h3,rfl,Below.refl _ _,by unfold Aj;exact⟨rfl,by constructor<;>simp[De,Dj,CT,Cb]<;>omega⟩⟩):P:=e
theorem Ya3{P:Prop}(e:P:=by unfold Ac;refine⟨_,_,rfl,?_,?_⟩;unfold Aj;exact⟨_,rfl,by unfold Aj;trivial⟩;unfold Ac;rfl):P:=e
end Go.Proofs.YtmmhehdlnjojjaaGreatDoor
namespace Go.Proofs.YtmmhehdlnjojjaaGreatDoor.Cc.Pl
open Go.Av
structure Hb{α:Type}(c:α->α->Int):Prop where
 rng:∀x y,c x y=-1\/c x y=0\/c x y=1
 Ze6:∀x y,c y x=- c x y
 eq0:∀x y,c x y=0↔x=y
 tr:∀x y z,c x y=-1->c y z=-1->c x z=-1
def C7(m n:Int):Int:=if m<n then -1 else if n<m then 1 else 0
def FM(p q:List UInt8):Int:=if Ai p q then -1 else if Ai q p then 1 else 0
def Za8{α β:Type}(c:α->α->Int)(d:β->β->Int)(x y:α×β):Int:=if c x.1 y.1≠0 then c x.1 y.1 else d x.2 y.2
def D5{α:Type}(c:α->α->Int):List α->List α->Int
 |[],[]=>0
 |[],_::_=>-1
 |_::_,[]=>1
 |x::xs,y::ys=>if c x y≠0 then c x y else D5 c xs ys
theorem NL:Hb C7:=by
 refine⟨λx y=>?_,λx y=>?_,λx y=>?_,λx y z=>?_⟩<;>unfold C7<;>(repeat' split)<;>omega
theorem Us:∀p:List UInt8,Ai p p=false
 |[]=>rfl
 |a::p=>by simp[Ai,Us p]
theorem Ut:∀p q:List UInt8,Ai p q=true->Ai q p=false
 |[],[],h=>by cases h
 |[],_::_,_=>rfl
 |_::_,[],h=>by cases h
 |a::p,b::q,h=>by simp only[Ai,C2,Ap,decide_eq_true_eq,beq_iff_eq]at h;simp only[Ai,BU,BK,decide_eq_false_iff_not];rcases h with h|⟨rfl,h⟩;exact⟨λk=>absurd h (by have:=UInt8.lt_iff_toNat_lt.1 h;have:=UInt8.lt_iff_toNat_lt.1 k;omega),.inl (by simp;rintro rfl;exact UInt8.lt_irrefl _ h)⟩;exact⟨UInt8.lt_irrefl _,.inr (Ut p q h)⟩
theorem Uq:∀p q:List UInt8,Ai p q=false->Ai q p=false->p=q
 |[],[],_,_=>rfl
 |[],_::_,h,_=>by cases h
 |_::_,[],_,h=>by cases h
 |a::p,b::q,h,k=>by
  simp only[Ai,BU,BK,decide_eq_false_iff_not]at h k;have e:a=b:=by apply UInt8.toNat_inj.1;have h1:=mt UInt8.lt_iff_toNat_lt.2 h.1;have h2:=mt UInt8.lt_iff_toNat_lt.2 k.1;omega
  subst e;have h2:=h.2;have k2:=k.2;simp at h2 k2;rw[Uq p q h2 k2]
theorem Ur:∀p q r:List UInt8,Ai p q=true->Ai q r=true->Ai p r=true
 |_,_,[],_,k=>by simp[Ai]at k
 |_,[],_::_,h,_=>by simp[Ai]at h
 |[],_::_,_::_,_,_=>rfl
 |a::p,b::q,c::r,h,k=>by
  simp only[Ai,C2,Ap,decide_eq_true_eq,beq_iff_eq]at h k ⊢;rcases h with h|⟨rfl,h⟩
  ·rcases k with k|⟨rfl,k⟩;·exact .inl (UInt8.lt_trans h k)
   exact .inl h
  rcases k with k|⟨rfl,k⟩;exact .inl k;exact .inr ⟨rfl,Ur p q r h k⟩
theorem qS:Hb FM:=by
 refine⟨λx y=>?_,λx y=>?_,λx y=>?_,λx y z=>?_⟩
 ·unfold FM;repeat' split
  all_goals omega
 ·unfold FM;cases h:Ai x y with
  |true=>simp[Ut x y h]
  |false=>cases k:Ai y x<;>simp
 ·unfold FM;constructor
  ·intro h;cases h1:Ai x y with
   |true=>simp[h1]at h
   |false=>
    cases h2:Ai y x with
    |true=>simp[h1,h2]at h
    |false=>exact Uq x y h1 h2
  rintro rfl;simp[Us]
 unfold FM;intro h k
 have h1:Ai x y=true:=by
  cases h1:Ai x y with
  |true=>rfl
  |false=>rw[h1]at h;simp at h;split at h<;>omega
 have h2:Ai y z=true:=by
  cases h2:Ai y z with
  |true=>rfl
  |false=>rw[h2]at k;simp at k;split at k<;>omega
 simp[Ur x y z h1 h2]
theorem Hb.self{α:Type}{c:α->α->Int}(h:Hb c)(x:α):c x x=0:=(h.eq0 x x).2 rfl
theorem Hb.lex{α β:Type}{c:α->α->Int}{d:β->β->Int}(h:Hb c)(k:Hb d):Hb (Za8 c d):=by
 refine⟨λx y=>?_,λx y=>?_,λx y=>?_,λx y z=>?_⟩;unfold Za8;split;exact h.rng _ _;exact k.rng _ _;unfold Za8;rw[h.Ze6 x.1 y.1];by_cases e:c x.1 y.1=0;simp[e,k.Ze6 x.2 y.2];simp[e]
 ·unfold Za8;obtain⟨x1,x2⟩:=x;obtain⟨y1,y2⟩:=y;simp only[Prod.mk.injEq];by_cases e:c x1 y1=0;·have e1:=(h.eq0 x1 y1).1 e;subst e1;simp[e,k.eq0]
  simp only[e,ne_eq,not_false_eq_true,if_true,false_iff];rintro⟨rfl,_⟩;exact e (h.self x1)
 unfold Za8;obtain⟨x1,x2⟩:=x;obtain⟨y1,y2⟩:=y;obtain⟨z1,z2⟩:=z;simp only;intro p q;by_cases e:c x1 y1=0
 ·have:=(h.eq0 x1 y1).1 e;subst this;simp only[e,ne_eq,not_true_eq_false,if_false]at p;by_cases e':c x1 z1=0;·simp only[e',ne_eq,not_true_eq_false,if_false]at q ⊢;exact k.tr _ _ _ p q
  simp only[e',ne_eq,not_false_eq_true,if_true]at q ⊢;exact q
 simp only[e,ne_eq,not_false_eq_true,if_true]at p;by_cases e':c y1 z1=0;have:=(h.eq0 y1 z1).1 e';subst this;simp[p];simp only[e',ne_eq,not_false_eq_true,if_true]at q;have:=h.tr _ _ _ p q;simp[this]
theorem Hb.pull{α β:Type}{c:β->β->Int}(h:Hb c)(f:α->β)(hf:∀x y,f x=f y->x=y):Hb (λx y=>c (f x) (f y)):=
 ⟨λx y=>h.rng _ _,λx y=>h.Ze6 _ _,λx y=>⟨λk=>hf _ _ ((h.eq0 _ _).1 k),λk=>by subst k;exact h.self _⟩,λx y z=>h.tr _ _ _⟩
theorem W6{α:Type}{c:α->α->Int}(h:Hb c):∀xs ys:List α,D5 c xs ys=-1\/D5 c xs ys=0\/D5 c xs ys=1
 |[],[]=>.inr (.inl rfl)
 |[],_::_=>.inl rfl
 |_::_,[]=>.inr (.inr rfl)
 |x::xs,y::ys=>by unfold D5;split;exact h.rng _ _;exact W6 h xs ys
theorem Um{α:Type}{c:α->α->Int}(h:Hb c):∀xs ys:List α,D5 c ys xs=- D5 c xs ys
 |[],[]=>rfl
 |[],_::_=>rfl
 |_::_,[]=>rfl
 |x::xs,y::ys=>by unfold D5;rw[h.Ze6 x y];by_cases e:c x y=0;simp[e,Um h xs ys];simp[e]
theorem W7{α:Type}{c:α->α->Int}(h:Hb c):∀xs ys:List α,D5 c xs ys=0↔xs=ys
 |[],[]=>by simp[D5]
 |[],_::_=>by simp[D5]
 |_::_,[]=>by simp[D5]
 |x::xs,y::ys=>by unfold D5;by_cases e:c x y=0;have e1:=(h.eq0 x y).1 e;subst e1;simp[e,W7 h xs ys];simp only[e,ne_eq,not_false_eq_true,if_true,false_iff,List.cons.injEq];rintro⟨rfl,_⟩;exact e (h.self x)
theorem cC{α:Type}{c:α->α->Int}(h:Hb c):∀xs ys zs:List α,D5 c xs ys=-1->D5 c ys zs=-1->D5 c xs zs=-1
 |[],_,[],p,q=>by
  rename_i ys;cases ys with
  |nil=>cases p
  |cons _ _=>cases q
 |[],_,_::_,_,_=>rfl
 |_::_,[],_,p,_=>by cases p
 |_::_,_::_,[],_,q=>by cases q
 |x::xs,y::ys,z::zs,p,q=>by
  unfold D5 at p q⊢;by_cases e:c x y=0
  ·have:=(h.eq0 x y).1 e;subst this;simp only[e,ne_eq,not_true_eq_false,if_false]at p;by_cases e':c x z=0;·simp only[e',ne_eq,not_true_eq_false,if_false]at q ⊢;exact cC h _ _ _ p q
   simp only[e',ne_eq,not_false_eq_true,if_true]at q ⊢;exact q
  simp only[e,ne_eq,not_false_eq_true,if_true]at p;by_cases e':c y z=0;have:=(h.eq0 y z).1 e';subst this;simp[p];simp only[e',ne_eq,not_false_eq_true,if_true]at q;have:=h.tr _ _ _ p q;simp[this]
theorem Za5{α:Type}{c:α->α->Int}(h:Hb c):Hb (D5 c):=⟨W6 h,Um h,W7 h,cC h⟩
end Go.Proofs.YtmmhehdlnjojjaaGreatDoor.Cc.Pl
namespace Go.Proofs.YtmmhehdlnjojjaaGreatDoor.Cc
open Go.Av Pl
variable {n:Int}{P:Go.Program}
abbrev Bs:=List UInt8
structure Rc where
 sc:Int
 nu:Int
 ki:Int
 ti:Int
 la:Bs
 co:List Bs
deriving DecidableEq
def strs(l:List Bs):List AV:=l.map .str
theorem CW(l:List Bs)(i:Nat)(h:i<l.length):(strs l)[i]?=some (.str l[i]):=by simp[strs,h]
theorem CV(l:List Bs):(strs l).length=l.length:=by simp[strs]
def Rc.v(r:Rc):AV:=.agg [.int .i64 r.sc,.int .i64 r.nu,.int .i64 r.ki,.int .i64 r.ti,.str r.la,.sl 1 (strs r.co)]
def rcs(l:List Rc):AV:=.sl 6 (l.map Rc.v)
def Lt(a b:Rc):Int:=
 if C7 a.sc b.sc≠0 then C7 a.sc b.sc else if C7 a.nu b.nu≠0 then C7 a.nu b.nu else if C7 a.ki b.ki≠0 then C7 a.ki b.ki else
 if C7 a.ti b.ti≠0 then C7 a.ti b.ti else if FM a.la b.la≠0 then FM a.la b.la else if C7 a.co.length b.co.length≠0 then C7 a.co.length b.co.length else D5 FM a.co b.co
def Rc.key(r:Rc):Int×Int×Int×Int×Bs×Int×List Bs:=(r.sc,r.nu,r.ki,r.ti,r.la,(r.co.length:Int),r.co)
theorem qT:Hb Lt:=by
 have h:=(NL.lex (NL.lex (NL.lex (NL.lex (qS.lex (NL.lex (Za5 qS))))))).pull Rc.key (λx y h=>by cases x;cases y;simp only[Rc.key,Prod.mk.injEq]at h;obtain⟨rfl,rfl,rfl,rfl,rfl,_,rfl⟩:=h;rfl);exact h
def HW(x:Nat):Bool:=((decide (x<65)||decide (90<x))&&(decide (x<48)||decide (57<x)))&&!decide (x=46)
def Ds(s:Bs):Bool:=decide (1<=s.length)&&decide (s.length<=20)&&s.all λb=>!HW b.toNat
def F7:List Bs->List Bs->Bool
 |_,[]=>true
 |seen,x::r=>(Ds x&&!seen.contains x)&&F7 (seen++[x]) r
def AT(r:Rc):Bool:=
 decide (0<=r.sc)&&decide (r.sc<=1000000)&&(decide (0<=r.nu)&&decide (r.nu<=1000000))&&(decide (0<=r.ti)&&decide (r.ti<=1000000))&&Ds r.la&&
 (if r.ki=1 then decide (r.co.length=0)else if r.ki=2 then decide (r.co.length<=40)&&F7 [r.la] r.co else false)
def PM(k:Int):Bs:=if k=2 then [109,97,110,105,102,101,115,116]else [115,99,97,110]
def CB(r:Rc):List Bs:=[PM r.ki,Lib.itoa r.sc,Lib.itoa r.nu,Lib.itoa r.ti,r.la]++r.co
def DI(r:Rc):Bs:=if AT r then Lib.join (CB r) [32]else []
theorem P3:∀(l seen:List Bs),F7 seen l=true->∀x∈l,Ds x=true
 |[],_,_,x,hx=>by cases hx
 |y::l,seen,h,x,hx=>by have h:((Ds y&&!seen.contains y)&&F7 (seen++[y]) l)=true:=h;simp only[Ap]at h;rcases A0.1 hx with rfl|hx;exact h.1.1;exact P3 l _ h.2 x hx
structure X0(r:Rc):Prop where
 sc0:0<=r.sc
 sc1:r.sc<=1000000
 nu0:0<=r.nu
 nu1:r.nu<=1000000
 ti0:0<=r.ti
 ti1:r.ti<=1000000
 la:Ds r.la=true
 ki:(r.ki=1/\r.co=[])\/(r.ki=2/\r.co.length<=40/\F7 [r.la] r.co=true)
theorem BT{r:Rc}(h:AT r=true):X0 r:=by
 unfold AT at h;simp only[Ap,decide_eq_true_eq]at h;obtain⟨⟨⟨⟨⟨h1,h2⟩,h3,h4⟩,h5,h6⟩,h7⟩,h8⟩:=h;refine⟨h1,h2,h3,h4,h5,h6,h7,?_⟩;split at h8;·rename_i hk;exact .inl ⟨hk,List.eq_nil_of_length_eq_zero (by simpa using h8)⟩
 split at h8;·rename_i hk;simp only[Ap,decide_eq_true_eq]at h8;exact .inr ⟨hk,h8.1,h8.2⟩
 cases h8
theorem Xb{s:Bs}(h:Ds s=true):1<=s.length/\s.length<=20:=by
 unfold Ds at h;simp only[Ap,decide_eq_true_eq]at h;exact h.1
theorem X0.cos{r:Rc}(h:X0 r):r.co.length<=40/\∀x∈r.co,Ds x=true:=by
 rcases h.ki with⟨_,h2⟩|⟨_,h2,h3⟩;rw[h2];exact⟨by simp,λx hx=>by cases hx⟩;exact⟨h2,P3 _ _ h3⟩
theorem S2:∀(k u:Nat),u<10^(k+1)->(Lib.decDigits u).length<=k+1
 |0,u,h=>by unfold Lib.decDigits;rw[dif_pos (by simpa using h)];simp
 |k+1,u,h=>by unfold Lib.decDigits;split;simp;have:=S2 k (u/10) (by rw[Nat.pow_succ]at h;omega);simp;omega
theorem Km(h0:0<=n)(h1:n<=1000000):(Lib.itoa n).length<=7:=by
 unfold Lib.itoa;rw[if_neg (by omega)];exact S2 6 _ (by omega)
theorem Z6(sep:Bs)(M:Nat):∀l:List Bs,(∀x∈l,x.length<=M)->(Lib.joinTail sep l).length<=l.length*(M+sep.length)
 |[],_=>by simp[Lib.joinTail]
 |x::l,h=>by have:=Z6 sep M l (λz hz=>h z (A9 _ hz));have hx:=h x (by simp);unfold Lib.joinTail at*;simp only[Ce,List.flatten_cons,Cz,C0]at this ⊢;rw[Nat.add_mul];omega
theorem Zbf(sep:Bs)(M:Nat):∀l:List Bs,(∀x∈l,x.length<=M)->(Lib.join l sep).length<=l.length*(M+sep.length)
 |[],_=>by simp[Lib.join_nil]
 |x::l,h=>by have:=Z6 sep M l (λz hz=>h z (A9 _ hz));have hx:=h x (by simp);rw[Lib.join_cons];simp only[Cz,C0];rw[Nat.add_mul];omega
theorem Zbc(k:Int):(PM k).length<=8:=by unfold PM;split<;>simp
theorem Wl{r:Rc}(h:X0 r):(CB r).length<=45/\∀x∈CB r,x.length<=20:=by
 obtain⟨h1,h2⟩:=h.cos;unfold CB;refine⟨by simp;omega,λx hx=>?_⟩;rcases Bc.1 hx with hx|hx;simp only[A0,C1,or_false]at hx;rcases hx with rfl|rfl|rfl|rfl|rfl;have:=Zbc r.ki;omega;have:=Km h.sc0 h.sc1;omega;have:=Km h.nu0 h.nu1;omega;have:=Km h.ti0 h.ti1;omega;exact(Xb h.la).2;exact(Xb (h2 x hx)).2
theorem Tk{r:Rc}(h:X0 r):(Lib.join (CB r) [32]).length<=945:=by
 obtain⟨h1,h2⟩:=Wl h;have:=Zbf [32] 20 _ h2;simp at this;omega
theorem _root_.Go.Av.Au.lits{f:Nat}{args:List AV}{b:Bool}(h:Au P f args (λr=>r=.lit b\/r=.bool b)):Au P f args (λr=>r=.bool b):=
 ⟨h.D7,λC w vs h1 h2=>(h.out C w vs h1 h2).mono λe w' hp=>by
  obtain⟨r,v,h3,h4,h5,h6⟩:=hp
  refine⟨.bool b,v,h3,rfl,h5,?_⟩
  rcases h4 with rfl|rfl<;>(unfold Aj at*;exact h6)⟩
def Fs(k:Nat)(a b:Rc):Int:=match k with
 |0=>Lt a b
 |1=>if C7 a.nu b.nu≠0 then C7 a.nu b.nu else if C7 a.ki b.ki≠0 then C7 a.ki b.ki else if C7 a.ti b.ti≠0 then C7 a.ti b.ti else if FM a.la b.la≠0 then FM a.la b.la else if C7 a.co.length b.co.length≠0 then C7 a.co.length b.co.length else D5 FM a.co b.co
 |2=>if C7 a.ki b.ki≠0 then C7 a.ki b.ki else if C7 a.ti b.ti≠0 then C7 a.ti b.ti else if FM a.la b.la≠0 then FM a.la b.la else if C7 a.co.length b.co.length≠0 then C7 a.co.length b.co.length else D5 FM a.co b.co
 |3=>if C7 a.ti b.ti≠0 then C7 a.ti b.ti else if FM a.la b.la≠0 then FM a.la b.la else if C7 a.co.length b.co.length≠0 then C7 a.co.length b.co.length else D5 FM a.co b.co
 |4=>if FM a.la b.la≠0 then FM a.la b.la else if C7 a.co.length b.co.length≠0 then C7 a.co.length b.co.length else D5 FM a.co b.co
 |5=>if C7 a.co.length b.co.length≠0 then C7 a.co.length b.co.length else D5 FM a.co b.co
 |6=>D5 FM a.co b.co
 |_=>0
open Go.Av Pl Go.RowKit Go.Sort
theorem OW(w:World)(k:Nat)(os:Array Obj):Below w.heap.size w (grow (w.drewN k) os):=
 ⟨rfl,rfl,rfl,by simp[grow,World.drewN],λb hb=>by simp only[grow,World.drewN];rw[Array.getElem?_append_left hb]⟩
theorem Yv{C:Af}{w:World}(h:gE C w):Lib.TabIs Pg w "internal/strconv.uint64pow10" .u64 Lib.pow10Tab:=by
 have hx:(5,Lib.pow10Tab.map (AV.int .u64))∈MO:=A2 (i:=5) (by kernel_rfl);obtain⟨cur,e,fz,h1,h2⟩:=h.gs _ hx (by intro h;cases h);have hc:=h.gl _ hx;unfold Lib.TabIs World.var?;rw[show Pg.globalNamed "internal/strconv.uint64pow10"=some 5 by kernel_rfl];simp only[Option.bind_some]at h1 h2 hc ⊢;rw[h1];simp only[C3.injEq];apply Array.ext;simpa using h2;intro i h3 h4;have h5:i<(Lib.pow10Tab.map (AV.int .u64)).length:=by omega
 obtain⟨v,_,LS,hr⟩:=(Dc _ _).1 hc i h5;have:=LS.2;rw[CL,cell_of_row w _ i cur e fz h1]at this;simp only[List.getElem_map]at hr;unfold Aj at hr;obtain⟨rfl,_⟩:=hr;rw[Array.getElem?_eq_getElem h3]at this;simp only[C3.injEq]at this;rw[this];simp
theorem Hn(n:Int)(h0:-9223372036854775808<=n)(h1:n<=9223372036854775807)(hl:(Lib.itoa n).length<=9223372036854775807):Au Pg 24 [.int .i64 n] (λr=>r=.str (Lib.itoa n)):=by
 refine⟨by kernel_rfl,λC w vs AA hr=>?_⟩;unfold Ac at hr;obtain⟨v1,_,rfl,h2,hr⟩:=hr;unfold Ac at hr;subst hr;unfold Aj at h2;obtain⟨rfl,_⟩:=h2;refine(Tryz.strconv_Itoa n h0 h1 w (Yv AA)).mono λe w' ⟨h3,k,os,h4⟩=>?_;subst h4;exact⟨_,_,h3,rfl,OW w k os,by unfold Aj;exact⟨rfl,hl⟩⟩
theorem Nx(l:List Bs)(hN:l.length<=140737488355328)(hlen:(Lib.join l [32]).length<=140737488355328):Au Pg 77 [.sl 1 (strs l),.str [32]] (λr=>r=.str (Lib.join l [32])):=
 cW Tryz.PL Tryz.AN rfl (by kernel_rfl) l [32] hN hlen
open Go.Av Go.Shelf Pl
theorem jH(x:Nat)(hx:x<=1114111):Au Pg 120 [.int .i32 x] (λr=>r=.bool (HW x)):=by
 refine Au.Ak func120 rfl Ab (by kernel_rfl) ?_;conv=>whnf
 refine Ay Ab _ ?_;conv=>whnf
 have e46:((x:Int)=46)↔(x=46):=by omega
 repeat' (refine A6 (λ_=>?_) (λ_=>?_)<;>conv=>whnf)
 all_goals (refine congrArg AV.bool ?_;unfold HW;simp_all<;>first|omega|(simp only[e46]))
theorem Zh(s:ByteArray)(i:Nat):((s.get! i).toNat<128/\Utf8.decode s i=((s.get! i).toNat,1))\/(128<=(s.get! i).toNat/\128<=(Utf8.decode s i).1):=by
 unfold Utf8.decode;simp only[Nat.add_zero];split;·rename_i h;exact .inl ⟨h,rfl⟩
 rename_i h;refine .inr ⟨by omega,?_⟩;have he:(128:Nat)<=Utf8.runeError:=by decide
 repeat' split
 all_goals first|exact he|(rename_i h2;simp at h2;simp;omega)
theorem WQ(x:Nat)(h:128<=x):HW x=true:=by
 unfold HW;simp;omega
theorem Xh(s:ByteArray):∀(f pos:Nat),s.size<=pos+f->(0<=Lib.idxFuncFrom HW true s f pos↔∃i,pos<=i/\i<s.size/\HW (s.get! i).toNat=true)
 |0,pos,h=>by unfold Lib.idxFuncFrom;constructor;intro h;omega;rintro⟨i,h1,h2,_⟩;omega
 |f+1,pos,h=>by
  unfold Lib.idxFuncFrom;by_cases hp:pos<s.size
  ·rw[if_pos hp];rcases Zh s pos with⟨h1,h2⟩|⟨h1,h2⟩
   ·rw[h2];by_cases ho:HW (s.get! pos).toNat=true;·rw[if_pos ho];exact⟨λ_=>⟨pos,C4 _,hp,ho⟩,λ_=>by omega⟩
    rw[if_neg ho,Xh s f (pos+1) (by omega)];constructor;·rintro⟨i,k1,k2,k3⟩;exact⟨i,by omega,k2,k3⟩
    rintro⟨i,k1,k2,k3⟩;refine⟨i,?_,k2,k3⟩;rcases Nat.eq_or_lt_of_le k1 with rfl|h;exact absurd k3 ho;exact h
   rw[if_pos (WQ _ h2)];exact⟨λ_=>⟨pos,C4 _,hp,WQ _ h1⟩,λ_=>by omega⟩
  rw[if_neg hp];constructor;intro h;omega;rintro⟨i,h1,h2,_⟩;omega
theorem Zeb(s:List UInt8):(0<=Lib.idxFunc HW true ⟨s.toArray⟩)↔(s.all λb=>!HW b.toNat)=false:=by
 unfold Lib.idxFunc;have hs:(⟨s.toArray⟩:ByteArray).size=s.length:=by simp[ByteArray.size]
 have hg:∀i (h:i<s.length),(⟨s.toArray⟩:ByteArray).get! i=s[i]:=λi h=>by simp[ByteArray.get!,h]
 rw[Xh _ _ _ (by omega),hs,List.all_eq_false];constructor;·rintro⟨i,_,h2,h3⟩;rw[hg i h2]at h3;exact⟨s[i],Am h2,by simp[h3]⟩
 rintro⟨b,hb,h3⟩;obtain⟨i,hi,rfl⟩:=Be hb;exact⟨i,Nat.zero_le _,hi,by rw[hg i hi];simpa using h3⟩
theorem PS(s:List UInt8)(hs:s.length<=9223372036854775807):Au Pg 74 [.str s] (λr=>r=.bool (Ds s)):=by
 refine Au.Ak func74 rfl Ab (by kernel_rfl) ?_;conv=>whnf
 refine Ay Ab _ ?_;conv=>whnf
 refine A6 (λh1=>?_) (λh1=>?_)
 ·conv=>whnf
  have h1:1<=s.length:=by simp at h1;omega
  refine A6 (λh2=>?_) (λh2=>?_);·(have h2:¬s.length<=20:=by simp at h2;omega);(conv=>whnf);simp[Ds,h2]
  have h2:s.length<=20:=by simp at h2;omega
  conv=>whnf
  refine cS (Ro Tryz.Zba (g:=120) rfl (by kernel_rfl) (enters_of func120 (by kernel_rfl) rfl) (p:=HW) (cap:=[]) (λx hx=>jH x hx) s) rfl ?_;conv=>whnf
  refine congrArg AV.bool ?_;have hi:=Zeb s;cases ha:s.all λb=>!HW b.toNat with
  |false=>rw[decide_eq_true (hi.2 ha)];simp only[Ds,ha,Bool.and_false];rfl
  |true=>rw[decide_eq_false (λh=>by rw[hi.1 h]at ha;cases ha)];simp[Ds,ha,h1,h2]
 have h1:¬1<=s.length:=by simp at h1;omega
 conv=>whnf
 simp[Ds,h1]
def Hm(seen:List Bs):List HO:=[.map (strs seen) (seen.map λ_=>.lit true),.cells [.om 0]]
theorem W8(s:Bs)(seen:List Bs):∀a∈strs seen,Ij (.str s) a=true:=by
 intro a ha;obtain⟨x,_,rfl⟩:=BQ.1 ha;rfl
theorem QU(s:Bs):∀seen:List Bs,(IQ (.str s) (strs seen)).isSome=seen.contains s
 |[]=>rfl
 |x::seen=>by
  have ih:=QU s seen;unfold strs at*;simp only[Ce,IQ,Kl,List.contains_cons];cases h:(s == x)with
  |true=>simp
  |false=>simp[ih]
theorem W4(s:Bs)(seen:List Bs):(QV (.str s) (strs seen) (seen.map λ_=>AV.lit true)=none/\seen.contains s=false)\/(QV (.str s) (strs seen) (seen.map λ_=>AV.lit true)=some (.lit true)/\seen.contains s=true):=by
 have h:=QU s seen;unfold QV;cases hm:IQ (.str s) (strs seen)with
 |none=>rw[hm]at h;exact .inl ⟨rfl,h.symm⟩
 |some i=>
  rw[hm]at h;refine .inr ⟨?_,h.symm⟩
  have hi:i<seen.length:=by
   have:∀(l:List Bs)(i:Nat),IQ (.str s) (strs l)=some i->i<l.length:=by
    intro l
    induction l with
    |nil=>intro i h;cases h
    |cons x l ih=>
     intro i h;unfold strs at*;simp only[Ce,IQ]at h;cases hk:Kl (.str s) (.str x)with
     |true=>rw[hk]at h;simp at h;subst h;simp
     |false=>
      rw[hk]at h;simp only[cond_false,Option.map_eq_some_iff]at h;obtain⟨j,hj,rfl⟩:=h;have:=ih j hj;simp;omega
   exact this seen i hm
  simp[hi]
theorem aZ(s:Bs)(seen:List Bs)(h:seen.contains s=false):Ob (.str s) (strs seen)=strs (seen++[s])/\Oa (.str s) (.lit true) (strs seen) (seen.map λ_=>AV.lit true)=(seen++[s]).map λ_=>AV.lit true:=by
 have hm:IQ (.str s) (strs seen)=none:=by
  have:=QU s seen;rw[h]at this;cases hh:IQ (.str s) (strs seen)with
  |none=>rfl
  |some i=>rw[hh]at this;cases this
 unfold Ob Oa;rw[hm];simp[strs]
theorem _root_.Go.Av.Bq.lits{f:Go.FuncId}{args:List AV}{H0:List HO}{R':Bool->List HO->Prop}{X:AV->List HO->Prop}(h:Bq P f args H0 (λr H=>∃b,(r=.lit b\/r=.bool b)/\R' b H) X):
  Bq P f args H0 (λr H=>∃b,r=.bool b/\R' b H) X:=
 ⟨h.D7,λC mu w vs h1 h2 h3=>(h.out C mu w vs h1 h2 h3).mono λe w' hp=>by
  obtain⟨r,v,H1,C',mu',ho,hp,hh,hr,rest⟩:=hp
  rcases ho with⟨he,b,hb,hR⟩|⟨he,hX⟩
  ·refine⟨.bool b,v,H1,C',mu',.inl ⟨he,b,rfl,hR⟩,hp,hh,?_,rest⟩
   rcases hb with rfl|rfl<;>(unfold Aj at*;exact hr)
  ·exact⟨r,v,H1,C',mu',.inr ⟨he,hX⟩,hp,hh,hr,rest⟩⟩
theorem Za1(s:Bs)(seen:List Bs)(hs:s.length<=9223372036854775807):Bq Pg 122 [.str s,.ptr 1 0] (Hm seen)
  (λr H1=>∃b,r=.bool b/\b=!(Ds s&&!seen.contains s)/\H1=Hm (bif b then seen else seen++[s])) (λ_ _=>False):=by
 refine Bq.lits ?_;refine Bq.Ak func122 rfl Ab (by kernel_rfl) rfl ?_;refine kW ?_;repeat(first|(refine cS (PS s hs) rfl ?_;conv=>whnf)|(refine sT rfl ?_;conv=>whnf))
 constructor<;>intro h
 ·have h:Ds s=true:=by simpa using h
  refine kW ?_;refine⟨W8 s seen,λhg=>?_,λv hv=>?_⟩;·(have hc:seen.contains s=false:=by rcases W4 s seen with k|k;exact k.2;rw[k.1]at hg;cases hg);refine kW ?_;refine⟨W8 s seen,?_⟩;rw[(aZ s seen hc).1,(aZ s seen hc).2];refine kW ?_;exact⟨false,.inl rfl,by rw[h,hc];rfl,rfl⟩
  have hc:seen.contains s=true/\v=.lit true:=by rcases W4 s seen with k|k;rw[k.1]at hv;cases hv;rw[k.1]at hv;cases hv;exact⟨k.2,rfl⟩
  obtain⟨hc,rfl⟩:=hc;refine kW ?_;exact⟨true,.inl rfl,by rw[h,hc];rfl,rfl⟩
 have h:Ds s=false:=by simpa using h
 refine kW ?_;exact⟨true,.inl rfl,by rw[h];rfl,rfl⟩
theorem eG(seen:List Bs)(x:Bs)(r:List Bs):F7 seen (x::r)=((Ds x&&!seen.contains x)&&F7 (seen++[x]) r):=rfl
theorem dD(l seen:List Bs)(hl:l.length<=100000)(hx:∀x∈l,x.length<=9223372036854775807):Bq Pg 86 [.sl 1 (strs l),.fn 122 [.ptr 1 0]] (Hm seen)
  (λr H1=>∃(i:Int) (Wt:List Bs),r=.int .i64 i/\(0<=i↔F7 seen l=false)/\H1=Hm Wt) (λ_ _=>False):=by
 refine Bq.Ak func86 rfl Ab (by kernel_rfl) rfl ?_;refine kW ?_;refine Aa.G6 (λk:Nat=>mk 19 [(0,.sl 1 (strs l)),(1,.fn 122 [.ptr 1 0]),(6,.sl 1 (strs l)),(7,.int .i64 (strs l).length),(8,.int .i64 k)]) (λk=>Hm (seen++l.take k)) (λk=>k<=l.length/\F7 seen l=F7 (seen++l.take k) (l.drop k)) (λk=>l.length-k) ⟨0,?_⟩ λk hk=>?_;refine kQ ?_;simp;obtain⟨hk,hp⟩:=hk;refine kR ?_;constructor<;>intro h
 ·have h:k<l.length:=by simp[strs]at h;omega
  have hd:l.drop k=l[k]::l.drop (k+1):=As h;have ht:l.take (k+1)=l.take k++[l[k]]:=by rw[Ax h]
  rw[hd,eG]at hp;refine kW ?_;repeat(first|(refine⟨by omega,.str l[k],(by exact CW l k h),?_⟩;conv=>whnf)|(refine sT rfl ?_;conv=>whnf))
  refine Ah.Fv (Za1 l[k] (seen++l.take k) (hx _ (Am h))) rfl ⟨rfl,rfl,rfl,trivial⟩ ?_ (λr H1 h=>h.elim);rintro r H1 ⟨b,rfl,hb,rfl⟩;cases b with
  |true=>
   (have hb:(Ds l[k]&&!(seen++l.take k).contains l[k])=false:=by have:=hb;cases hq:(Ds l[k]&&!(seen++l.take k).contains l[k])with|false=>rfl|true=>rw[hq]at this;cases this);refine kW ?_;refine⟨λ_=>?_,λh=>by cases h⟩;refine kW ?_;exact⟨k,_,rfl,by rw[hp,hb];simp,rfl⟩
  |false=>
   (have hb:(Ds l[k]&&!(seen++l.take k).contains l[k])=true:=by have:=hb;cases hq:(Ds l[k]&&!(seen++l.take k).contains l[k])with|true=>rfl|false=>rw[hq]at this;cases this);refine kW ?_;refine⟨λh=>(by cases h),λ_=>?_⟩;refine kW ?_;refine⟨k+1,?_⟩;(conv=>whnf);(repeat(refine A6 ?_ ?_;(focus (first|rfl|(simp;done)|(first|(rw[qW];done)|(rw[qW];omega);done)));conv=>whnf));rw[ht,<-CJ];exact⟨rfl,⟨by omega,by rw[hp,hb];rfl⟩,by omega⟩
 have h:k=l.length:=by simp[strs]at h;omega
 refine kW ?_;refine⟨-1,_,rfl,?_,rfl⟩;rw[hp,h,List.drop_length];simp[F7]
theorem Vj(l seen:List Bs)(hl:l.length<=100000)(hx:∀x∈l,x.length<=9223372036854775807):Bq Pg 41 [.sl 1 (strs l),.fn 122 [.ptr 1 0]] (Hm seen)
  (λr H1=>∃Wt,r=.bool (!F7 seen l)/\H1=Hm Wt) (λ_ _=>False):=by
 refine Bq.Ak func41 rfl Ab (by kernel_rfl) rfl ?_;refine kW ?_;refine Ah.Fv (dD l seen hl hx) rfl ⟨rfl,rfl,rfl,trivial⟩ ?_ (λr H1 h=>h.elim);rintro r H1 ⟨i,Wt,rfl,hi,rfl⟩;refine kW ?_;refine⟨Wt,?_,rfl⟩;refine congrArg AV.bool ?_;cases hf:F7 seen l with
 |false=>simp[hi.2 hf]
 |true=>
  have:¬0<=i:=λh=>by rw[hi.1 h]at hf;cases hf
  simp;omega
theorem Ve(la:Bs)(co:List Bs)(hl:co.length<=100000)(hx:∀x∈co,x.length<=9223372036854775807):Au Pg 75 [.str la,.sl 1 (strs co)] (λr=>r=.bool (F7 [la] co)):=by
 refine kB func75 rfl ?_;refine⟨λa h=>(by cases h),?_⟩;rw[show Ob (.str la) []=strs [la]from rfl,show Oa (.str la) (.lit true) [] []=([la]:List Bs).map λ_=>AV.lit true from rfl];refine kW ?_;refine Ah.Fv (Vj co [la] hl hx) rfl ⟨rfl,rfl,rfl,trivial⟩ ?_ (λr H1 h=>h.elim);rintro r H1 ⟨Wt,rfl,rfl⟩;refine kW ?_;simp
def XC(n m:Int):Bool:=decide (0<=n)&&decide (n<=m)
theorem Rf(n m:Int):Au Pg 73 [.int .i64 n,.int .i64 m] (λr=>r=.bool (XC n m)):=by
 refine Au.lits ?_;refine kB func73 rfl ?_
 repeat' (first|(refine A6 (λ_=>?_) (λ_=>?_)<;>conv=>whnf)|refine Ql ?_|fail)
 all_goals (simp_all[XC]<;>omega)
theorem Zm(r:Rc):AT r=(XC r.sc 1000000&&XC r.nu 1000000&&XC r.ti 1000000&&Ds r.la&&(if r.ki=1 then decide (r.co.length=0)else if r.ki=2 then decide (r.co.length<=40)&&F7 [r.la] r.co else false)):=by
 unfold AT XC;rfl
theorem FL(r:Rc)(h1:r.la.length<=9223372036854775807)(hl:r.co.length<=100000)(hx:∀x∈r.co,x.length<=9223372036854775807):Au Pg 23 [r.v] (λx=>x=.bool (AT r)):=by
 refine Au.lits ?_;rw[Zm];refine kB func23 rfl ?_
 repeat' (first|(refine A6 (λ_=>?_) (λ_=>?_)<;>conv=>whnf)|(refine kC (Rf r.sc 1000000) ?_)|(refine kC (Rf r.nu 1000000) ?_)|(refine kC (Rf r.ti 1000000) ?_)|(refine kC (PS r.la h1) ?_)|(refine kC (Ve r.la r.co hl hx) ?_)|refine Ql ?_|fail)
 all_goals first|exact .inr (congrArg AV.bool (by simp_all[CV]<;>intros<;>omega))|exact .inl (congrArg AV.lit (by simp_all[CV]<;>intros<;>omega))
structure ZcH(r:Rc):Prop where
 la:r.la.length<=9223372036854775807
 co:r.co.length<=100000
 cx:∀x∈r.co,x.length<=9223372036854775807
abbrev rv(l:List Rc):List AV:=l.map Rc.v
theorem uH(l:List Bs)(hN:l.length<=140737488355328)(hlen:(Lib.join l [32]).length<=140737488355328):Au Pg 25 [.sl 1 (strs l)] (λr=>r=.str (Lib.join l [32])):=by
 refine kB func25 rfl ?_;repeat(first|(refine cS (Nx l hN hlen) rfl ?_;conv=>whnf)|(refine sT rfl ?_;conv=>whnf))
theorem Cm(l:List Bs):∀a∈strs l,closed a=true:=by
 intro a ha;obtain⟨x,_,rfl⟩:=BQ.1 ha;rfl
theorem J1(r:Rc)(hr:ZcH r):Au Pg 7 [r.v] (λx=>x=.str (DI r)):=by
 refine kB func7 rfl ?_;repeat(first|(refine cS (FL r hr.la hr.co hr.cx) rfl ?_;conv=>whnf)|(refine sT rfl ?_;conv=>whnf))
 constructor<;>intro h
 ·have h:AT r=false:=by simpa using h
  refine kW ?_;simp[DI,h]
 have h:AT r=true:=by simpa using h
 have hf:=BT h;have e:DI r=Lib.join (CB r) [32]:=by simp[DI,h]
 rw[e];have hw:=uH (CB r) (by have:=(Wl hf).1;omega) (by have:=Tk hf;omega);have hs:=Hn r.sc (by have:=hf.sc0;omega) (by have:=hf.sc1;omega) (by have:=Km hf.sc0 hf.sc1;omega);have hn:=Hn r.nu (by have:=hf.nu0;omega) (by have:=hf.nu1;omega) (by have:=Km hf.nu0 hf.nu1;omega);have ht:=Hn r.ti (by have:=hf.ti0;omega) (by have:=hf.ti1;omega) (by have:=Km hf.ti0 hf.ti1;omega);refine kW ?_;constructor<;>intro h2
 ·have h2:r.ki=2:=by simpa using h2
  have hk:strs (CB r)=[.str [109,97,110,105,102,101,115,116],.str (Lib.itoa r.sc),.str (Lib.itoa r.nu),.str (Lib.itoa r.ti),.str r.la]++strs r.co:=by simp[strs,CB,PM,h2]
  exact YaZ
 have h2:¬r.ki=2:=by simpa using h2
 have hk:strs (CB r)=[.str [115,99,97,110],.str (Lib.itoa r.sc),.str (Lib.itoa r.nu),.str (Lib.itoa r.ti),.str r.la]++strs r.co:=by simp[strs,CB,PM,h2]
 exact YaZ
def splitB:Bs->List Bs
 |[]=>[[]]
 |x::r=>if x=32 then []::splitB r else match splitB r with
  |[]=>[[x]]
  |y::ys=>(x::y)::ys
theorem RL(x:UInt8)(r:Bs):splitB (x::r)=if x=32 then []::splitB r else match splitB r with
  |[]=>[[x]]
  |y::ys=>(x::y)::ys:=rfl
theorem iF:∀s:Bs,1<=(splitB s).length
 |[]=>by simp[splitB]
 |x::r=>by unfold splitB;split;simp;split<;>simp
theorem Jm:∀{s:Bs},(32:UInt8)∉s->splitB s=[s]
 |[],_=>rfl
 |x::r,h=>by simp only[A0,not_or]at h;unfold splitB;rw[if_neg (Ne.symm h.1),Jm h.2]
theorem K3:∀{a:Bs}(r:Bs),(32:UInt8)∉a->splitB (a++32::r)=a::splitB r
 |[],r,_=>by simp[splitB]
 |x::a,r,h=>by simp only[A0,not_or]at h;rw[List.cons_append,RL,if_neg (Ne.symm h.1),K3 r h.2]
theorem K1:∀s:Bs,(splitB s).length=s.count 32+1
 |[]=>rfl
 |x::r=>by
  have ih:=K1 r;unfold splitB;by_cases hx:x=32;rw[if_pos hx,hx];simp[ih];rw[if_neg hx];have hb:(x == 32)=false:=by simpa using hx
  rw[List.count_cons,hb];cases hs:splitB r with
  |nil=>rw[hs]at ih;simp at ih
  |cons y ys=>rw[hs]at ih;simpa using ih
theorem Tu:∀(s:Bs),∀w∈splitB s,w.length<=s.length
 |[],w,h=>by simp[splitB]at h;simp[h]
 |x::r,w,h=>by
  have ih:=Tu r;rw[RL]at h;split at h
  ·rcases A0.1 h with rfl|h;·simp
   have:=ih w h;simp;omega
  split at h;rw[Bg]at h;subst h;simp;rename_i y ys hs;rw[hs]at ih;rcases A0.1 h with rfl|h;have:=ih y (by simp);simp;omega;have:=ih w (by simp[h]);simp;omega
theorem sE{s:Bs}{m:Nat}(h:s[m]?=some 32)(hb:∀k,k<m->s[k]?≠some 32):splitB s=s.take m::splitB (s.drop (m+1)):=by
 have hm:m<s.length:=(A4.1 h).1
 have e:s=s.take m++32::s.drop (m+1):=by
  have h2:s.drop m=s[m]::s.drop (m+1):=As hm;have h3:s[m]=32:=by have:=A5 hm;rw[h]at this;exact(C3.inj this).symm
  rw[<-h3,<-h2,List.take_append_drop]
 have hn:(32:UInt8)∉s.take m:=by intro hc;obtain⟨i,hi,he⟩:=Be hc;simp only[List.length_take]at hi;refine hb i (by omega) ?_;rw[List.getElem_take]at he;rw[A5 (by omega),he]
 have:=K3 (s.drop (m+1)) hn;rw[<-e]at this;exact this
theorem RJ{s:Bs}(h:∀k:Nat,s[k]?≠some 32):splitB s=[s]:=by
 refine Jm λhc=>?_;obtain⟨i,hi,he⟩:=Be hc;exact h i (by rw[A5 hi,he])
theorem RI:∀(ws:List Bs),ws≠[]->(∀w∈ws,(32:UInt8)∉w)->splitB (Lib.join ws [32])=ws
 |[],h,_=>absurd rfl h
 |[w],_,h=>by simpa[Lib.join,Lib.joinTail]using Jm (h w (by simp))
 |w::v::ws,_,h=>by
  have ih:=RI (v::ws) (by simp) λx hx=>h x (A9 _ hx);have e:Lib.join (w::v::ws) [32]=w++32::Lib.join (v::ws) [32]:=by simp[Lib.join,Lib.joinTail]
  rw[e,K3 _ (h w (by simp)),ih]
theorem I1(d:Nat)(h:d<10):(UInt8.ofNat (48+d)).toNat=48+d:=by
 simp[UInt8.toNat_ofNat'];omega
theorem Rn:∀(u:Nat),∀c∈Lib.decDigits u,48<=c.toNat/\c.toNat<=57:=by
 intro u
 induction u using C5 with
 |_ u ih=>
  intro c hc;rw[Lib.decDigits]at hc;split at hc;·rename_i h;rw[Bg]at hc;subst hc;rw[I1 u h];omega
  rename_i h;rcases Bc.1 hc with hc|hc;exact ih (u/10) (by omega) c hc;simp only[Bg]at hc;subst hc;rw[I1 _ (Nat.mod_lt _ (by omega))];omega
theorem wQ:∀(u:Nat),u<1000000000000->∀r,Lib.parseUint10 0 (Lib.decDigits u++r)=Lib.parseUint10 u r:=by
 intro u
 induction u using C5 with
 |_ u ih=>
  intro hu r;rw[Lib.decDigits];split;·rename_i h;rw[BR,Lib.parseUint10,I1 u h,if_pos (by omega),if_neg (by omega),if_neg (by omega)];simp
  rename_i h;rw[CJ,ih (u/10) (by omega) (by omega),BR,Lib.parseUint10,I1 _ (Nat.mod_lt _ (by omega)),if_pos (by omega),if_neg (by omega),if_neg (by omega)];congr 1;omega
theorem Zco(u:Nat):Lib.decDigits u≠[]:=by
 rw[Lib.decDigits];split<;>simp
theorem DU(h0:0<=n)(h1:n<=1000000):Lib.atoiAll (Lib.itoa n)=.ok n:=by
 obtain⟨u,rfl⟩:∃u:Nat,n=u:=⟨n.toNat,by omega⟩;have e:Lib.itoa (u:Int)=Lib.decDigits u:=by unfold Lib.itoa;rw[if_neg (by omega)];simp
 rw[e];have hb:=Rn u;have hp:=wQ u (by omega) [];have hn:=Zco u;rw[List.append_nil]at hp;cases hd:Lib.decDigits u with
 |nil=>exact absurd hd hn
 |cons c r=>
  rw[hd]at hb hp;have hc:=hb c (by simp);unfold Lib.atoiAll;simp only;rw[if_neg (by omega)];unfold Lib.parseMag;rw[if_neg (by simp),hp];simp only[Lib.parseUint10];rw[if_neg (by omega),if_neg (by omega),if_neg (by omega)]
theorem Ko(h0:0<=n):(32:UInt8)∉Lib.itoa n:=by
 obtain⟨u,rfl⟩:∃u:Nat,n=u:=⟨n.toNat,by omega⟩;have e:Lib.itoa (u:Int)=Lib.decDigits u:=by unfold Lib.itoa;rw[if_neg (by omega)];simp
 rw[e];intro hc;have:=Rn u _ hc;have h32:(32:UInt8).toNat=32:=rfl;omega
theorem UA{s:Bs}(h:Ds s=true):(32:UInt8)∉s:=by
 intro hc;unfold Ds at h;simp only[Ap,List.all_eq_true]at h;have:=h.2 _ hc;exact absurd this (by decide)
theorem gS{r:Rc}(h:X0 r):∀w∈CB r,(32:UInt8)∉w:=by
 intro w hw;unfold CB at hw;rcases Bc.1 hw with hw|hw
 ·simp only[A0,C1,or_false]at hw;rcases hw with rfl|rfl|rfl|rfl|rfl;·unfold PM;split<;>decide
  exact Ko h.sc0;exact Ko h.nu0;exact Ko h.ti0;exact UA h.la
 exact UA (h.cos.2 w hw)
theorem Om{r:Rc}(h:AT r=true):splitB (DI r)=CB r:=by
 unfold DI;rw[if_pos h];exact RI _ (by simp[CB]) (gS (BT h))
theorem Qg{r:Rc}(h:AT r=true){ws:List Bs}(hw:ws=CB r){a b c ki:Int}(h5:5<=ws.length)(ha:Lib.atoiAll ws[1]=.ok a)(hb:Lib.atoiAll ws[2]=.ok b)(hc:Lib.atoiAll ws[3]=.ok c)
  (hk:(ws[0]=[109,97,110,105,102,101,115,116]/\ki=2)\/(ws[0]≠[109,97,110,105,102,101,115,116]/\ki=1)):r=⟨a,b,ki,c,ws[4],ws.drop 5⟩:=by
 subst hw;have hf:=BT h;have e1:Lib.atoiAll (CB r)[1]=.ok r.sc:=DU hf.sc0 hf.sc1;have e2:Lib.atoiAll (CB r)[2]=.ok r.nu:=DU hf.nu0 hf.nu1;have e3:Lib.atoiAll (CB r)[3]=.ok r.ti:=DU hf.ti0 hf.ti1;rw[e1]at ha;rw[e2]at hb;rw[e3]at hc;injection ha with ha;injection hb with hb;injection hc with hc;have e4:(CB r)[4]=r.la:=rfl;have e5:(CB r).drop 5=r.co:=rfl;have e0:(CB r)[0]=PM r.ki:=rfl;rw[e4,e5];rw[e0]at hk;have hki:r.ki=ki:=by rcases hf.ki with⟨k,_⟩|⟨k,_⟩;rw[k]at hk ⊢;rcases hk with⟨m,_⟩|⟨_,m⟩;exact absurd m (by decide);exact m.symm;rw[k]at hk ⊢;rcases hk with⟨_,m⟩|⟨m,_⟩;exact m.symm;exact absurd rfl m
 subst ha hb hc hki;rfl
open Go.Av Go.Shelf Pl Go.RowKit
theorem Lr(s:Bs):Au Pg 126 [.str s,.str [32]] (λr=>r=.int .i64 (Lib.countByte s 32)):=by
 refine⟨by kernel_rfl,λC w vs AA hr=>?_⟩;unfold Ac at hr;obtain⟨v1,_,rfl,h2,hr⟩:=hr;unfold Ac at hr;obtain⟨v2,_,rfl,h3,hr⟩:=hr;unfold Ac at hr;subst hr;unfold Aj at h2 h3;obtain⟨rfl,hs⟩:=h2;obtain⟨rfl,_⟩:=h3;refine(Tryz.strings_Count_one ⟨s.toArray⟩ 32 w).mono λe w' ⟨h3,h4⟩=>?_;subst h4;have hc:Lib.countByte s 32<=s.length:=Bb;exact Ya2
theorem index_spec(s:Bs):Au Pg 127 [.str s,.str [32]] (λr=>r=.int .i64 (Lib.indexByte s 32)):=by
 refine⟨by kernel_rfl,λC w vs AA hr=>?_⟩;unfold Ac at hr;obtain⟨v1,_,rfl,h2,hr⟩:=hr;unfold Ac at hr;obtain⟨v2,_,rfl,h3,hr⟩:=hr;unfold Ac at hr;subst hr;unfold Aj at h2 h3;obtain⟨rfl,hs⟩:=h2;obtain⟨rfl,_⟩:=h3;refine(Tryz.strings_Index_one ⟨s.toArray⟩ 32 w).mono λe w' ⟨h3,h4⟩=>?_;subst h4;have hc:-1<=Lib.indexByte s 32:=Lib.indexByte_ge s 32;have hd:Lib.indexByte s 32<=s.length:=by by_cases h:Lib.indexByte s 32=-1;omega;obtain⟨o,ho⟩:∃o:Nat,Lib.indexByte s 32=o:=⟨(Lib.indexByte s 32).toNat,by omega⟩;have:=(A4.1 (Lib.indexByte_some ho).1).1;omega
 exact Ya2
theorem nH(d:List Bs)(n:Nat):∀a∈strs d++Ao n (AV.str []),closed a=true:=by
 intro a ha;rcases Bc.1 ha with ha|ha;obtain⟨x,_,rfl⟩:=BQ.1 ha;rfl;rw[List.eq_of_mem_replicate ha];rfl
theorem rC(d:List Bs)(N:Nat)(h:d.length<N):(strs d++Ao (N-d.length) (AV.str []))[0+((d.length:Nat):Int).toNat]?=some (AV.str []):=by
 obtain⟨k,hk⟩:∃k,N-d.length=k+1:=⟨N-d.length-1,by omega⟩;rw[CL,A1,List.getElem?_append_right (by simp[strs]),hk];simp[strs]
theorem rB(d:List Bs)(N:Nat)(t:Bs)(h:d.length<N):(strs d++Ao (N-d.length) (AV.str [])).set (0+((d.length:Nat):Int).toNat) (.str t)=strs (d++[t])++Ao (N-(d++[t]).length) (AV.str []):=by
 obtain⟨k,hk⟩:∃k,N-d.length=k+1:=⟨N-d.length-1,by omega⟩;have kZ:N-(d++[t]).length=k:=by simp;omega
 rw[CL,A1,List.set_append_right (h:=by simp[strs]),hk,kZ];simp[strs,List.replicate_succ]
theorem V7(s:Bs)(hs:s.length<=1000000):Au Pg 78 [.str s,.str [32],.int .i64 0,.int .i64 (-1)] (λr=>r=.sl 1 (strs (splitB s))):=by
 refine kB func78 rfl ?_;refine⟨λh=>absurd h (by decide),λ_=>?_⟩;refine kW ?_;refine⟨λh=>absurd h (by decide),λ_=>?_⟩;refine kW ?_;refine⟨λ_=>?_,λh=>absurd h (by decide)⟩;refine kW ?_;refine kC (Lr s) ?_;have hc:Lib.countByte s 32<=s.length:=Bb;have hn:(splitB s).length=Lib.countByte s 32+1:=K1 s;have hm:min (Wr Dk ((Lib.countByte s 32:Nat)+1)) (Wr Dk ((s.length:Nat)+1))=(((splitB s).length:Nat):Int):=by rw[qW,qW];omega
 rw[hm,A1];refine⟨by omega,?_⟩;refine kW ?_;generalize hN:(splitB s).length=N at*;have hN1:1<=N:=by omega
 refine Aa.Ar (λd:List Bs×Bs=>mk 66 [(0,.str d.2),(1,.str [32]),(2,.int .i64 0),(3,.int .i64 ((N:Int)-1)),(8,.raw (Value.slice none 0 0)),(9,.own 0 1 0 N),(10,.int .i64 d.1.length)]) (λd=>[.arr 9 1 (strs d.1++Ao (N-d.1.length) (AV.str []))])
  (λd=>splitB s=d.1++splitB d.2/\d.2.length<=s.length) (λd=>N-d.1.length) (λ_ _=>⟨rfl,nH _ _,trivial⟩) ⟨([],s),?_⟩ (λ_=>rfl) λ⟨d,t⟩ hd=>?_
 ·conv=>whnf
  repeat(refine A6 ?_ ?_;(focus (first|rfl|(simp;done)|(first|(rw[qW];done)|(simp[strs];done);done)));conv=>whnf)
  exact C4 _
 obtain⟨hd,ht⟩:=hd;simp only at hd ht;have hdl:d.length+(splitB t).length=N:=by rw[<-hN,hd];simp
 have htp:=iF t;refine kR ?_;constructor<;>intro h
 ·have h:d.length<N-1:=by simp at h;omega
  refine kW ?_;refine kC (index_spec t) ?_;constructor<;>intro h2;exfalso;(have h2:Lib.indexByte t 32=-1:=by have:=Lib.indexByte_ge t 32;simp at h2;omega);have:=RJ (Lib.indexByte_none h2);rw[this]at hdl;simp at hdl;omega;obtain⟨m,hm2⟩:∃m:Nat,Lib.indexByte t 32=m:=⟨(Lib.indexByte t 32).toNat,by simp at h2;omega⟩;rw[hm2];obtain⟨i1,i2⟩:=Lib.indexByte_some hm2;have hml:m<t.length:=(A4.1 i1).1;have gH:(m:Int)+0=m:=by omega
  refine kW ?_;rw[gH,qW];refine⟨by simp only;omega,?_⟩;refine kW ?_;refine⟨by simp only;omega,?_⟩;refine kW ?_;refine⟨_,rC d N (by omega),?_⟩;refine kW ?_;have h32:(m:Int)+((([32]:List UInt8).length:Nat):Int)=((m+1:Nat):Int):=rfl;rw[h32,qW];refine⟨by simp only;omega,?_⟩;refine kW ?_;refine⟨(d++[t.take m],t.drop (m+1)),?_⟩;have pJ:=sE i1 i2;conv=>whnf
  repeat(refine A6 ?_ ?_;(focus (first|rfl|(simp;done)|(first|(rw[LY _ (by simp only;omega) (by simp only;omega)];simp;done)|(simp;omega);done)));conv=>whnf)
  refine⟨congrArg (HO.arr _ 1) (rB d N (t.take m) (by omega)),⟨?_,by simp;omega⟩,by simp;omega⟩;rw[hd,pJ];simp
 have h:d.length=N-1:=by simp at h;omega
 have h1:(splitB t).length=1:=by omega
 have ht1:splitB t=[t]:=by refine RJ λk hk=>?_;have h2:=K1 t;have h3:0<List.count 32 t:=List.count_pos_iff.2 (A2 hk);omega
 refine kW ?_;refine⟨by simp only;omega,?_⟩;refine kW ?_;refine⟨_,rC d N (by omega),?_⟩;refine kW ?_;rw[LY _ (by simp only;omega) (by simp only;omega)];refine⟨by simp only;omega,?_⟩;refine kW ?_
 have e:(strs d++Ao (N-d.length) (AV.str [])).set (0+((d.length:Nat):Int).toNat) (.str t)=strs (splitB s):=by
  have h2:N-(d++[t]).length=0:=by simp;omega
  rw[rB d N t (by omega),h2,hd,ht1];simp
 refine⟨⟨?_,?_⟩,?_⟩;show _=((strs d++Ao (N-d.length) (AV.str [])).set (0+((d.length:Nat):Int).toNat) (.str t)).length;rw[e,CV,hN];simp only;omega;show ∀a∈(strs d++Ao (N-d.length) (AV.str [])).set (0+((d.length:Nat):Int).toNat) (.str t),closed a=true;rw[e];intro a ha;obtain⟨x,_,rfl⟩:=BQ.1 ha;rfl;exact congrArg (AV.sl 1) e
theorem Tr(s:Bs)(hs:s.length<=1000000):Au Pg 26 [.str s,.str [32]] (λr=>r=.sl 1 (strs (splitB s))):=by
 refine kB func26 rfl ?_;repeat(first|(refine cS (V7 s hs) rfl ?_;conv=>whnf)|(refine sT rfl ?_;conv=>whnf))
theorem bytesWorld_below(w:World)(e:TypeId)(s:ByteArray):Below w.heap.size w (Lib.bytesWorld w e s):=
 ⟨rfl,rfl,rfl,by rw[Lib.bytesWorld_size];omega,λk hk=>Lib.bytesWorld_at_old w e s k (by omega)⟩
theorem ZcB{s:Bs}{v:Int}(h:Lib.atoiAll s=.ok v):IU .i64 v:=by
 unfold Lib.atoiAll at h;split at h;cases h;simp only at h;split at h;cases h;cases h;split at h;cases h;split at h;cases h;injection h with h;constructor<;>simp[De,Dj,CT,Cb]<;>split at h<;>omega
theorem qM{C:Af}{w:World}(h:gE C w)(g:Nat)(hx:(g,[AV.iface 272 .any])∈MO):∃ev,w.cell? ⟨g,0,none⟩=some ev/\(ev=.nilIface\/∃te pe,ev=.iface te pe):=by
 have hc:=h.gl _ hx;unfold Cells at hc;obtain⟨⟨v,_,LS,hr⟩,_⟩:=hc;unfold Aj at hr;obtain⟨y,rfl,_⟩:=hr;exact⟨_,LS.2,.inr ⟨_,_,rfl⟩⟩
theorem Gm(s:Bs)(hs:s.length<=1000000):Au Pg 27 [.str s] (λr=>(∃v,Lib.atoiAll s=.ok v/\r=.tuple [.int .i64 v,.raw .nilIface])\/((∀v,Lib.atoiAll s≠.ok v)/\∃v,r=.tuple [.int .i64 v,.iface 182 .any])):=by
 refine⟨by kernel_rfl,λC w vs AA hr=>?_⟩;unfold Ac at hr;obtain⟨v1,_,rfl,h2,hr⟩:=hr;unfold Ac at hr;subst hr;unfold Aj at h2;obtain⟨rfl,hl⟩:=h2;rcases ha:Lib.atoiAll s with v|_|_
 ·skip;refine(Tryz.strconv_Atoi_ok ⟨s.toArray⟩ (by simp[ByteArray.size];omega) v (by simpa using ha) w).mono λe w' ⟨h3,h4⟩=>?_;refine⟨_,_,h3,.inl ⟨v,rfl,rfl⟩,?_,?_⟩
  ·rcases h4 with rfl|⟨t,rfl⟩;·exact Below.refl _ _
   exact bytesWorld_below _ _ _
  unfold Aj;refine⟨_,rfl,?_⟩;unfold Ac;refine⟨_,_,rfl,?_,?_⟩;unfold Aj;exact⟨rfl,ZcB ha⟩;unfold Ac;refine⟨_,_,rfl,?_,?_⟩;unfold Aj;rfl;unfold Ac;rfl
 ·skip;obtain⟨ev,hv,lC⟩:=qM AA 2 (A2 (i:=2) (by kernel_rfl));refine(Tryz.strconv_Atoi_syntax ⟨s.toArray⟩ (by simp[ByteArray.size];omega) (show Lib.atoiAll s=Lib.atoiAll []from ha) ev w hv lC).mono λe w' ⟨N,h3,h4,h5,h6⟩=>?_;refine⟨_,_,h3,.inr ⟨λv hv=>(by cases hv),0,rfl⟩,h6,?_⟩;unfold Aj;refine⟨_,rfl,?_⟩;unfold Ac;refine⟨_,_,rfl,?_,?_⟩;·unfold Aj;exact⟨rfl,by constructor<;>decide⟩
  exact Ya3
 skip;obtain⟨ev,hv,lC⟩:=qM AA 3 (A2 (i:=3) (by kernel_rfl));refine(Tryz.strconv_Atoi_range ⟨s.toArray⟩ (by simp[ByteArray.size];omega) (by simpa using ha) ev w hv lC).mono λe w' ⟨N,h3,h4,h5,h6⟩=>?_;refine⟨_,_,h3,.inr ⟨λv hv=>(by cases hv),Lib.atoiSat s,rfl⟩,h6,?_⟩;unfold Aj;refine⟨_,rfl,?_⟩;unfold Ac;refine⟨_,_,rfl,?_,?_⟩;·unfold Aj;exact⟨rfl,by unfold Lib.atoiSat;split<;>constructor<;>decide⟩
 exact Ya3
def ZiN:Rc:=⟨0,0,0,0,[],[]⟩
def Zh0(text:Bs)(x:AV):Prop:=
 (∃r,AT r=true/\DI r=text/\x=.tuple [r.v,.int .i64 0])\/((∀r,AT r=true->DI r≠text)/\x=.tuple [ZiN.v,.int .i64 1])
theorem bI{text:Bs}{r:Rc}(h:AT r=true)(ht:DI r=text):splitB text=CB r:=by rw[<-ht];exact Om h
theorem jE{text:Bs}{r:Rc}(h:AT r=true)(ht:DI r=text):text.length<=945:=by
 rw[<-ht];unfold DI;rw[if_pos h];exact Tk (BT h)
theorem Jk(l:List Bs)(i:Nat)(h:i<l.length):(strs l)[i]?=some (.str l[i]):=CW l i h
theorem TU(text:Bs)(hl:text.length<=9223372036854775807):Au Pg 8 [.str text] (Zh0 text):=by
 refine kB func8 rfl ?_;constructor<;>intro h
 ·have h:1000<text.length:=by simp at h;omega
  refine kW ?_;refine⟨1,?_⟩;conv=>whnf
  exact .inr ⟨λr h1 h2=>by have:=jE h1 h2;omega,rfl⟩
 have h:text.length<=1000:=by simp at h;omega
 refine kW ?_;refine kC (Tr text (by omega)) ?_;have yD:=@bI text;have gG:∀w∈splitB text,w.length<=1000000:=λw hw=>by have:=Tu text w hw;omega
 have hwn:(splitB text).length<=1001:=by have:=K1 text;have:=(Bb:List.count 32 text<=text.length);omega
 generalize splitB text=ws at*;constructor<;>intro h2
 ·have h2:ws.length<5:=by simp[CV]at h2;omega
  refine kW ?_;refine⟨1,?_⟩;conv=>whnf
  exact .inr ⟨λr h3 h4=>by have:=yD h3 h4;rw[this]at h2;simp[CB]at h2;omega,rfl⟩
 have h2:5<=ws.length:=by simp[CV]at h2;omega
 refine kW ?_;refine⟨by decide,.str ws[4],Jk ws 4 (by omega),?_⟩;refine kW ?_;refine⟨by decide,.str ws[0],Jk ws 0 (by omega),?_⟩;refine kW ?_;constructor<;>intro h3
 ·have hki:(ws[0]=[109,97,110,105,102,101,115,116]/\(2:Int)=2)\/(ws[0]≠[109,97,110,105,102,101,115,116]/\(2:Int)=1):=.inl ⟨by simpa using h3,rfl⟩;refine kW ?_
  refine Aa.G6 (λs:Nat×Int×Int×Int=>mk 72 [(0,.str text),(2,.ptr 0 0),(3,.int .i64 0),(4,.sl 1 (strs ws)),(5,.ptr 1 0),(32,.own 2 1 0 3),(33,.int .i64 3),(34,.int .i64 s.1)])
   (λs=>[.cells [.int .i64 0,.int .i64 0,.int .i64 0,.int .i64 0,.str [],.raw (.slice none 0 0)],.cells [.int .i64 s.2.1,.int .i64 s.2.2.1,.int .i64 2,.int .i64 s.2.2.2,.str ws[4],.raw (.slice none 0 0)],.arr 72 1 [.ptr 1 0,.ptr 1 1,.ptr 1 3]])
   (λs=>s.1<=3/\(if 1<=s.1 then Lib.atoiAll ws[1]=.ok s.2.1 else s.2.1=0)/\(if 2<=s.1 then Lib.atoiAll ws[2]=.ok s.2.2.1 else s.2.2.1=0)/\(if 3<=s.1 then Lib.atoiAll ws[3]=.ok s.2.2.2 else s.2.2.2=0)) (λs=>3-s.1) ⟨(0,0,0,0),?_⟩ λ⟨k,a,b,c⟩ hk=>?_
  ·(conv=>whnf);repeat(refine A6 ?_ ?_;(focus (first|rfl|(simp;done)));conv=>whnf)
  obtain⟨hk,hka,hkb,pR⟩:=hk;simp only at hk hka hkb pR;refine kR ?_;constructor<;>intro h4
  ·(have h4:k=0\/k=1\/k=2:=by simp at h4;omega);rcases h4 with rfl|rfl|rfl
   ·exact YaW
   ·exact YaX
   refine kW ?_;refine⟨by simp,?_⟩;(conv=>whnf);refine⟨_,rfl,?_⟩;refine kW ?_;(have hw:Wr .i64 (1+((2:Nat):Int))=3:=by rw[LY _ (by decide) (by decide)];rfl);refine⟨by show 0<=Wr .i64 (1+((2:Nat):Int));rw[hw];decide,.str ws[3],by show(strs ws)[(Wr .i64 (1+((2:Nat):Int))).toNat]?=_;rw[hw];exact Jk ws 3 (by omega),?_⟩;refine kW ?_;refine Ah.BZ (Gm ws[3] (gG _ (Am _))) rfl λr hr=>?_;rcases hr with⟨v,hv,rfl⟩|⟨hv,v,rfl⟩;·refine kW ?_;refine⟨(3,a,b,v),?_⟩;refine qG ?_;refine⟨⟨by simp,?_,?_,?_⟩,by simp⟩<;>simp_all
   refine kW ?_;refine⟨1,?_⟩;(conv=>whnf);exact Ya1
  have h4:k=3:=by simp at h4;omega
  subst h4;simp at hka hkb pR;refine kW ?_;constructor<;>intro h5
  ·(have h5:5<ws.length:=by simp[CV]at h5;omega);refine kW ?_;refine⟨by rw[CV];omega,?_⟩;rw[show List.drop (Int.toNat 5) (List.take (((strs ws).length:Nat):Int).toNat (strs ws))=strs (ws.drop 5) by rw[A1,BG];simp[strs]];refine kW ?_;have hq:∀r,AT r=true->DI r=text->r=⟨a,b,2,c,ws[4],ws.drop 5⟩:=λr h6 h7=>Qg h6 (yD h6 h7) h2 hka hkb pR hki;have Nz:ZcH ⟨a,b,2,c,ws[4],ws.drop 5⟩:=⟨by have:=gG _ (Am (show 4<ws.length by omega));simp only;omega,by simp;omega,λx hx=>by have:=gG x (A3 hx);omega⟩;refine kC (FL ⟨a,b,2,c,ws[4],ws.drop 5⟩ Nz.la Nz.co Nz.cx) ?_;constructor<;>intro h6
   ·(have h6:AT ⟨a,b,2,c,ws[4],ws.drop 5⟩=true:=by simpa using h6);refine kW ?_;skip;refine kC (J1 ⟨a,b,2,c,ws[4],ws.drop 5⟩ Nz) ?_;constructor<;>intro h7;·(have h7:DI ⟨a,b,2,c,ws[4],ws.drop 5⟩≠text:=by simpa using h7);refine kW ?_;refine⟨1,?_⟩;(conv=>whnf);refine .inr ⟨λr h8 h9=>?_,rfl⟩;have:=hq r h8 h9;subst this;exact h7 h9
    (have h7:DI ⟨a,b,2,c,ws[4],ws.drop 5⟩=text:=by simpa using h7);refine kW ?_;exact .inl ⟨_,h6,h7,rfl⟩
   (have h6:AT ⟨a,b,2,c,ws[4],ws.drop 5⟩=false:=by simpa using h6);refine kW ?_;refine⟨1,?_⟩;(conv=>whnf);refine .inr ⟨λr h8 h9=>?_,rfl⟩;have:=hq r h8 h9;subst this;rw[h6]at h8;cases h8
  have h5:ws.length=5:=by simp[CV]at h5;omega
  refine kW ?_;have hd:ws.drop 5=[]:=AZ (by omega);refine Ah.args (args':=[(Rc.mk a b 2 c ws[4] []).v]) ⟨⟨rfl,rfl,rfl,rfl,rfl,trivial,trivial⟩,trivial⟩ ?_;rw[<-hd];have hq:∀r,AT r=true->DI r=text->r=⟨a,b,2,c,ws[4],ws.drop 5⟩:=λr h6 h7=>Qg h6 (yD h6 h7) h2 hka hkb pR hki;have Nz:ZcH ⟨a,b,2,c,ws[4],ws.drop 5⟩:=⟨by have:=gG _ (Am (show 4<ws.length by omega));simp only;omega,by simp;omega,λx hx=>by have:=gG x (A3 hx);omega⟩;refine kC (FL ⟨a,b,2,c,ws[4],ws.drop 5⟩ Nz.la Nz.co Nz.cx) ?_;constructor<;>intro h6
  ·(have h6:AT ⟨a,b,2,c,ws[4],ws.drop 5⟩=true:=by simpa using h6);refine kW ?_;refine Ah.args (args':=[(Rc.mk a b 2 c ws[4] []).v]) ⟨⟨rfl,rfl,rfl,rfl,rfl,trivial,trivial⟩,trivial⟩ ?_;rw[<-hd];refine kC (J1 ⟨a,b,2,c,ws[4],ws.drop 5⟩ Nz) ?_;constructor<;>intro h7;·(have h7:DI ⟨a,b,2,c,ws[4],ws.drop 5⟩≠text:=by simpa using h7);refine kW ?_;refine⟨1,?_⟩;(conv=>whnf);refine .inr ⟨λr h8 h9=>?_,rfl⟩;have:=hq r h8 h9;subst this;exact h7 h9
   (have h7:DI ⟨a,b,2,c,ws[4],ws.drop 5⟩=text:=by simpa using h7);refine kW ?_;refine⟨1,?_⟩;(conv=>whnf);refine .inl ⟨_,h6,h7,?_⟩;rw[hd];rfl
  have h6:AT ⟨a,b,2,c,ws[4],ws.drop 5⟩=false:=by simpa using h6
  exact Ya0
 have hki:(ws[0]=[109,97,110,105,102,101,115,116]/\(1:Int)=2)\/(ws[0]≠[109,97,110,105,102,101,115,116]/\(1:Int)=1):=.inr ⟨by simpa using h3,rfl⟩;refine kW ?_
 refine Aa.G6 (λs:Nat×Int×Int×Int=>mk 72 [(0,.str text),(2,.ptr 0 0),(3,.int .i64 0),(4,.sl 1 (strs ws)),(5,.ptr 1 0),(32,.own 2 1 0 3),(33,.int .i64 3),(34,.int .i64 s.1)])
  (λs=>[.cells [.int .i64 0,.int .i64 0,.int .i64 0,.int .i64 0,.str [],.raw (.slice none 0 0)],.cells [.int .i64 s.2.1,.int .i64 s.2.2.1,.int .i64 1,.int .i64 s.2.2.2,.str ws[4],.raw (.slice none 0 0)],.arr 72 1 [.ptr 1 0,.ptr 1 1,.ptr 1 3]])
  (λs=>s.1<=3/\(if 1<=s.1 then Lib.atoiAll ws[1]=.ok s.2.1 else s.2.1=0)/\(if 2<=s.1 then Lib.atoiAll ws[2]=.ok s.2.2.1 else s.2.2.1=0)/\(if 3<=s.1 then Lib.atoiAll ws[3]=.ok s.2.2.2 else s.2.2.2=0)) (λs=>3-s.1) ⟨(0,0,0,0),?_⟩ λ⟨k,a,b,c⟩ hk=>?_
 ·conv=>whnf
  repeat(refine A6 ?_ ?_;(focus (first|rfl|(simp;done)));conv=>whnf)
 obtain⟨hk,hka,hkb,pR⟩:=hk;simp only at hk hka hkb pR;refine kR ?_;constructor<;>intro h4
 ·have h4:k=0\/k=1\/k=2:=by simp at h4;omega
  rcases h4 with rfl|rfl|rfl
  ·exact YaW
  ·exact YaX
  refine kW ?_;refine⟨by simp,?_⟩;conv=>whnf
  refine⟨_,rfl,?_⟩;refine kW ?_;have hw:Wr .i64 (1+((2:Nat):Int))=3:=by rw[LY _ (by decide) (by decide)];rfl
  refine⟨by show 0<=Wr .i64 (1+((2:Nat):Int));rw[hw];decide,.str ws[3],by show(strs ws)[(Wr .i64 (1+((2:Nat):Int))).toNat]?=_;rw[hw];exact Jk ws 3 (by omega),?_⟩;refine kW ?_;refine Ah.BZ (Gm ws[3] (gG _ (Am _))) rfl λr hr=>?_;rcases hr with⟨v,hv,rfl⟩|⟨hv,v,rfl⟩;·refine kW ?_;refine⟨(3,a,b,v),?_⟩;refine qG ?_;refine⟨⟨by simp,?_,?_,?_⟩,by simp⟩<;>simp_all
  refine kW ?_;refine⟨1,?_⟩;conv=>whnf
  exact Ya1
 have h4:k=3:=by simp at h4;omega
 subst h4;simp at hka hkb pR;refine kW ?_;constructor<;>intro h5
 ·have h5:5<ws.length:=by simp[CV]at h5;omega
  refine kW ?_;refine⟨by rw[CV];omega,?_⟩;rw[show List.drop (Int.toNat 5) (List.take (((strs ws).length:Nat):Int).toNat (strs ws))=strs (ws.drop 5) by rw[A1,BG];simp[strs]];refine kW ?_;have hq:∀r,AT r=true->DI r=text->r=⟨a,b,1,c,ws[4],ws.drop 5⟩:=λr h6 h7=>Qg h6 (yD h6 h7) h2 hka hkb pR hki;have Nz:ZcH ⟨a,b,1,c,ws[4],ws.drop 5⟩:=⟨by have:=gG _ (Am (show 4<ws.length by omega));simp only;omega,by simp;omega,λx hx=>by have:=gG x (A3 hx);omega⟩;refine kC (FL ⟨a,b,1,c,ws[4],ws.drop 5⟩ Nz.la Nz.co Nz.cx) ?_;constructor<;>intro h6
  ·(have h6:AT ⟨a,b,1,c,ws[4],ws.drop 5⟩=true:=by simpa using h6);refine kW ?_;skip;refine kC (J1 ⟨a,b,1,c,ws[4],ws.drop 5⟩ Nz) ?_;constructor<;>intro h7;·(have h7:DI ⟨a,b,1,c,ws[4],ws.drop 5⟩≠text:=by simpa using h7);refine kW ?_;refine⟨1,?_⟩;(conv=>whnf);refine .inr ⟨λr h8 h9=>?_,rfl⟩;have:=hq r h8 h9;subst this;exact h7 h9
   (have h7:DI ⟨a,b,1,c,ws[4],ws.drop 5⟩=text:=by simpa using h7);refine kW ?_;exact .inl ⟨_,h6,h7,rfl⟩
  have h6:AT ⟨a,b,1,c,ws[4],ws.drop 5⟩=false:=by simpa using h6
  exact Ya0
 have h5:ws.length=5:=by simp[CV]at h5;omega
 refine kW ?_;have hd:ws.drop 5=[]:=AZ (by omega);refine Ah.args (args':=[(Rc.mk a b 1 c ws[4] []).v]) ⟨⟨rfl,rfl,rfl,rfl,rfl,trivial,trivial⟩,trivial⟩ ?_;rw[<-hd];have hq:∀r,AT r=true->DI r=text->r=⟨a,b,1,c,ws[4],ws.drop 5⟩:=λr h6 h7=>Qg h6 (yD h6 h7) h2 hka hkb pR hki;have Nz:ZcH ⟨a,b,1,c,ws[4],ws.drop 5⟩:=⟨by have:=gG _ (Am (show 4<ws.length by omega));simp only;omega,by simp;omega,λx hx=>by have:=gG x (A3 hx);omega⟩;refine kC (FL ⟨a,b,1,c,ws[4],ws.drop 5⟩ Nz.la Nz.co Nz.cx) ?_;constructor<;>intro h6
 ·have h6:AT ⟨a,b,1,c,ws[4],ws.drop 5⟩=true:=by simpa using h6
  refine kW ?_;refine Ah.args (args':=[(Rc.mk a b 1 c ws[4] []).v]) ⟨⟨rfl,rfl,rfl,rfl,rfl,trivial,trivial⟩,trivial⟩ ?_;rw[<-hd];refine kC (J1 ⟨a,b,1,c,ws[4],ws.drop 5⟩ Nz) ?_;constructor<;>intro h7;·(have h7:DI ⟨a,b,1,c,ws[4],ws.drop 5⟩≠text:=by simpa using h7);refine kW ?_;refine⟨1,?_⟩;(conv=>whnf);refine .inr ⟨λr h8 h9=>?_,rfl⟩;have:=hq r h8 h9;subst this;exact h7 h9
  have h7:DI ⟨a,b,1,c,ws[4],ws.drop 5⟩=text:=by simpa using h7
  refine kW ?_;refine⟨1,?_⟩;conv=>whnf
  refine .inl ⟨_,h6,h7,?_⟩;rw[hd];rfl
 have h6:AT ⟨a,b,1,c,ws[4],ws.drop 5⟩=false:=by simpa using h6
 exact Ya0
theorem Zae(l:List Rc)(i:Nat)(h:i<l.length):(rv l)[i]?=some l[i].v:=by simp[rv,h]
theorem GB(a b:Int):Au Pg 81 [.int .i64 a,.int .i64 b] (λr=>r=.int .i64 (C7 a b)):=by
 refine kB func81 rfl ?_;constructor<;>intro h;refine kW ?_;refine congrArg (AV.int .i64) ?_;simp at h;unfold C7;rw[if_pos h];refine kW ?_;simp at h;constructor<;>intro h2;simp at h2;refine kW ?_;refine congrArg (AV.int .i64) ?_;unfold C7;rw[if_neg (by omega),if_pos (by omega)];simp at h2;refine kW ?_;refine congrArg (AV.int .i64) ?_;unfold C7;rw[if_neg (by omega),if_neg (by omega)]
theorem Tj(a b:Bs):Au Pg 82 [.str a,.str b] (λr=>r=.int .i64 (FM a b)):=by
 refine kB func82 rfl ?_;constructor<;>intro h;refine kW ?_;refine congrArg (AV.int .i64) ?_;have h:Ai a b=true:=h;unfold FM;rw[if_pos h];refine kW ?_;constructor<;>intro h2
 ·refine kW ?_;refine congrArg (AV.int .i64) ?_;have h:Ai a b=false:=h
  have h2:Ai b a=true:=by
   cases hb:Ai b a with
   |true=>rfl
   |false=>rw[h,Uq a b h hb]at h2;simp at h2
  simp[FM,h,h2]
 refine kW ?_;refine congrArg (AV.int .i64) ?_;have h:Ai a b=false:=h
 have h2:Ai b a=false:=by
  cases hb:Ai b a with
  |false=>rfl
  |true=>
   exfalso;(have h3:a=b:=by simpa[h]using h2);rw[h3,Us]at hb;cases hb
 simp[FM,h,h2]
theorem ZeS(n:Nat){F:List HO}:CR F (Ao n .dead) True:=by
 induction n with
 |zero=>trivial
 |succ n ih=>exact ih
theorem Zgc{F:List HO}{ca cb:List AV}(h1:AR F ca=true)(h2:AR F cb=true)(n:Nat):CR F ([.cells ca,.cells cb]++Ao n .dead) True:=⟨h1,h2,ZeS n⟩
theorem VO(a b:Rc)(ha:a.co.length<=100000):Au Pg 28 [a.v,b.v] (λr=>r=.int .i64 (Lt a b)):=by
 refine kB func28 rfl ?_;refine Aa.draw [] Ab mO (by kernel_rfl) ?_;conv=>whnf
 refine⟨_,⟨GB a.sc b.sc,rfl⟩,?_⟩;conv=>whnf
 refine⟨_,⟨GB a.nu b.nu,rfl⟩,?_⟩;conv=>whnf
 refine⟨_,⟨GB a.ki b.ki,rfl⟩,?_⟩;conv=>whnf
 refine⟨_,⟨GB a.ti b.ti,rfl⟩,?_⟩;conv=>whnf
 refine⟨_,⟨Tj a.la b.la,rfl⟩,?_⟩;conv=>whnf
 rw[CV,CV];refine⟨_,⟨GB a.co.length b.co.length,rfl⟩,?_⟩;conv=>whnf
 refine kR ?_;refine Aa.freeze 34 ?_;conv=>whnf
 refine⟨by simp[closed],?_⟩;conv=>whnf
 repeat(refine⟨(by first|rfl|(simp;done):(_:Nat)=_),?_⟩;conv=>whnf)
 refine kR ?_
 refine Aa.G6 (λk:Nat=>mk 78 [(2,.ptr 0 0),(3,.ptr 1 0),(4,.int .i64 0),(5,.sl 1 [.int .i64 (C7 a.sc b.sc),.int .i64 (C7 a.nu b.nu),.int .i64 (C7 a.ki b.ki),.int .i64 (C7 a.ti b.ti),.int .i64 (FM a.la b.la),.int .i64 (C7 a.co.length b.co.length)]),(6,.int .i64 k)])
  (λ_=>[.cells [.int .i64 a.sc,.int .i64 a.nu,.int .i64 a.ki,.int .i64 a.ti,.str a.la,.sl 1 (strs a.co)],.cells [.int .i64 b.sc,.int .i64 b.nu,.int .i64 b.ki,.int .i64 b.ti,.str b.la,.sl 1 (strs b.co)]]++Ao 34 .dead)
  (λk=>k<=6/\Lt a b=Fs k a b/\(k=6->C7 a.co.length b.co.length=0)) (λk=>6-k) ⟨0,?_⟩ λk hk=>?_
 refine kQ ?_;exact λh=>by cases h
 obtain⟨hk,hp,hq⟩:=hk;refine kR ?_;constructor<;>intro h
 ·have h:k=0\/k=1\/k=2\/k=3\/k=4\/k=5:=by simp at h;omega
  rcases h with rfl|rfl|rfl|rfl|rfl|rfl
  ·refine kW ?_;refine⟨by decide,_,rfl,?_⟩;refine kW ?_;constructor<;>intro h3;·(have h3:C7 a.sc b.sc≠0:=by simpa using h3);refine kW ?_;refine⟨by decide,_,rfl,?_⟩;refine kW ?_;rw[hp];refine congrArg (AV.int .i64) ?_;simp[Fs,Lt,h3]
   (have h3:C7 a.sc b.sc=0:=by simpa using h3);refine kW ?_;refine⟨1,?_⟩;exact YaY
  ·refine kW ?_;refine⟨by decide,_,rfl,?_⟩;refine kW ?_;constructor<;>intro h3;·(have h3:C7 a.nu b.nu≠0:=by simpa using h3);refine kW ?_;refine⟨by decide,_,rfl,?_⟩;refine kW ?_;rw[hp];refine congrArg (AV.int .i64) ?_;simp[Fs,Lt,h3]
   (have h3:C7 a.nu b.nu=0:=by simpa using h3);refine kW ?_;refine⟨2,?_⟩;exact YaY
  ·refine kW ?_;refine⟨by decide,_,rfl,?_⟩;refine kW ?_;constructor<;>intro h3;·(have h3:C7 a.ki b.ki≠0:=by simpa using h3);refine kW ?_;refine⟨by decide,_,rfl,?_⟩;refine kW ?_;rw[hp];refine congrArg (AV.int .i64) ?_;simp[Fs,Lt,h3]
   (have h3:C7 a.ki b.ki=0:=by simpa using h3);refine kW ?_;refine⟨3,?_⟩;exact YaY
  ·refine kW ?_;refine⟨by decide,_,rfl,?_⟩;refine kW ?_;constructor<;>intro h3;·(have h3:C7 a.ti b.ti≠0:=by simpa using h3);refine kW ?_;refine⟨by decide,_,rfl,?_⟩;refine kW ?_;rw[hp];refine congrArg (AV.int .i64) ?_;simp[Fs,Lt,h3]
   (have h3:C7 a.ti b.ti=0:=by simpa using h3);refine kW ?_;refine⟨4,?_⟩;exact YaY
  ·refine kW ?_;refine⟨by decide,_,rfl,?_⟩;refine kW ?_;constructor<;>intro h3;·(have h3:FM a.la b.la≠0:=by simpa using h3);refine kW ?_;refine⟨by decide,_,rfl,?_⟩;refine kW ?_;rw[hp];refine congrArg (AV.int .i64) ?_;simp[Fs,Lt,h3]
   (have h3:FM a.la b.la=0:=by simpa using h3);refine kW ?_;refine⟨5,?_⟩;exact YaY
  refine kW ?_;refine⟨by decide,_,rfl,?_⟩;refine kW ?_;constructor<;>intro h3;·(have h3:C7 a.co.length b.co.length≠0:=by simpa using h3);refine kW ?_;refine⟨by decide,_,rfl,?_⟩;refine kW ?_;rw[hp];refine congrArg (AV.int .i64) ?_;simp[Fs,Lt,h3]
  have h3:C7 a.co.length b.co.length=0:=by simpa using h3
  refine kW ?_;refine⟨6,?_⟩;exact YaY
 have h:k=6:=by simp at h;omega
 subst h;have hq:=hq rfl;have hlen:a.co.length=b.co.length:=by have:=(NL.eq0 _ _).1 hq;omega
 refine kW ?_
 refine Aa.Ar (λk:Nat=>mk 78 [(2,.ptr 0 0),(3,.ptr 1 0),(4,.int .i64 0),(7,.int .i64 k)])
  (λ_=>[.cells [.int .i64 a.sc,.int .i64 a.nu,.int .i64 a.ki,.int .i64 a.ti,.str a.la,.sl 1 (strs a.co)],.cells [.int .i64 b.sc,.int .i64 b.nu,.int .i64 b.ki,.int .i64 b.ti,.str b.la,.sl 1 (strs b.co)]]++Ao 34 .dead)
  (λk=>k<=a.co.length/\Lt a b=D5 FM (a.co.drop k) (b.co.drop k)) (λk=>a.co.length-k) (λ_ _=>⟨rfl,Zgc rfl rfl 34⟩) ⟨0,?_⟩ (λ_=>rfl) λk hk=>?_
 refine kQ ?_;rw[hp];rfl;obtain⟨hk,hp⟩:=hk;refine kR ?_;constructor<;>intro h
 ·have h:k<a.co.length:=by simp[CV]at h;omega
  have ea:a.co.drop k=a.co[k]::a.co.drop (k+1):=As h;have eb:b.co.drop k=b.co[k]::b.co.drop (k+1):=As (by omega);refine kW ?_;refine Aa.draw [] Ab mO (by kernel_rfl) ?_;conv=>whnf
  refine⟨by omega,_,CW a.co k h,?_⟩;conv=>whnf
  refine⟨by omega,_,CW b.co k (by omega),?_⟩;conv=>whnf
  refine⟨_,⟨Tj a.co[k] b.co[k],rfl⟩,?_⟩;conv=>whnf
  refine kR ?_;constructor<;>intro h3;·(have h3:FM a.co[k] b.co[k]≠0:=by simpa using h3);refine kW ?_;rw[hp,ea,eb];refine congrArg (AV.int .i64) ?_;simp[D5,h3]
  have h3:FM a.co[k] b.co[k]=0:=by simpa using h3
  refine kW ?_;refine⟨k+1,?_⟩;refine qG ?_;refine⟨⟨by omega,?_⟩,by omega⟩;rw[hp,ea,eb];simp[D5,h3]
 have h:k=a.co.length:=by simp[CV]at h;omega
 refine kW ?_;rw[hp,AZ (by omega),AZ (by omega)];rfl
theorem QB(a b:List Rc)(ha:a.length<=100000)(hx:∀r∈a,r.co.length<=100000):Au Pg 9 [rcs a,rcs b] (λx=>x=.bool (decide (a=b))):=by
 refine kB func9 rfl ?_;constructor<;>intro h
 ·have h:a.length≠b.length:=by simp at h;omega
  refine kW ?_;exact congrArg AV.bool (by simp;intro e;exact h (by rw[e]))
 have h:a.length=b.length:=by simp at h;omega
 refine kW ?_;refine Aa.Ar (λk:Nat=>mk 27 [(0,rcs a),(1,rcs b),(4,.lit false),(5,.int .i64 k)]) (λ_=>[]) (λk=>k<=a.length/\a.take k=b.take k) (λk=>a.length-k) (λ_ _=>⟨rfl,trivial⟩) ⟨0,?_⟩ (λ_=>rfl) λk hk=>?_;refine kQ ?_;simp;obtain⟨hk,hp⟩:=hk;refine kR ?_;constructor<;>intro h3
 ·have h3:k<a.length:=by simpa using h3
  have h3b:k<b.length:=by omega
  refine kW ?_;refine Aa.draw [] Ab mO (by kernel_rfl) ?_;conv=>whnf
  refine⟨by omega,_,Zae a k h3,?_⟩;conv=>whnf
  refine⟨by omega,_,Zae b k h3b,?_⟩;conv=>whnf
  refine⟨_,⟨VO a[k] b[k] (hx _ (Am h3)),rfl⟩,?_⟩;conv=>whnf
  refine kR ?_;constructor<;>intro h4;·(have h4:Lt a[k] b[k]≠0:=by simpa using h4);refine kW ?_;refine congrArg AV.bool ?_;(have:a≠b:=by rintro rfl;exact h4 (qT.self _));simp[this]
  have h4:Lt a[k] b[k]=0:=by simpa using h4
  refine kW ?_;refine⟨k+1,?_⟩;refine qG ?_;refine⟨⟨by omega,?_⟩,by omega⟩;rw[Ax h3,Ax h3b,hp,(qT.eq0 _ _).1 h4]
 have h3:k=a.length:=by simp at h3;omega
 refine kW ?_;refine congrArg AV.bool ?_;have:a=b:=by rw[h3,BG,List.take_of_length_le (by omega)]at hp;exact hp
 simp[this]
theorem rQ{r r':Rc}(h:AT r=true)(h':AT r'=true)(hw:CB r'=CB r):r=r':=by
 have hf:=BT h';have e:=Qg h hw (a:=r'.sc) (b:=r'.nu) (c:=r'.ti) (ki:=r'.ki) (by simp[CB]) (DU hf.sc0 hf.sc1) (DU hf.nu0 hf.nu1) (DU hf.ti0 hf.ti1) (by show(PM r'.ki=_/\_)\/(PM r'.ki≠_/\_);rcases hf.ki with⟨k,_⟩|⟨k,_⟩;rw[k];exact .inr ⟨by decide,rfl⟩;rw[k];exact .inl ⟨rfl,rfl⟩);rw[e];rfl
theorem zK{r r':Rc}(h:AT r=true)(h':AT r'=true)(ht:DI r'=DI r):r=r':=
 rQ h h' (by rw[<-Om h,<-Om h',ht])
theorem _root_.Go.Av.Au.Zms{f:Go.FuncId}{args:List AV}{R R':AV->Prop}(h:Au P f args R)(k:∀r,R r->R' r):Au P f args R':=
 ⟨h.D7,λC w vs h1 h2=>(h.out C w vs h1 h2).mono λ_ _ ⟨r,v,a,b,c⟩=>⟨r,v,a,k r b,c⟩⟩
theorem tH{s:Bs}(hs:s.length<=9223372036854775807){r:Rc}(h:AT r=true)(ht:DI r=s):Au Pg 8 [.str s] (λx=>x=.tuple [r.v,.int .i64 0]):=by
 refine(TU s hs).Zms λx hx=>?_;rcases hx with⟨r',h1,h2,rfl⟩|⟨hx,_⟩;rw[zK h h1 (h2.trans ht.symm)];exact absurd ht (hx r h)
theorem zL{r:Rc}(h:DI r≠[]):AT r=true:=by
 cases hc:AT r with
 |true=>rfl
 |false=>exact absurd (by unfold DI;rw[hc];rfl) h
end Go.Proofs.YtmmhehdlnjojjaaGreatDoor.Cc