/- Survey: reachability. -/
import Derived.Test.YtmmhehdlnjojjaaGreatDoorQd
import Derived.Test.YtmmhehdlnjojjaaGreatDoorQn
set_option linter.unusedVariables false
set_option maxRecDepth 100000
set_option linter.unusedSectionVars false
set_option linter.unusedSimpArgs false
set_option maxHeartbeats 4000000
open Go.Proofs.Tryz
open Go.Proofs.Tryz renaming prog → Pg
open List renaming length_map → Ax, getElem?_eq_getElem → A0, range → A3, range_succ → A5, append_eq_nil_iff → A6, replicate → Bc, length_append → BK, all_append → BQ, map_append → BR, map_cons → BU, eq_nil_of_length_eq_zero → Cb, mem_range → Cc, getElem?_eq_some_iff → Cz, all_eq_true → CL, take_of_length_le → C0, getElem?_map → C5, length_range → De, mem_map → Dj, drop_zero → Dk, mem_cons → Dx, getD → Dy
open Bool renaming and_eq_true → AZ, and_eq_true_iff → A1, eq_iff_iff → C1, eq_false_iff → C4, false_and → Dv
open And renaming intro → A4
open Nat renaming zero_le → BG, le_trans → C2
open Array renaming getElem?_toList → C3
open Option renaming some → DL
namespace Go.Proofs.YtmmhehdlnjojjaaGreatDoor
theorem Ybc{P:Prop}(e:P:=by
 conv=>whnf
 repeat first|exact trivial|(refine⟨rfl,?_⟩;conv=>whnf)):P:=e
theorem Ybd{P:Prop}(e:P:=by refine kW ?_;refine⟨1,?_⟩;refine qG ?_;exact⟨⟨by omega,λ_=>q,λh=>absurd h (by omega),λh=>absurd h (by omega)⟩,by omega⟩):P:=e
end Go.Proofs.YtmmhehdlnjojjaaGreatDoor
namespace Go.Proofs.YtmmhehdlnjojjaaGreatDoor
open Go.Av Go.RowKit
def Lv(t:List Int)(a b:Int):Int:=t.getD (a.toNat*12+b.toNat) 0
def Lb(t:List Int)(a b x:Int):List Int:=if Lv t a b=-1\/x<Lv t a b then t.set (a.toNat*12+b.toNat) x else t
theorem Ou(t:List Int)(a b x:Int):(Lb t a b x).length=t.length:=by
 unfold Lb;split<;>simp
theorem OR{t:List Int}(ht:t.length=144){a b:Int}(a0:0<=a)(a1:a<12)(b0:0<=b)(b1:b<12):(t.map (AV.int .i64)).drop (0+a.toNat*12+b.toNat*1)=.int .i64 (Lv t a b)::(t.map (AV.int .i64)).drop (0+a.toNat*12+b.toNat*1+1):=by
 have h:0+a.toNat*12+b.toNat*1<t.length:=by omega
 rw[List.drop_eq_getElem_cons (by simpa using h)];simp[Lv,show a.toNat*12+b.toNat<t.length by omega]
theorem ZcA{t:List Int}(ht:t.length=144){a b x:Int}(a0:0<=a)(a1:a<12)(b0:0<=b)(b1:b<12):(0+a.toNat*12+b.toNat*1+[AV.int .i64 x].length).ble (t.map (AV.int .i64)).length=true:=by
 refine Nat.ble_eq_true_of_le ?_;simp only[Ax,List.length_cons,List.length_nil];omega
theorem zY{t:List Int}{a b x:Int}:(t.map (AV.int .i64)).set (0+a.toNat*12+b.toNat*1) (.int .i64 x)=(t.set (a.toNat*12+b.toNat) x).map (AV.int .i64):=by
 rw[List.map_set,show 0+a.toNat*12+b.toNat*1=a.toNat*12+b.toNat by omega]
theorem Ke{f:AV->(AV->Prop)->Prop}(hf:∀(x:Int)(K:AV->Prop),f (.int .i64 x) K↔K (.int .i64 x)):∀(t:List Int)(K:List AV->Prop),GZ f (t.map (AV.int .i64)) K↔K (t.map (AV.int .i64))
 |[],K=>Iff.rfl
 |x::t,K=>by show f (.int .i64 x) (λy=>GZ f (t.map (AV.int .i64)) λys=>K (y::ys))↔_;rw[hf,Ke hf t];rfl
theorem RU(t:List Int)(ht:t.length=144)(a b x:Int)(a0:0<=a)(a1:a<12)(b0:0<=b)(b1:b<12):
  Bq Pg 248 [.int .i64 a,.int .i64 b,.int .i64 x,.ptr 2 0] [.dead,.dead,.cells (t.map (.int .i64))] (λr H=>r=.tuple []/\H=[.dead,.dead,.cells ((Lb t a b x).map (.int .i64))]) (λ_ _=>False):=by
 refine Bq.Ak func248 rfl Ab (by kernel_rfl) rfl ?_;refine kW ?_;refine⟨⟨a0,a1⟩,?_⟩;conv=>whnf
 refine⟨⟨b0,b1⟩,?_⟩;conv=>whnf
 rw[BC,OR ht a0 a1 b0 b1];conv=>whnf
 constructor<;>intro q
 ·have q:¬Lv t a b=-1:=of_decide_eq_false q;conv=>whnf
  refine⟨⟨a0,a1⟩,?_⟩;conv=>whnf
  refine⟨⟨b0,b1⟩,?_⟩;conv=>whnf
  rw[BC,OR ht a0 a1 b0 b1];refine kW ?_;constructor<;>intro q2;have q2:x<Lv t a b:=of_decide_eq_true q2;refine kW ?_;refine⟨⟨a0,a1⟩,?_⟩;(conv=>whnf);refine⟨⟨b0,b1⟩,?_⟩;(conv=>whnf);rw[ZcA ht a0 a1 b0 b1];(conv=>whnf);rw[AY,zY];refine kW ?_;rw[Ke λx K=>Iff.rfl];(conv=>whnf);unfold Lb;rw[if_pos (.inr q2)];exact⟨rfl,rfl⟩;have q2:¬x<Lv t a b:=of_decide_eq_false q2;refine kW ?_;rw[Ke λx K=>Iff.rfl];conv=>whnf
  unfold Lb;rw[if_neg (by omega)];exact⟨rfl,rfl⟩
 have q:Lv t a b=-1:=of_decide_eq_true q;refine kW ?_;refine⟨⟨a0,a1⟩,?_⟩;conv=>whnf
 refine⟨⟨b0,b1⟩,?_⟩;conv=>whnf
 rw[ZcA ht a0 a1 b0 b1];conv=>whnf
 rw[AY,zY];refine kW ?_;rw[Ke λx K=>Iff.rfl];conv=>whnf
 unfold Lb;rw[if_pos (.inl q)];exact⟨rfl,rfl⟩
def Zb9{α:Type}(f:Nat->α->α):Nat->α->α
 |0,t=>t
 |k+1,t=>f k (Zb9 f k t)
@[irreducible] def Bu{α:Type}(f:Nat->α->α)(k:Nat)(t:α):α:=Zb9 f k t
theorem F8{α:Type}(f:Nat->α->α)(t:α):Bu f 0 t=t:=by unfold Bu;rfl
theorem F9{α:Type}(f:Nat->α->α)(k:Nat)(t:α):Bu f (k+1) t=f k (Bu f k t):=by unfold Bu;rfl
theorem EI(f:Nat->List Int->List Int)(hf:∀k t,(f k t).length=t.length)(k:Nat)(t:List Int):(Bu f k t).length=t.length:=by
 induction k with
 |zero=>rw[F8]
 |succ k ih=>rw[F9];exact(hf _ _).trans ih
def HJ(a b:Nat)(t:List Int):List Int:=if a=b then t else t.set ((a:Int).toNat*12+(b:Int).toNat) (-1)
def Ew(v a b:Nat)(t:List Int):List Int:=if Lv t a v=-1\/Lv t v b=-1 then t else Lb t a b (Wr .i64 (Lv t a v+Lv t v b))
def YT:List Int:=Bu (λa t=>Bu (λb t=>HJ a b t) 12 t) 12 (Bc 144 0)
def MD(n:Net):Nat->List Int:=λk=>Bu (λi t=>Lb t (n.B3 i).fr (n.B3 i).dst (n.B3 i).Bb) k YT
def IH(n:Net):List Int:=Bu (λv t=>Bu (λa t=>Bu (λb t=>Ew v a b t) 12 t) 12 t) 12 (MD n n.Am.length)
theorem Q1(a b:Nat)(t:List Int):(HJ a b t).length=t.length:=by unfold HJ;split<;>simp
theorem QO(v a b:Nat)(t:List Int):(Ew v a b t).length=t.length:=by
 unfold Ew;split;rfl;exact Ou _ _ _ _
theorem B7(F:List HO):∀t:List Int,AR F (t.map (AV.int .i64))=true
 |[]=>by unfold AR;rfl
 |x::t=>by rw[BU];unfold AR;rw[B7 F t];unfold within;rfl
theorem QA:∀t:List Int,(t.map (AV.int .i64)).all Eg=true
 |[]=>rfl
 |x::t=>by rw[BU,List.all_cons,QA t];rfl
theorem TN:∀(cs l pre:List AV),l.length=cs.length->Je (pre++l) pre.length cs=pre++cs
 |[],l,pre,h=>by have:l=[]:=Cb h;subst this;rfl
 |c::cs,[],pre,h=>by simp at h
 |c::cs,x::l,pre,h=>by
  show Je ((pre++x::l).set pre.length c) (pre.length+1) cs=_;have e:(pre++x::l).set pre.length c=(pre++[c])++l:=by simp
  rw[e];have:=TN cs l (pre++[c]) (by simpa using h);simpa using this
theorem IS(F:List HO):∀(rest:List HO)(K:List HO->Prop),Cg F [] [] rest K↔K (rest.map (GX F))
 |[],K=>by simp[Cg]
 |o::r,K=>by rw[Cg,J5,IS F r];simp
theorem ZgI(F:List HO)(a b:List AV)(x0 x1 x2:HO)(r:List HO)(K:List HO->Prop):Cg F [.dead,.dead,.cells a] [.dead,.dead,.cells b] (x0::x1::x2::r) K↔K (GX F x0::GX F x1::.cells b::r.map (GX F)):=by
 simp only[Cg,IS,J5]
theorem Wx(F:List HO):∀t:List Int,JJ F (t.map (AV.int .i64))=t.map (AV.int .i64)
 |[]=>rfl
 |x::t=>by show RN F (.int .i64 x)::JJ F (t.map (AV.int .i64))=_;rw[Wx F t];rfl
set_option maxHeartbeats 4000000 in
theorem Ys(n:Net)(hn:∀l∈n.Am,0<=l.fr/\l.fr<12/\0<=l.dst/\l.dst<12)(hL:n.Am.length<=40):Au Pg 193 [n.v] (λr=>r=.agg ((IH n).map (.int .i64))):=by
 refine kB func193 rfl ?_;obtain⟨Z,hZ⟩:∃Z,Z=(Bc 144 (0:Int)).map (AV.int .i64):=⟨_,rfl⟩;have hz:∀k (f:Nat->List Int->List Int),(∀k t,(f k t).length=t.length)->∀t:List Int,t.length=144->(Bu f k t).length=144:=λk f hf t ht=>(EI f hf k t).trans ht;have gK:∀a t,(Bu (λb t=>HJ a b t) 12 t).length=t.length:=λa t=>EI _ (λ_ _=>Q1 _ _ _) _ _;have hZ0:(Bc 144 (0:Int)).length=144:=by simp
 have ho1:∀v a t,(Bu (λb t=>Ew v a b t) 12 t).length=t.length:=λv a t=>EI _ (λ_ _=>QO _ _ _ _) _ _;have ho2:∀v t,(Bu (λa t=>Bu (λb t=>Ew v a b t) 12 t) 12 t).length=t.length:=λv t=>EI _ (λa t=>ho1 v a t) _ _;have hwZ:∀F,AR F Z=true:=λF=>by rw[hZ];exact B7 F _
 have hsZ:∀F,JJ F Z=Z:=λF=>by rw[hZ];exact Wx F _
 refine Aa.Ar (λa:Nat=>mk 86 [(1,.ptr 0 0),(2,.ptr 1 0),(3,.ptr 2 0),(12,.int .i64 a)]) (λa=>[.cells n.c,.cells Z,.cells ((Bu (λa t=>Bu (λb t=>HJ a b t) 12 t) a (Bc 144 0)).map (.int .i64))]) (λa=>a<=12) (λa=>12-a) (λa _=>⟨rfl,rfl,hwZ _,B7 _ _,trivial⟩) ⟨0,?_⟩ (λ_=>rfl) λa ha=>?_;rw[F8,hZ];refine kQ ?_;exact BG _;have hlen:=hz a (λa t=>Bu (λb t=>HJ a b t) 12 t) gK _ hZ0;have PU:Bu (λa t=>Bu (λb t=>HJ a b t) 12 t) (a+1) (Bc 144 0)=Bu (λb t=>HJ a b t) 12 (Bu (λa t=>Bu (λb t=>HJ a b t) 12 t) a (Bc 144 0)):=F9 _ _ _;obtain⟨t,ht⟩:∃t,t=Bu (λa t=>Bu (λb t=>HJ a b t) 12 t) a (Bc 144 0):=⟨_,rfl⟩;rw[<-ht]at hlen PU ⊢;refine kR ?_;constructor<;>intro h
 ·have h:a<12:=by have:=of_decide_eq_true h;omega
  refine kW ?_;refine Aa.Ar (λb:Nat=>mk 86 [(1,.ptr 0 0),(2,.ptr 1 0),(3,.ptr 2 0),(4,.int .i64 a),(12,.int .i64 a),(15,.int .i64 b)]) (λb=>[.cells n.c,.cells Z,.cells ((Bu (λb t=>HJ a b t) b t).map (.int .i64))]) (λb=>b<=12) (λb=>12-b) (λb _=>⟨rfl,rfl,hwZ _,B7 _ _,trivial⟩) ⟨0,?_⟩ (λ_=>rfl) λb hb=>?_;rw[F8];refine kQ ?_;exact BG _;have ZfF:=hz b (λb t=>HJ a b t) (Q1 a) t hlen;have Xk:Bu (λb t=>HJ a b t) (b+1) t=HJ a b (Bu (λb t=>HJ a b t) b t):=F9 _ _ _;obtain⟨u,hu⟩:∃u,u=Bu (λb t=>HJ a b t) b t:=⟨_,rfl⟩;rw[<-hu]at ZfF Xk ⊢;unfold HJ at Xk;refine kR ?_;constructor<;>intro g
  ·(have g:b<12:=by have:=of_decide_eq_true g;omega);refine kW ?_;constructor<;>intro q;·(have q:¬a=b:=by simp at q;omega);rw[if_neg q]at Xk;refine kW ?_;refine⟨⟨by omega,by omega⟩,?_⟩;(conv=>whnf);refine⟨⟨by omega,by omega⟩,?_⟩;(conv=>whnf);rw[ZcA ZfF (by omega) (by omega) (by omega) (by omega)];(conv=>whnf);rw[AY,zY,<-Xk];refine kW ?_;refine⟨b+1,?_⟩;refine qG ?_;omega
   (have q:a=b:=by simp at q;omega);rw[if_pos q]at Xk;refine kW ?_;refine⟨b+1,?_⟩;rw[<-Xk];refine qG ?_;omega
  have g:b=12:=by have:=of_decide_eq_false g;omega
  subst g;rw[hu,<-PU];refine kW ?_;refine⟨a+1,?_⟩;refine qG ?_;omega
 have h:a=12:=by have:=of_decide_eq_false h;omega
 subst h;replace ht:t=YT:=ht;clear PU;refine kW ?_;rw[Ax];have gJ:∀k,(MD n k).length=144:=λk=>hz k _ (λ_ _=>Ou _ _ _ _) _ (by rw[<-ht];exact hlen);obtain⟨m,hm⟩:∃m,m=n.Am.length:=⟨_,rfl⟩;rw[<-hm]at hL ⊢;refine Aa.Ar (λk:Nat=>mk 86 [(1,.ptr 0 0),(2,.ptr 1 0),(3,.ptr 2 0),(6,.fn 248 [.ptr 2 0]),(29,.sl 6 (n.Am.map Im.v)),(30,.int .i64 (m:Nat)),(31,.int .i64 k)]) (λk=>[.cells n.c,.cells Z,.cells ((MD n k).map (.int .i64))]) (λk=>k<=m) (λk=>m-k) (λk _=>⟨rfl,rfl,hwZ _,B7 _ _,trivial⟩) ⟨0,?_⟩ (λ_=>rfl) λk hk=>?_;rw[show MD n 0=YT from F8 _ _,ht];refine kQ ?_;exact BG _;have PU:MD n (k+1)=Lb (MD n k) (n.B3 k).fr (n.B3 k).dst (n.B3 k).Bb:=F9 _ _ _;have hl:=gJ k;obtain⟨u,hu⟩:∃u,u=MD n k:=⟨_,rfl⟩;rw[<-hu]at hl PU ⊢;refine kR ?_;constructor<;>intro g
 ·have g:k<m:=by have:=of_decide_eq_true g;omega
  have gI:(n.Am.map Im.v)[((k:Nat):Int).toNat]?=some (n.B3 k).v:=getD_map Im.v n.Am GD (by omega) (by omega);have HB:=hn _ (Bx (l:=n.Am) (i:=k) GD (by omega) (by omega));replace HB:0<=(n.B3 k).fr/\(n.B3 k).fr<12/\0<=(n.B3 k).dst/\(n.B3 k).dst<12:=HB;refine kW ?_;refine⟨by omega,_,gI,?_⟩;refine kW ?_;refine Ah.Fv (RU u hl (n.B3 k).fr (n.B3 k).dst (n.B3 k).Bb HB.1 HB.2.1 HB.2.2.1 HB.2.2.2) rfl ?_ (λr H1 h=>?_) (λ_ _ h=>h.elim);·(conv=>whnf);exact⟨rfl,B7 _ _,trivial⟩
  obtain⟨rfl,rfl⟩:=h;rw[Bk];conv=>whnf
  rw[Bk,hsZ,<-PU];refine kW ?_;refine⟨k+1,?_⟩;refine qG ?_;omega
 have g:k=m:=by have:=of_decide_eq_false g;omega
 unfold IH;rw[<-hm,<-g,<-hu];clear PU hu;refine kW ?_;refine Aa.Ar (λv:Nat=>mk 86 [(1,.ptr 0 0),(2,.ptr 1 0),(3,.ptr 2 0),(6,.fn 248 [.ptr 2 0]),(44,.int .i64 v)]) (λv=>[.cells n.c,.cells Z,.cells ((Bu (λv t=>Bu (λa t=>Bu (λb t=>Ew v a b t) 12 t) 12 t) v u).map (.int .i64))]) (λv=>v<=12) (λv=>12-v) (λv _=>⟨rfl,rfl,hwZ _,B7 _ _,trivial⟩) ⟨0,?_⟩ (λ_=>rfl) λv hv=>?_;rw[F8];refine kQ ?_;exact BG _;have Qm:=hz v (λv t=>Bu (λa t=>Bu (λb t=>Ew v a b t) 12 t) 12 t) ho2 u hl;have UK:Bu (λv t=>Bu (λa t=>Bu (λb t=>Ew v a b t) 12 t) 12 t) (v+1) u=Bu (λa t=>Bu (λb t=>Ew v a b t) 12 t) 12 (Bu (λv t=>Bu (λa t=>Bu (λb t=>Ew v a b t) 12 t) 12 t) v u):=F9 _ _ _;obtain⟨t1,ht1⟩:∃t1,t1=Bu (λv t=>Bu (λa t=>Bu (λb t=>Ew v a b t) 12 t) 12 t) v u:=⟨_,rfl⟩;rw[<-ht1]at Qm UK ⊢;refine kR ?_;constructor<;>intro h
 ·have h:v<12:=by have:=of_decide_eq_true h;omega
  refine kW ?_;refine Aa.Ar (λa:Nat=>mk 86 [(1,.ptr 0 0),(2,.ptr 1 0),(3,.ptr 2 0),(6,.fn 248 [.ptr 2 0]),(9,.int .i64 v),(44,.int .i64 v),(47,.int .i64 a)]) (λa=>[.cells n.c,.cells Z,.cells ((Bu (λa t=>Bu (λb t=>Ew v a b t) 12 t) a t1).map (.int .i64))]) (λa=>a<=12) (λa=>12-a) (λa _=>⟨rfl,rfl,hwZ _,B7 _ _,trivial⟩) ⟨0,?_⟩ (λ_=>rfl) λa ha=>?_;rw[F8];refine kQ ?_;exact BG _;have hl2:=hz a (λa t=>Bu (λb t=>Ew v a b t) 12 t) (ho1 v) t1 Qm;have dH:Bu (λa t=>Bu (λb t=>Ew v a b t) 12 t) (a+1) t1=Bu (λb t=>Ew v a b t) 12 (Bu (λa t=>Bu (λb t=>Ew v a b t) 12 t) a t1):=F9 _ _ _;obtain⟨t2,ht2⟩:∃t2,t2=Bu (λa t=>Bu (λb t=>Ew v a b t) 12 t) a t1:=⟨_,rfl⟩;rw[<-ht2]at hl2 dH ⊢;refine kR ?_;constructor<;>intro h2
  ·(have h2:a<12:=by have:=of_decide_eq_true h2;omega);refine kW ?_;refine Aa.Ar (λb:Nat=>mk 86 [(1,.ptr 0 0),(2,.ptr 1 0),(3,.ptr 2 0),(6,.fn 248 [.ptr 2 0]),(9,.int .i64 v),(10,.int .i64 a),(44,.int .i64 v),(47,.int .i64 a),(50,.int .i64 b)]) (λb=>[.cells n.c,.cells Z,.cells ((Bu (λb t=>Ew v a b t) b t2).map (.int .i64))]) (λb=>b<=12) (λb=>12-b) (λb _=>⟨rfl,rfl,hwZ _,B7 _ _,trivial⟩) ⟨0,?_⟩ (λ_=>rfl) λb hb=>?_;·rw[F8];refine kQ ?_;exact BG _
   have O3:=hz b (λb t=>Ew v a b t) (QO v a) t2 hl2;have hs3:Bu (λb t=>Ew v a b t) (b+1) t2=Ew v a b (Bu (λb t=>Ew v a b t) b t2):=F9 _ _ _;obtain⟨t3,ht3⟩:∃t3,t3=Bu (λb t=>Ew v a b t) b t2:=⟨_,rfl⟩;rw[<-ht3]at O3 hs3 ⊢;unfold Ew at hs3;refine kR ?_;constructor<;>intro h3
   ·(have h3:b<12:=by have:=of_decide_eq_true h3;omega);(iterate 2 (refine sT rfl ?_;conv=>whnf));refine Aa.ZhQ (λ_:Unit=>mk 86 [(1,.ptr 0 0),(2,.ptr 1 0),(3,.ptr 2 0),(6,.fn 248 [.ptr 2 0]),(9,.int .i64 v),(10,.int .i64 a),(44,.int .i64 v),(47,.int .i64 a),(50,.int .i64 b)]) (λ_=>[.cells n.c,.cells Z,.cells ((Bu (λb t=>Ew v a b t) (b+1) t2).map (.int .i64))]) (λ_=>True) (λ_ _=>⟨rfl,rfl,hwZ _,B7 _ _,trivial⟩) (λ_=>Nat.le_refl _) ?_ λ_ _=>?_
    rotate_left
    refine kW ?_;refine⟨b+1,?_⟩;refine qG ?_;omega;refine kW ?_;refine⟨⟨by omega,by omega⟩,?_⟩;(conv=>whnf);refine⟨⟨by omega,by omega⟩,?_⟩;(conv=>whnf);rw[BC,OR O3 (by omega) (by omega) (by omega) (by omega)];(conv=>whnf);constructor<;>intro q
    ·(have q:¬Lv t3 a v=-1:=by simpa using q);(conv=>whnf);refine⟨⟨by omega,by omega⟩,?_⟩;(conv=>whnf);refine⟨⟨by omega,by omega⟩,?_⟩;(conv=>whnf);rw[BC,OR O3 (by omega) (by omega) (by omega) (by omega)];refine kW ?_;constructor<;>intro q2
     ·(have q2:¬Lv t3 v b=-1:=by simpa using q2);rw[if_neg (by simp[q,q2])]at hs3;refine kW ?_;refine Aa.draw [14] Ab mO (by kernel_rfl) ?_;(conv=>whnf);refine⟨⟨by omega,by omega⟩,?_⟩;(conv=>whnf);refine⟨⟨by omega,by omega⟩,?_⟩;(conv=>whnf);rw[BC,OR O3 (by omega) (by omega) (by omega) (by omega)];(conv=>whnf);refine⟨⟨by omega,by omega⟩,?_⟩;(conv=>whnf);refine⟨⟨by omega,by omega⟩,?_⟩;(conv=>whnf);rw[BC,OR O3 (by omega) (by omega) (by omega) (by omega)];(conv=>whnf);refine Ah.Fv (RU t3 O3 a b _ (by omega) (by omega) (by omega) (by omega)) rfl ?_ (λr H1 h=>?_) (λ_ _ h=>h.elim);·(conv=>whnf);exact⟨rfl,B7 _ _,trivial⟩
      obtain⟨rfl,rfl⟩:=h;rw[Bk,<-hs3];refine(ZgI _ _ _ _ _ _ _ _).2 ?_;generalize List.map _ (Bc _ HO.dead)=rest;rw[show GX [HO.dead,HO.dead,HO.cells (t3.map (AV.int .i64))] (.cells Z)=.cells Z from congrArg HO.cells (hsZ _)];(conv=>whnf);refine⟨(),?_⟩;refine kQ ?_;trivial
     (have q2:Lv t3 v b=-1:=by simpa using q2);rw[if_pos (.inr q2)]at hs3;refine kW ?_;rw[<-hs3];refine⟨(),?_⟩;refine kQ ?_;trivial
    (have q:Lv t3 a v=-1:=by simpa using q);rw[if_pos (.inl q)]at hs3;refine kW ?_;rw[<-hs3];refine⟨(),?_⟩;refine kQ ?_;trivial
   (have h3:b=12:=by have:=of_decide_eq_false h3;omega);subst h3;rw[ht3,<-dH];refine kW ?_;refine⟨a+1,?_⟩;refine qG ?_;omega
  have h2:a=12:=by have:=of_decide_eq_false h2;omega
  subst h2;rw[ht2,<-UK];refine kW ?_;refine⟨v+1,?_⟩;refine qG ?_;omega
 have h:v=12:=by have:=of_decide_eq_false h;omega
 subst h;rw[<-ht1];refine kW ?_;rw[BC,Dk];conv=>whnf
 rw[Fj];refine⟨by simp[Qm]<;>decide,?_⟩;rw[C0 (by simp[Qm]<;>decide)];conv=>whnf
 rw[QA,Ax,Qm];conv=>whnf
 rw[show Z.length=144 by rw[hZ];simp];conv=>whnf
 rw[DS,show Je Z 0 (t1.map (AV.int .i64))=t1.map (AV.int .i64)from TN (t1.map (AV.int .i64)) Z [] (by rw[hZ];simp[Qm])];refine kW ?_;rw[BC,Dk];conv=>whnf
 rw[Fj];refine⟨by simp[Qm]<;>decide,?_⟩;rw[C0 (by simp[Qm]<;>decide)];conv=>whnf
 rw[Ke λx K=>Iff.rfl]
open Go.Av Go.RowKit Np Go.Av.Net
theorem RP(b:UInt8):Au Pg 322 [.int .u8 b.toNat] (λr=>r=.bool (BM b)):=by
 refine Au.Ak func322 rfl Ab (by kernel_rfl) ?_;conv=>whnf
 refine Ay Ab _ ?_;conv=>whnf
 repeat' (refine A4 (λ_=>?_) (λ_=>?_)<;>conv=>whnf)
 all_goals (refine congrArg AV.bool ?_;rw[C1];simp_all[BM]<;>omega)
theorem RQ(b:UInt8):Au Pg 323 [.int .u8 b.toNat] (λr=>r=.bool (DG b)):=by
 refine Au.Ak func323 rfl Ab (by kernel_rfl) ?_;conv=>whnf
 refine Ay Ab _ ?_;conv=>whnf
 repeat' (refine A4 (λ_=>?_) (λ_=>?_)<;>conv=>whnf)
 all_goals (refine congrArg AV.bool ?_;rw[C1];simp_all[DG]<;>omega)
theorem iN(s:Bs)(hs:s.length<=8000):Au Pg 292 [.str s] (λr=>r=.bool (Bt s)):=by
 refine Au.Ak func292 rfl Ab (by kernel_rfl) ?_;conv=>whnf
 refine Ay Ab _ ?_;conv=>whnf
 constructor<;>intro h1
 ·have h1:1<=s.length:=by simp at h1;omega
  conv=>whnf
  constructor<;>intro h2;·(conv=>whnf);(have h2:¬s.length<=8:=by simp at h2;omega);simp[Bt,h2]
  have h2:s.length<=8:=by simp at h2;omega
  conv=>whnf
  refine Aa.G6 (λk:Nat=>mk 32 [(0,.str s),(14,.sl 1 (Gt s)),(15,.int .i64 (Gt s).length),(16,.int .i64 k)]) (λ_=>[]) (λk=>k<=s.length/\(s.all GP)=(s.drop k).all GP) (λk=>s.length-k) ⟨0,?_⟩ λk hk=>?_;refine kQ ?_;rfl;obtain⟨hk,he⟩:=hk;refine Ay Ab _ ?_;conv=>whnf
  refine⟨λAA=>?_,λET=>?_⟩
  ·(have AA:k<s.length:=by simpa using AA);rw[HR _ s k AA]at he;(conv=>whnf);refine⟨by omega,.int .u8 s[k].toNat,I6 _ _ AA,?_⟩;(conv=>whnf);refine cS (RQ s[k]) rfl ?_;conv=>whnf
   repeat' (refine A4 (λ_=>?_) (λ_=>?_)<;>conv=>whnf)
   all_goals first
    |(refine⟨k+1,?_⟩
      conv=>whnf
      refine qG ?_
      have hn:GP s[k]=true:=by simp_all[GP]<;>omega
      rw[hn]at he
      exact⟨⟨by omega,he⟩,by omega⟩)
    |(have hn:GP s[k]=false:=by simp_all[GP]<;>omega
      rw[hn]at he
      simp[I2,he];done)
  have ET:s.length<=k:=by simp at ET;omega
  conv=>whnf
  have:k=s.length:=by omega
  subst this;simp at he;rw[I2];simp[h1,h2];exact he
 conv=>whnf
 have h1:¬1<=s.length:=by simp at h1;omega
 simp[Bt,h1]
theorem IG(s:Bs)(hs:s.length<=8000):Au Pg 281 [.str s] (λr=>r=.bool (An s)):=by
 refine Au.Ak func281 rfl Ab (by kernel_rfl) ?_;conv=>whnf
 refine Ay Ab _ ?_;conv=>whnf
 constructor<;>intro h1
 ·have h1:1<=s.length:=by simp at h1;omega
  conv=>whnf
  constructor<;>intro h2
  ·(have h2:s.length<=16:=by simp at h2;omega);(conv=>whnf);refine⟨⟨by omega,by omega⟩,?_⟩;(conv=>whnf);(have hg:s.getD (0:Int).toNat 0=s.headD 0:=by cases s<;>rfl);rw[hg];refine cS (RP (s.headD 0)) rfl ?_;(conv=>whnf);constructor<;>intro h3;·(conv=>whnf);(have h3:BM (s.headD 0)=false:=by simpa using h3);simp only[BN,h3,Bool.and_false,Dv]
   (have h3:BM (s.headD 0)=true:=by simpa using h3);(conv=>whnf);refine Aa.G6 (λk:Nat=>mk 49 [(0,.str s),(22,.sl 1 (Gt s)),(23,.int .i64 (Gt s).length),(24,.int .i64 k)]) (λ_=>[]) (λk=>k<=s.length/\(s.all VA)=(s.drop k).all VA) (λk=>s.length-k) ⟨0,?_⟩ λk hk=>?_;refine kQ ?_;rfl;obtain⟨hk,he⟩:=hk;refine Ay Ab _ ?_;(conv=>whnf);refine⟨λAA=>?_,λET=>?_⟩
   ·(have AA:k<s.length:=by simpa using AA);rw[HR _ s k AA]at he;(conv=>whnf);refine⟨by omega,.int .u8 s[k].toNat,I6 _ _ AA,?_⟩;(conv=>whnf);refine cS (RP s[k]) rfl ?_;conv=>whnf
    repeat' (first|(refine A4 (λ_=>?_) (λ_=>?_)<;>conv=>whnf)|(refine cS (RQ s[k]) rfl ?_;(conv=>whnf)))
    all_goals first
     |(refine⟨k+1,?_⟩
       conv=>whnf
       refine qG ?_
       have hn:VA s[k]=true:=by simp_all[VA]<;>omega
       rw[hn]at he
       exact⟨⟨by omega,he⟩,by omega⟩)
     |(have hn:VA s[k]=false:=by simp_all[VA]<;>omega
       rw[hn]at he
       simp[BN,he];done)
   (have ET:s.length<=k:=by simp at ET;omega);(have:k=s.length:=by omega);subst this;(have h4:s.all VA=true:=by rw[he];simp);(conv=>whnf);refine Aa.G6 (λk:Nat=>mk 49 [(0,.str s),(41,.agg (strs Bh)),(42,.int .i64 k)]) (λ_=>[]) (λk=>k<=17/\Bh.any (λx=>decide (s=x))=(Bh.drop k).any (λx=>decide (s=x))) (λk=>17-k) ⟨0,?_⟩ λk hk=>?_;refine kQ ?_;rfl;obtain⟨hk,he⟩:=hk;refine Ay Ab _ ?_;(conv=>whnf);refine⟨λAA=>?_,λET=>?_⟩
   ·(have AA:k<17:=by simp at AA;omega);have F5:k<Bh.length:=AA;rw[Vq _ Bh k F5]at he;(conv=>whnf);refine⟨⟨by omega,by omega⟩,.str Bh[k],CW _ _ F5,?_⟩;(conv=>whnf);refine⟨λht=>?_,λhf=>?_⟩;·(conv=>whnf);(have ht:s=Bh[k]:=by simpa using ht);rw[decide_eq_true ht,Bool.true_or]at he;simp only[BN,he];simp
    (conv=>whnf);(have hf:¬s=Bh[k]:=by simpa using hf);rw[decide_eq_false hf,Bool.false_or]at he;refine⟨k+1,?_⟩;refine qG ?_;exact⟨⟨by omega,he⟩,by omega⟩
   (have ET:17<=k:=by simp at ET;omega);(have:k=17:=by omega);subst this;(conv=>whnf);(have h5:Bh.any (λx=>decide (s=x))=false:=by rw[he];rfl);simp only[BN,h3,h4,h5];simp[h1,h2]
  conv=>whnf
  have h2:¬s.length<=16:=by simp at h2;omega
  simp[BN,h2]
 conv=>whnf
 have h1:¬1<=s.length:=by simp at h1;omega
 simp[BN,h1]
structure CK where
 k:Int
 i:Int
 e:Int
def CK.v(f:CK):AV:=.agg [.int .i64 f.k,.int .i64 f.i,.int .i64 f.e]
def B1(nm:Nat->Bs)(i:Nat):Bool:=(A3 i).any λj=>decide (nm j=nm i)
def B4(nm:Nat->Bs)(gd:Nat->Bool)(i:Nat):Bool:=An (nm i)&&!B1 nm i&&gd i
def DQ(nm:Nat->Bs)(gd:Nat->Bool)(m A9:Nat):Bool:=decide (m<=A9)&&(A3 m).all (B4 nm gd)
theorem Zbo{P:Prop}(e:P:=by
 refine kC (hN i hi) ?_;refine kC (IG (nm i) (hl i hi)) ?_;constructor<;>intro h;rw[if_neg (by simpa using h)];exact Er;rw[if_pos (by simpa using h)];exact Er
):P:=e
theorem Zbh{P:Prop}(e:P:=by
 refine Aa.Ar (λj:Nat=>mk 17 [(0,.int .i64 i),(1,.at_ [.fn fN [.at_ A]]),(5,.int .i64 i),(6,.int .i64 j)]) (λ_=>[]) (λj=>j<=i/\(A3 j).any (λj=>decide (nm j=nm i))=false) (λj=>i-j) (λ_ _=>⟨rfl,trivial⟩) ⟨0,?_⟩ (λ_=>rfl) λj hj=>?_;refine kQ ?_;exact rfl;obtain⟨hj,hn⟩:=hj;refine kR ?_;constructor<;>intro h
 ·have h:j<i:=by have:=of_decide_eq_true h;omega
  refine kW ?_;refine Aa.draw [] Ab mO (by kernel_rfl) ?_;conv=>whnf
  refine⟨_,⟨hN j (by omega),rfl⟩,?_⟩;conv=>whnf
  refine⟨_,⟨hN i hi,rfl⟩,?_⟩;conv=>whnf
  constructor<;>intro q;·(have q:nm j=nm i:=by simpa using q);rw[show B1 nm i=true from List.any_eq_true.2 ⟨j,Cc.2 h,by simp[q]⟩,if_pos rfl];exact Er
  have q:¬nm j=nm i:=by simpa using q
  refine kW ?_;refine⟨j+1,?_⟩;refine qG ?_;exact⟨⟨h,by rw[A5,List.any_append,hn];simp[q]⟩,by omega⟩
 have h:j=i:=by have:=of_decide_eq_false h;omega
 subst h;rw[show B1 nm j=false from hn,if_neg (by simp)];exact Er
):P:=e
theorem ZaP{P:Prop}(e:P:=by
 refine Aa.draw [] Ab mO (by kernel_rfl) ?_;conv=>whnf
 refine⟨by omega,_,hg,?_⟩;conv=>whnf
 refine⟨_,⟨hG,rfl⟩,?_⟩;conv=>whnf
 constructor<;>intro h;rw[if_pos (by simpa using h)];exact Er;rw[if_neg (by simp[h])];exact Er
):P:=e
theorem Zbp{P:Prop}(e:P:=by
 rw[Ax,show min (X.length:Int) (A9:Int)=((min X.length A9:Nat):Int)from by omega];obtain⟨M,hM⟩:∃M,M=min X.length A9:=⟨_,rfl⟩;rw[<-hM];refine Aa.Hj 12 247 3 rfl ?_
 refine Aa.Ar (λx:Nat×List CK=>mk 57 [(0,.int .i64 kind),(1,.int .i64 A9),(7,V7),(11,V11),(12,.own 4 3 0 x.2.length),(24,.int .i64 (M:Nat)),(25,.int .i64 (x.1:Nat))]) (λx=>[.dead,.dead,.dead,.dead,.arr 247 3 (x.2.map CK.v)])
  (λx=>x.1<=M/\x.2.length<=x.1/\(x.2=[]↔(A3 x.1).all (B4 nm gd)=true)) (λx=>M-x.1) (λx _=>⟨rfl,Ad _ (λ_=>rfl) _,trivial⟩) ⟨(0,[]),?_⟩ (λ_=>rfl) λx hx=>?_
 refine kQ ?_;simp;obtain⟨i,L⟩:=x;obtain⟨h1,h2,h3⟩:=hx;simp only at h1 h2 h3;refine kR ?_;constructor<;>intro h
 ·have h:i<M:=by have:=of_decide_eq_true h;simp only at this;omega
  have Y3:i<X.length:=by omega
  have r1:=R1 i Y3;have r2:=R2 i Y3;have r3:=R3 i Y3;have G0:B4 nm gd i=false->∀f:CK,(L++[f]=[]↔(A3 (i+1)).all (B4 nm gd)=true):=λhr f=>by rw[A5,BQ];simp[hr]
  have YY:B4 nm gd i=true->(L=[]↔(A3 (i+1)).all (B4 nm gd)=true):=λhr=>by rw[A5,BQ,h3];simp[hr]
  refine kW ?_
  refine Aa.Ar (λj:Nat=>mk 57 [(0,.int .i64 kind),(1,.int .i64 A9),(7,V7),(11,V11),(12,.own 4 3 0 L.length),(13,.int .i64 i),(24,.int .i64 (M:Nat)),(25,.int .i64 i),(28,V28),(29,.int .i64 j)]) (λ_=>[.dead,.dead,.dead,.dead,.arr 247 3 (L.map CK.v)])
   (λj=>j<=3/\(1<=j->An (nm i)=true)/\(2<=j->B1 nm i=false)/\(3<=j->gd i=true)) (λj=>3-j) (λx _=>⟨rfl,Ad _ (λ_=>rfl) _,trivial⟩) ⟨0,?_⟩ (λ_=>rfl) λj hj=>?_
  refine kQ ?_;exact λh=>absurd h (by omega);obtain⟨j1,j2,j3,j4⟩:=hj;refine kR ?_;constructor<;>intro g
  ·(have g:j<3:=by have:=of_decide_eq_true g;omega);rcases (show j=0\/j=1\/j=2 by omega)with rfl|rfl|rfl
   ·refine kW ?_;refine⟨⟨by omega,by omega⟩,_,rfl,?_⟩;refine kW ?_;refine kC (r1) ?_;constructor<;>intro q;·(have q:¬An (nm i)=true:=λhh=>by rw[if_pos hh]at q;simp at q);rw[if_neg q];refine kW ?_;refine⟨rfl,?_⟩;(conv=>whnf);refine⟨⟨by simp,by simp;omega⟩,?_⟩;refine kW ?_;refine⟨(i+1,L++[⟨kind,i,1⟩]),?_⟩;(have e1:L.map CK.v++[AV.agg [.int .i64 kind,.int .i64 i,.int .i64 1]]=(L++[CK.mk kind i 1]).map CK.v:=by simp[CK.v]);refine qG ?_;exact⟨⟨h,by simp;omega,G0 (by simp[B4,q]) _⟩,by simp only;omega⟩
    (have q:An (nm i)=true:=by by_cases hh:An (nm i)=true;exact hh;rw[if_neg hh]at q;simp at q);exact Ybd
   ·refine kW ?_;refine⟨⟨by omega,by omega⟩,_,rfl,?_⟩;refine kW ?_;refine kC (r2) ?_;constructor<;>intro q;·(have q:B1 nm i=true:=by by_cases hh:B1 nm i=true;exact hh;rw[if_neg hh]at q;simp at q);rw[if_pos q];refine kW ?_;refine⟨rfl,?_⟩;(conv=>whnf);refine⟨⟨by simp,by simp;omega⟩,?_⟩;refine kW ?_;refine⟨(i+1,L++[⟨kind,i,4⟩]),?_⟩;(have e1:L.map CK.v++[AV.agg [.int .i64 kind,.int .i64 i,.int .i64 4]]=(L++[CK.mk kind i 4]).map CK.v:=by simp[CK.v]);refine qG ?_;exact⟨⟨h,by simp;omega,G0 (by simp[B4,q]) _⟩,by simp only;omega⟩
    (have q:¬B1 nm i=true:=λhh=>by rw[if_pos hh]at q;simp at q);refine kW ?_;refine⟨2,?_⟩;refine qG ?_;exact⟨⟨by omega,λ_=>j2 (by omega),λ_=>by simpa using q,λh=>absurd h (by omega)⟩,by omega⟩
   refine kW ?_;refine⟨⟨by omega,by omega⟩,_,rfl,?_⟩;refine kW ?_;refine kC (r3) ?_;constructor<;>intro q;·(have q:¬gd i=true:=λhh=>by rw[if_pos hh]at q;simp at q);rw[if_neg q];refine kW ?_;refine⟨rfl,?_⟩;(conv=>whnf);refine⟨⟨by simp,by simp;omega⟩,?_⟩;refine kW ?_;refine⟨(i+1,L++[⟨kind,i,1⟩]),?_⟩;(have e1:L.map CK.v++[AV.agg [.int .i64 kind,.int .i64 i,.int .i64 1]]=(L++[CK.mk kind i 1]).map CK.v:=by simp[CK.v]);refine qG ?_;exact⟨⟨h,by simp;omega,G0 (by simp[B4,q]) _⟩,by simp only;omega⟩
   (have q:gd i=true:=by by_cases hh:gd i=true;exact hh;rw[if_neg hh]at q;simp at q);refine kW ?_;refine⟨3,?_⟩;refine qG ?_;exact⟨⟨by omega,λ_=>j2 (by omega),λ_=>j3 (by omega),λ_=>q⟩,by omega⟩
  have g:j=3:=by have:=of_decide_eq_false g;omega
  subst g;refine kW ?_;refine⟨(i+1,L),?_⟩;refine qG ?_;refine⟨⟨h,by simp only;omega,YY ?_⟩,by simp only;omega⟩;unfold B4;rw[j2 (by omega),j3 (by omega),j4 (by omega)];rfl
 have h:i=M:=by have:=of_decide_eq_false h;simp only at this;omega
 refine kW ?_;rw[Ax];constructor<;>intro q
 ·have q:A9<X.length:=by have:=of_decide_eq_true q;omega
  refine kW ?_;refine⟨rfl,?_⟩;conv=>whnf
  refine⟨⟨by simp,by simp;omega⟩,?_⟩;refine kW ?_;refine⟨⟨by simp,by simp[CK.v];intro a ha;rcases ha with⟨b,_,rfl⟩|rfl<;>rfl⟩,L++[⟨kind,A9,2⟩],by simp[CK.v],by simp;omega,?_⟩;unfold DQ;rw[show decide (X.length<=A9)=false from decide_eq_false (by omega),Dv];simp
 have q:¬A9<X.length:=by have:=of_decide_eq_false q;omega
 refine kW ?_;refine⟨⟨by simp,Ad _ (λ_=>rfl) _⟩,L,rfl,by omega,?_⟩;unfold DQ;rw[h3,h,hM,show min X.length A9=X.length by omega,AZ,decide_eq_true_eq];exact⟨λhh=>⟨by omega,hh⟩,λhh=>hh.2⟩
):P:=e
section
variable (m:Nat)(nm:Nat->Bs)(fN:FuncId)(A:List AV)(hl:∀i<m,(nm i).length<=8000)(hN:∀i:Nat,i<m->Au Pg fN [.int .i64 i,.at_ A] (λr=>r=.str (nm i)))
include hl hN
theorem mQ(i:Nat)(hi:i<m):Au Pg 294 [.int .i64 i,.at_ [.fn fN [.at_ A]]] (λr=>r=.int .i64 (if An (nm i)then 0 else 1)):=by
 refine kB func294 rfl ?_;exact Zbo
omit hl in
theorem mP(i:Nat)(hi:i<m)(hm:m<=1000000):Au Pg 295 [.int .i64 i,.at_ [.fn fN [.at_ A]]] (λr=>r=.int .i64 (if B1 nm i then 4 else 0)):=by
 refine kB func295 rfl ?_;exact Zbh
end
theorem mN(X:List Im)(gd:Nat->Bool)(fG:FuncId)(A2:List AV)(hG:∀i:Nat,i<X.length->∀x,X[i]?=some x->Au Pg fG (Im.v x::[.at_ A2]) (λr=>r=.bool (gd i)))(i:Nat)(hi:i<X.length):
  Au Pg 296 [.int .i64 i,.at_ [.fn fG [.at_ A2]],.at_ [.sl 6 (X.map Im.v)]] (λr=>r=.int .i64 (if gd i then 0 else 1)):=by
 have hg:(X.map Im.v)[((i:Nat):Int).toNat]?=some (Im.v X[i]):=by simp[hi]
 have hG:=hG i hi X[i] (A0 hi);refine kB func296 rfl ?_;exact ZaP
theorem xC(X:List Im)(kind:Int)(A9:Nat)(nm:Nat->Bs)(fN:FuncId)(A:List AV)(hl:∀i<X.length,(nm i).length<=8000)(hN:∀i:Nat,i<X.length->Au Pg fN [.int .i64 i,.at_ A] (λr=>r=.str (nm i)))
  (gd:Nat->Bool) (fG:FuncId) (A2:List AV) (hG:∀i:Nat,i<X.length->∀x,X[i]?=some x->Au Pg fG (Im.v x::[.at_ A2]) (λr=>r=.bool (gd i))) (hX:X.length<=1000000) (dO:A9<=1000):
  Au Pg 241 [.int .i64 kind,.int .i64 A9,.sl 6 (X.map Im.v),.fn fN [.at_ A],.fn fG [.at_ A2]] (λr=>∃L:List CK,r=.sl 3 (L.map CK.v)/\L.length<=1001/\(L=[]↔DQ nm gd X.length A9=true)):=by
 refine Au.Ak func241 rfl Ab (by kernel_rfl) ?_;conv=>whnf
 refine Aa.seq ?_;refine Aa.CF [0,1,2] ?_;refine Aa.st Ab rfl ?_;conv=>whnf
 iterate 1 (refine sT rfl ?_;conv=>whnf)
 refine Aa.CF [3] ?_;refine Aa.st Ab rfl ?_;refine kW ?_;let V7:AV:=.at_ [.sl 6 (X.map Im.v)]
 let V11:AV:=.at_ [.fn 294 [.at_ [.fn fN [.at_ A]]],.fn 295 [.at_ [.fn fN [.at_ A]]],.fn 296 [.at_ [.fn fG [.at_ A2]],.at_ [.sl 6 (X.map Im.v)]]]
 let V28:AV:=.agg [.fn 294 [.at_ [.fn fN [.at_ A]]],.fn 295 [.at_ [.fn fN [.at_ A]]],.fn 296 [.at_ [.fn fG [.at_ A2]],.at_ [.sl 6 (X.map Im.v)]]]
 have R1:=λi hi=>mQ X.length nm fN A hl hN i hi;have R2:=λi hi=>mP X.length nm fN A hN i hi hX;have R3:=λi hi=>mN X gd fG A2 hG i hi;exact Zbp
section
variable (m:Nat)(nm:Nat->Bs)(fN:FuncId)(A:List AV)(hl:∀i<m,(nm i).length<=8000)(hN:∀i:Nat,i<m->Au Pg fN [.int .i64 i,.at_ A] (λr=>r=.str (nm i)))
include hl hN
theorem mW(i:Nat)(hi:i<m):Au Pg 287 [.int .i64 i,.at_ [.fn fN [.at_ A]]] (λr=>r=.int .i64 (if An (nm i)then 0 else 1)):=by
 refine kB func287 rfl ?_;exact Zbo
omit hl in
theorem mV(i:Nat)(hi:i<m)(hm:m<=1000000):Au Pg 288 [.int .i64 i,.at_ [.fn fN [.at_ A]]] (λr=>r=.int .i64 (if B1 nm i then 4 else 0)):=by
 refine kB func288 rfl ?_;exact Zbh
end
theorem mU(X:List LC)(gd:Nat->Bool)(fG:FuncId)(A2:List AV)(hG:∀i:Nat,i<X.length->∀x,X[i]?=some x->Au Pg fG (LC.v x::[.at_ A2]) (λr=>r=.bool (gd i)))(i:Nat)(hi:i<X.length):
  Au Pg 289 [.int .i64 i,.at_ [.fn fG [.at_ A2]],.at_ [.sl 7 (X.map LC.v)]] (λr=>r=.int .i64 (if gd i then 0 else 1)):=by
 have hg:(X.map LC.v)[((i:Nat):Int).toNat]?=some (LC.v X[i]):=by simp[hi]
 have hG:=hG i hi X[i] (A0 hi);refine kB func289 rfl ?_;exact ZaP
theorem xE(X:List LC)(kind:Int)(A9:Nat)(nm:Nat->Bs)(fN:FuncId)(A:List AV)(hl:∀i<X.length,(nm i).length<=8000)(hN:∀i:Nat,i<X.length->Au Pg fN [.int .i64 i,.at_ A] (λr=>r=.str (nm i)))
  (gd:Nat->Bool) (fG:FuncId) (A2:List AV) (hG:∀i:Nat,i<X.length->∀x,X[i]?=some x->Au Pg fG (LC.v x::[.at_ A2]) (λr=>r=.bool (gd i))) (hX:X.length<=1000000) (dO:A9<=1000):
  Au Pg 237 [.int .i64 kind,.int .i64 A9,.sl 7 (X.map LC.v),.fn fN [.at_ A],.fn fG [.at_ A2]] (λr=>∃L:List CK,r=.sl 3 (L.map CK.v)/\L.length<=1001/\(L=[]↔DQ nm gd X.length A9=true)):=by
 refine Au.Ak func237 rfl Ab (by kernel_rfl) ?_;conv=>whnf
 refine Aa.seq ?_;refine Aa.CF [0,1,2] ?_;refine Aa.st Ab rfl ?_;conv=>whnf
 iterate 1 (refine sT rfl ?_;conv=>whnf)
 refine Aa.CF [3] ?_;refine Aa.st Ab rfl ?_;refine kW ?_;let V7:AV:=.at_ [.sl 7 (X.map LC.v)]
 let V11:AV:=.at_ [.fn 287 [.at_ [.fn fN [.at_ A]]],.fn 288 [.at_ [.fn fN [.at_ A]]],.fn 289 [.at_ [.fn fG [.at_ A2]],.at_ [.sl 7 (X.map LC.v)]]]
 let V28:AV:=.agg [.fn 287 [.at_ [.fn fN [.at_ A]]],.fn 288 [.at_ [.fn fN [.at_ A]]],.fn 289 [.at_ [.fn fG [.at_ A2]],.at_ [.sl 7 (X.map LC.v)]]]
 have R1:=λi hi=>mW X.length nm fN A hl hN i hi;have R2:=λi hi=>mV X.length nm fN A hN i hi hX;have R3:=λi hi=>mU X gd fG A2 hG i hi;exact Zbp
section
variable (m:Nat)(nm:Nat->Bs)(fN:FuncId)(A:List AV)(hl:∀i<m,(nm i).length<=8000)(hN:∀i:Nat,i<m->Au Pg fN [.int .i64 i,.at_ A] (λr=>r=.str (nm i)))
include hl hN
theorem mZ(i:Nat)(hi:i<m):Au Pg 280 [.int .i64 i,.at_ [.fn fN [.at_ A]]] (λr=>r=.int .i64 (if An (nm i)then 0 else 1)):=by
 refine kB func280 rfl ?_;exact Zbo
omit hl in
theorem mY(i:Nat)(hi:i<m)(hm:m<=1000000):Au Pg 282 [.int .i64 i,.at_ [.fn fN [.at_ A]]] (λr=>r=.int .i64 (if B1 nm i then 4 else 0)):=by
 refine kB func282 rfl ?_;exact Zbh
end
theorem mX(X:List Dm)(gd:Nat->Bool)(fG:FuncId)(hG:∀i:Nat,i<X.length->∀x,X[i]?=some x->Au Pg fG (Dm.v x::[]) (λr=>r=.bool (gd i)))(i:Nat)(hi:i<X.length):
  Au Pg 283 [.int .i64 i,.at_ [.fn fG []],.at_ [.sl 3 (X.map Dm.v)]] (λr=>r=.int .i64 (if gd i then 0 else 1)):=by
 have hg:(X.map Dm.v)[((i:Nat):Int).toNat]?=some (Dm.v X[i]):=by simp[hi]
 have hG:=hG i hi X[i] (A0 hi);refine kB func283 rfl ?_;exact ZaP
theorem xF(X:List Dm)(kind:Int)(A9:Nat)(nm:Nat->Bs)(fN:FuncId)(A:List AV)(hl:∀i<X.length,(nm i).length<=8000)(hN:∀i:Nat,i<X.length->Au Pg fN [.int .i64 i,.at_ A] (λr=>r=.str (nm i)))
  (gd:Nat->Bool) (fG:FuncId) (hG:∀i:Nat,i<X.length->∀x,X[i]?=some x->Au Pg fG (Dm.v x::[]) (λr=>r=.bool (gd i))) (hX:X.length<=1000000) (dO:A9<=1000):
  Au Pg 231 [.int .i64 kind,.int .i64 A9,.sl 3 (X.map Dm.v),.fn fN [.at_ A],.fn fG []] (λr=>∃L:List CK,r=.sl 3 (L.map CK.v)/\L.length<=1001/\(L=[]↔DQ nm gd X.length A9=true)):=by
 refine Au.Ak func231 rfl Ab (by kernel_rfl) ?_;conv=>whnf
 refine Aa.seq ?_;refine Aa.CF [0,1,2] ?_;refine Aa.st Ab rfl ?_;conv=>whnf
 iterate 1 (refine sT rfl ?_;conv=>whnf)
 refine Aa.CF [3] ?_;refine Aa.st Ab rfl ?_;refine kW ?_;let V7:AV:=.at_ [.sl 3 (X.map Dm.v)]
 let V11:AV:=.at_ [.fn 280 [.at_ [.fn fN [.at_ A]]],.fn 282 [.at_ [.fn fN [.at_ A]]],.fn 283 [.at_ [.fn fG []],.at_ [.sl 3 (X.map Dm.v)]]]
 let V28:AV:=.agg [.fn 280 [.at_ [.fn fN [.at_ A]]],.fn 282 [.at_ [.fn fN [.at_ A]]],.fn 283 [.at_ [.fn fG []],.at_ [.sl 3 (X.map Dm.v)]]]
 have R1:=λi hi=>mZ X.length nm fN A hl hN i hi;have R2:=λi hi=>mY X.length nm fN A hN i hi hX;have R3:=λi hi=>mX X gd fG hG i hi;exact Zbp
section
variable (m:Nat)(nm:Nat->Bs)(fN:FuncId)(A:List AV)(hl:∀i<m,(nm i).length<=8000)(hN:∀i:Nat,i<m->Au Pg fN [.int .i64 i,.at_ A] (λr=>r=.str (nm i)))
include hl hN
theorem mM(i:Nat)(hi:i<m):Au Pg 284 [.int .i64 i,.at_ [.fn fN [.at_ A]]] (λr=>r=.int .i64 (if An (nm i)then 0 else 1)):=by
 refine kB func284 rfl ?_;exact Zbo
omit hl in
theorem mL(i:Nat)(hi:i<m)(hm:m<=1000000):Au Pg 285 [.int .i64 i,.at_ [.fn fN [.at_ A]]] (λr=>r=.int .i64 (if B1 nm i then 4 else 0)):=by
 refine kB func285 rfl ?_;exact Zbh
end
theorem mK(X:List Bs)(gd:Nat->Bool)(fG:FuncId)(hG:∀i:Nat,i<X.length->∀x,X[i]?=some x->Au Pg fG ((λs=>AV.agg [.str s]) x::[]) (λr=>r=.bool (gd i)))(i:Nat)(hi:i<X.length):
  Au Pg 286 [.int .i64 i,.at_ [.fn fG []],.at_ [.sl 1 (X.map (λs=>AV.agg [.str s]))]] (λr=>r=.int .i64 (if gd i then 0 else 1)):=by
 have hg:(X.map (λs=>AV.agg [.str s]))[((i:Nat):Int).toNat]?=some ((λs=>AV.agg [.str s]) X[i]):=by simp[hi]
 have hG:=hG i hi X[i] (A0 hi);refine kB func286 rfl ?_;exact ZaP
theorem xB(X:List Bs)(kind:Int)(A9:Nat)(nm:Nat->Bs)(fN:FuncId)(A:List AV)(hl:∀i<X.length,(nm i).length<=8000)(hN:∀i:Nat,i<X.length->Au Pg fN [.int .i64 i,.at_ A] (λr=>r=.str (nm i)))
  (gd:Nat->Bool) (fG:FuncId) (hG:∀i:Nat,i<X.length->∀x,X[i]?=some x->Au Pg fG ((λs=>AV.agg [.str s]) x::[]) (λr=>r=.bool (gd i))) (hX:X.length<=1000000) (dO:A9<=1000):
  Au Pg 234 [.int .i64 kind,.int .i64 A9,.sl 1 (X.map (λs=>AV.agg [.str s])),.fn fN [.at_ A],.fn fG []] (λr=>∃L:List CK,r=.sl 3 (L.map CK.v)/\L.length<=1001/\(L=[]↔DQ nm gd X.length A9=true)):=by
 refine Au.Ak func234 rfl Ab (by kernel_rfl) ?_;conv=>whnf
 refine Aa.seq ?_;refine Aa.CF [0,1,2] ?_;refine Aa.st Ab rfl ?_;conv=>whnf
 iterate 1 (refine sT rfl ?_;conv=>whnf)
 refine Aa.CF [3] ?_;refine Aa.st Ab rfl ?_;refine kW ?_;let V7:AV:=.at_ [.sl 1 (X.map (λs=>AV.agg [.str s]))]
 let V11:AV:=.at_ [.fn 284 [.at_ [.fn fN [.at_ A]]],.fn 285 [.at_ [.fn fN [.at_ A]]],.fn 286 [.at_ [.fn fG []],.at_ [.sl 1 (X.map (λs=>AV.agg [.str s]))]]]
 let V28:AV:=.agg [.fn 284 [.at_ [.fn fN [.at_ A]]],.fn 285 [.at_ [.fn fN [.at_ A]]],.fn 286 [.at_ [.fn fG []],.at_ [.sl 1 (X.map (λs=>AV.agg [.str s]))]]]
 have R1:=λi hi=>mM X.length nm fN A hl hN i hi;have R2:=λi hi=>mL X.length nm fN A hN i hi hX;have R3:=λi hi=>mK X gd fG hG i hi;exact Zbp
section
variable (m:Nat)(nm:Nat->Bs)(fN:FuncId)(A:List AV)(hl:∀i<m,(nm i).length<=8000)(hN:∀i:Nat,i<m->Au Pg fN [.int .i64 i,.at_ A] (λr=>r=.str (nm i)))
include hl hN
theorem mT(i:Nat)(hi:i<m):Au Pg 298 [.int .i64 i,.at_ [.fn fN [.at_ A]]] (λr=>r=.int .i64 (if An (nm i)then 0 else 1)):=by
 refine kB func298 rfl ?_;exact Zbo
omit hl in
theorem mS(i:Nat)(hi:i<m)(hm:m<=1000000):Au Pg 299 [.int .i64 i,.at_ [.fn fN [.at_ A]]] (λr=>r=.int .i64 (if B1 nm i then 4 else 0)):=by
 refine kB func299 rfl ?_;exact Zbh
end
theorem mR(X:List Io)(gd:Nat->Bool)(fG:FuncId)(hG:∀i:Nat,i<X.length->∀x,X[i]?=some x->Au Pg fG (Io.v x::[]) (λr=>r=.bool (gd i)))(i:Nat)(hi:i<X.length):
  Au Pg 300 [.int .i64 i,.at_ [.fn fG []],.at_ [.sl 3 (X.map Io.v)]] (λr=>r=.int .i64 (if gd i then 0 else 1)):=by
 have hg:(X.map Io.v)[((i:Nat):Int).toNat]?=some (Io.v X[i]):=by simp[hi]
 have hG:=hG i hi X[i] (A0 hi);refine kB func300 rfl ?_;exact ZaP
theorem xD(X:List Io)(kind:Int)(A9:Nat)(nm:Nat->Bs)(fN:FuncId)(A:List AV)(hl:∀i<X.length,(nm i).length<=8000)(hN:∀i:Nat,i<X.length->Au Pg fN [.int .i64 i,.at_ A] (λr=>r=.str (nm i)))
  (gd:Nat->Bool) (fG:FuncId) (hG:∀i:Nat,i<X.length->∀x,X[i]?=some x->Au Pg fG (Io.v x::[]) (λr=>r=.bool (gd i))) (hX:X.length<=1000000) (dO:A9<=1000):
  Au Pg 245 [.int .i64 kind,.int .i64 A9,.sl 3 (X.map Io.v),.fn fN [.at_ A],.fn fG []] (λr=>∃L:List CK,r=.sl 3 (L.map CK.v)/\L.length<=1001/\(L=[]↔DQ nm gd X.length A9=true)):=by
 refine Au.Ak func245 rfl Ab (by kernel_rfl) ?_;conv=>whnf
 refine Aa.seq ?_;refine Aa.CF [0,1,2] ?_;refine Aa.st Ab rfl ?_;conv=>whnf
 iterate 1 (refine sT rfl ?_;conv=>whnf)
 refine Aa.CF [3] ?_;refine Aa.st Ab rfl ?_;refine kW ?_;let V7:AV:=.at_ [.sl 3 (X.map Io.v)]
 let V11:AV:=.at_ [.fn 298 [.at_ [.fn fN [.at_ A]]],.fn 299 [.at_ [.fn fN [.at_ A]]],.fn 300 [.at_ [.fn fG []],.at_ [.sl 3 (X.map Io.v)]]]
 let V28:AV:=.agg [.fn 298 [.at_ [.fn fN [.at_ A]]],.fn 299 [.at_ [.fn fN [.at_ A]]],.fn 300 [.at_ [.fn fG []],.at_ [.sl 3 (X.map Io.v)]]]
 have R1:=λi hi=>mT X.length nm fN A hl hN i hi;have R2:=λi hi=>mS X.length nm fN A hN i hi hX;have R3:=λi hi=>mR X gd fG hG i hi;exact Zbp
structure Oh(n:Net):Prop where
 names:∀s∈n.names,s.length<=8000
 opers:∀s∈n.opers,s.length<=8000
 Ag:∀o∈n.Ag,o.name.length<=8000/\o.AK.length<=1000/\∀s∈o.AK,s.length<=8000
 Am:∀l∈n.Am,l.name.length<=8000
 Ao:∀k∈n.Ao,k.name.length<=8000
 len:n.names.length<=1000/\n.Aq.length<=1000/\n.opers.length<=1000/\n.Ag.length<=1000/\n.Am.length<=1000/\n.Ao.length<=1000
def Rg(v a b:Int):Bool:=decide (a<=v)&&decide (v<=b)
theorem Gh(v a b:Int):Au Pg 293 [.int .i64 v,.int .i64 a,.int .i64 b] (λr=>r=.bool (Rg v a b)):=by
 unfold Rg;refine kB func293 rfl ?_
 repeat' (first|(refine A4 (λ_=>?_) (λ_=>?_)<;>conv=>whnf)|refine Ql ?_|fail)
 all_goals (first|(simp_all;done)|(simp_all;omega))
theorem JO(v:Int):Au Pg 247 [.int .i64 v] (λr=>r=.bool (Rg v 0 1439)):=by
 refine kB func247 rfl ?_;exact pE (Gh v 0 1439)
def NR(i:Int)(m:Nat):Bool:=decide (0<=i)&&decide (i<m)
theorem vE(i:Int)(l:List Bs):Au Pg 290 [.int .i64 i,.sl 1 (l.map λs=>.agg [.str s])] (λr=>r=.bool (NR i l.length)):=by
 unfold NR;refine kB func290 rfl ?_
 repeat' (first|(refine A4 (λ_=>?_) (λ_=>?_)<;>conv=>whnf)|refine Ql ?_|fail)
 all_goals (first|(simp_all;done)|(simp_all;omega))
theorem vF(i:Int)(l:List Dm):Au Pg 291 [.int .i64 i,.sl 3 (l.map Dm.v)] (λr=>r=.bool (NR i l.length)):=by
 unfold NR;refine kB func291 rfl ?_
 repeat' (first|(refine A4 (λ_=>?_) (λ_=>?_)<;>conv=>whnf)|refine Ql ?_|fail)
 all_goals (first|(simp_all;done)|(simp_all;omega))
theorem Xi(i:Int)(l:List LC):Au Pg 297 [.int .i64 i,.sl 7 (l.map LC.v)] (λr=>r=.bool (NR i l.length)):=by
 unfold NR;refine kB func297 rfl ?_
 repeat' (first|(refine A4 (λ_=>?_) (λ_=>?_)<;>conv=>whnf)|refine Ql ?_|fail)
 all_goals (first|(simp_all;done)|(simp_all;omega))
def uF(n:Net)(l:Im):Bool:=NR l.fr n.Ag.length&&NR l.dst n.Ag.length&&!decide (l.fr=l.dst)&&Rg l.dep 0 1439&&Rg l.Bb 1 5000&&Rg l.load 1 40
theorem V5(n:Net)(l:Im):Au Pg 243 [n.v,l.v] (λr=>r=.bool (uF n l)):=by
 unfold uF;refine kB func243 rfl ?_
 repeat' (first|(refine A4 (λ_=>?_) (λ_=>?_)<;>conv=>whnf)|(refine kC (Xi l.fr n.Ag) ?_)|(refine kC (Xi l.dst n.Ag) ?_)|(refine kC (JO l.dep) ?_)|(refine kC (Gh l.Bb 1 5000) ?_)|(refine kC (Gh l.load 1 40) ?_)|refine Ql ?_|fail)
 all_goals simp_all
def HH(n:Net)(o:LC):Bool:=NR o.oper n.opers.length&&NR o.Gs n.Aq.length&&decide (o.AK.length<=20)&&o.AK.all Bt&&Rg o.Bg 2 64&&Rg o.As 1 4&&Rg o.Ap 1 240
theorem SH(n:Net)(o:LC)(hc:∀s∈o.AK,s.length<=8000):Au Pg 239 [n.v,o.v] (λr=>r=.bool (HH n o)):=by
 unfold HH;refine kB func239 rfl ?_;refine kC (vE o.oper n.opers) ?_;constructor<;>intro h1
 ·have h1:NR o.oper n.opers.length=true:=by simpa using h1
  rw[h1];conv=>whnf
  refine kC (vF o.Gs n.Aq) ?_;constructor<;>intro h2
  ·(have h2:NR o.Gs n.Aq.length=true:=by simpa using h2);rw[h2];refine kW ?_;rw[Ax];constructor<;>intro h3;·(have h3:¬o.AK.length<=20:=by have:=of_decide_eq_true h3;omega);refine kW ?_;simp[h3]
   (have h3:o.AK.length<=20:=by have:=of_decide_eq_false h3;omega);refine kW ?_;rw[Ax];refine Aa.Ar (λk:Nat=>mk 51 [(3,.ptr 1 0),(28,.sl 1 (o.AK.map .str)),(29,.int .i64 (o.AK.length:Nat)),(30,.int .i64 k)]) (λ_=>[.cells n.c,.cells [.str o.name,.int .i64 o.oper,.int .i64 o.Gs,.int .i64 o.Bg,.int .i64 o.As,.int .i64 o.Ap,.sl 1 (o.AK.map .str)]]) (λk=>k<=o.AK.length/\o.AK.all Bt=(o.AK.drop k).all Bt) (λk=>o.AK.length-k) (λ_ _=>⟨rfl,rfl,rfl,trivial⟩) ⟨0,?_⟩ (λ_=>rfl) λk hk=>?_;refine kQ ?_;rfl;obtain⟨hk,hn⟩:=hk;refine kR ?_;constructor<;>intro g
   ·(have g:k<o.AK.length:=by have:=of_decide_eq_true g;omega);(have hg:(o.AK.map AV.str)[((k:Nat):Int).toNat]?=some (.str o.AK[k]):=by simp[g]);rw[HR _ _ k g]at hn;refine kW ?_;refine⟨by omega,_,hg,?_⟩;refine kW ?_;refine kC (iN o.AK[k] (hc _ (List.getElem_mem g))) ?_;constructor<;>intro q;·(have q:Bt o.AK[k]=false:=by simpa using q);refine kW ?_;rw[hn,q];simp
    (have q:Bt o.AK[k]=true:=by simpa using q);rw[q]at hn;refine kW ?_;refine⟨k+1,?_⟩;refine qG ?_;exact⟨⟨g,hn⟩,by omega⟩
   (have g:k=o.AK.length:=by have:=of_decide_eq_false g;omega);subst g;rw[List.drop_length]at hn;refine kW ?_
   repeat' (first|(refine A4 (λ_=>?_) (λ_=>?_)<;>conv=>whnf)|(refine kC (Gh o.Bg 2 64) ?_)|(refine kC (Gh o.As 1 4) ?_)|(refine kC (Gh o.Ap 1 240) ?_)|refine Ql ?_|fail)
   all_goals simp_all
  have h2:NR o.Gs n.Aq.length=false:=by simpa using h2
  rw[h2];refine kW ?_;simp
 have h1:NR o.oper n.opers.length=false:=by simpa using h1
 rw[h1];refine kW ?_;simp
theorem Kx{α:Type}(v:α->AV)(l:List α)(d:α){i:Nat}(h:i<l.length):(l.map v)[((i:Nat):Int).toNat]?=some (v (l.getD i d)):=getD_map v l d (i:=(i:Int)) (by omega) (by omega)
section
variable (n:Net)
def nmC(i:Nat):Bs:=n.names.getD i []
def nmO(i:Nat):Bs:=n.opers.getD i []
def nmF(i:Nat):Bs:=(n.Ag.getD i GY).name
def nmL(i:Nat):Bs:=(n.Am.getD i GD).name
def nmK(i:Nat):Bs:=(n.Ao.getD i Qd).name
theorem vD(i:Nat):Au Pg 230 [.int .i64 i,.at_ n.c] (λr=>r=.str (nmC n i)):=by
 unfold nmC;refine kB func230 rfl ?_;rw[Ax];constructor<;>intro h
 ·have h:i<n.names.length:=by have:=of_decide_eq_true h;omega
  refine kW ?_;refine⟨by omega,_,Kx AV.str n.names [] (by omega),?_⟩;exact Er
 have h:n.names.length<=i:=by have:=of_decide_eq_false h;omega
 rw[show n.names.getD i []=[]from by simp[h]];exact Er
theorem vC(i:Nat)(hi:i<n.opers.length):Au Pg 233 [.int .i64 i,.at_ n.c] (λr=>r=.str (nmO n i)):=by
 unfold nmO;refine kB func233 rfl ?_;refine⟨by omega,_,Kx (λs=>AV.agg [.str s]) n.opers [] (by omega),?_⟩;exact Er
theorem vB(s:Bs):Au Pg 235 [.agg [.str s]] (λr=>r=.bool true):=by
 exact kBe func235 rfl
theorem vA(i:Nat)(hi:i<n.Ag.length):Au Pg 236 [.int .i64 i,.at_ n.c] (λr=>r=.str (nmF n i)):=by
 unfold nmF;refine kB func236 rfl ?_;refine⟨by omega,_,Kx LC.v n.Ag GY (by omega),?_⟩;exact Er
theorem uZ(o:LC)(hc:∀s∈o.AK,s.length<=8000):Au Pg 238 [o.v,.at_ n.c] (λr=>r=.bool (HH n o)):=by
 refine kB func238 rfl ?_;exact pE (SH n o hc)
theorem uY(i:Nat)(hi:i<n.Am.length):Au Pg 240 [.int .i64 i,.at_ n.c] (λr=>r=.str (nmL n i)):=by
 unfold nmL;refine kB func240 rfl ?_;refine⟨by omega,_,Kx Im.v n.Am GD (by omega),?_⟩;exact Er
theorem uX(l:Im):Au Pg 242 [l.v,.at_ n.c] (λr=>r=.bool (uF n l)):=by
 refine kB func242 rfl ?_;exact pE (V5 n l)
theorem uW(i:Nat)(hi:i<n.Ao.length):Au Pg 244 [.int .i64 i,.at_ n.c] (λr=>r=.str (nmK n i)):=by
 unfold nmK;refine kB func244 rfl ?_;refine⟨by omega,_,Kx Io.v n.Ao Qd (by omega),?_⟩;exact Er
def MY(k:Io):Bool:=Rg k.cut 0 1439&&Rg k.Be 0 1439
theorem uV(k:Io):Au Pg 246 [k.v] (λr=>r=.bool (MY k)):=by
 unfold MY;refine kB func246 rfl ?_
 repeat' (first|(refine A4 (λ_=>?_) (λ_=>?_)<;>conv=>whnf)|(refine kC (JO k.cut) ?_)|(refine kC (JO k.Be) ?_)|refine Ql ?_|fail)
 all_goals simp_all
def MH:Bool:=decide (n.names.length=n.Aq.length)&&DQ (nmC n) (λi=>CX (n.Aq.getD i xK)) n.Aq.length 6&&DQ (nmO n) (λ_=>true) n.opers.length 6
 && DQ (nmF n) (λi=>HH n (n.Ag.getD i GY)) n.Ag.length 12&&DQ (nmL n) (λi=>uF n (n.Am.getD i GD)) n.Am.length 40&&DQ (nmK n) (λi=>MY (n.Ao.getD i Qd)) n.Ao.length 4
end
theorem ZmJ(n:Net)(hz:Oh n)(K:AV->KK)(X:XX)
  (hK:∀L:List CK,L.length<=10000->(L=[]↔MH n=true)->K (.own 3 3 0 L.length) (mk 41 [(1,.at_ n.c),(7,n.v)]) [.dead,.ghost [] [] [],.dead,.arr 247 3 (L.map CK.v)]):Ah Pg 192 [n.v] (mk 41 [(1,.at_ n.c),(7,n.v)]) [.dead] K X:=by
 refine Ah.inline func192 rfl Ab (by kernel_rfl) λus ms=>?_;conv=>whnf
 refine Aa.seq ?_;refine Aa.CF [2] ?_;refine Aa.st Ab rfl ?_;conv=>whnf
 iterate 2 (refine sT rfl ?_;conv=>whnf)
 refine Aa.Hj 3 247 3 rfl ?_;refine Aa.seq ?_;refine Aa.ZhQ (λL:List CK=>mk 57 [(1,.at_ n.c),(3,.own 3 3 0 L.length)]) (λL=>[.dead,.ghost (mk 41 [(1,.at_ n.c),(7,n.v)]) us ms,.dead,.arr 247 3 (L.map CK.v)]) (λL=>L.length<=1/\(L=[]↔decide (n.names.length=n.Aq.length)=true)) (λL _=>⟨rfl,rfl,Ad _ (λ_=>rfl) _,trivial⟩) (λ_=>?_) ?_ λL0 h0=>?_;exact Nat.le_refl _
 ·refine kW ?_;rw[Ax,Ax];constructor<;>intro q;·(have q:¬n.names.length=n.Aq.length:=by simp at q;omega);refine kW ?_;refine⟨rfl,?_⟩;(conv=>whnf);refine⟨⟨by simp,by simp⟩,?_⟩;refine kW ?_;refine⟨[⟨1,-1,1⟩],?_⟩;refine qG ?_;simp[q]
  have q:n.names.length=n.Aq.length:=by simp at q;omega
  refine kW ?_;refine⟨[],?_⟩;refine qG ?_;simp[q]
 obtain⟨h1,h2⟩:=h0;have hz:=hz;obtain⟨z1,z2,z3,z4,z5,z6⟩:=hz.len;have gD:∀{α:Type}(l:List α)(d:α)(i:Nat)(x:α),l[i]?=some x->l.getD i d=x:=λl d i x h=>by simp[Dy,h]
 have gM:∀{α:Type}(l:List α)(i:Nat)(x:α),l[i]?=some x->x∈l:=λl i x h=>List.mem_of_getElem? h;have gN:∀{α:Type}(l:List α)(d:α)(i:Nat),i<l.length->l[i]?=some (l.getD i d):=λl d i h=>by simp[Dy,h]
 have hB:∀(s:List Bs)(h:∀x∈s,x.length<=8000)(i:Nat),(s.getD i []).length<=8000:=λs h i=>by by_cases k:i<s.length;exact h _ (by simp[k]);simp[Dy,List.getElem?_eq_none (Nat.le_of_not_lt k)]
 refine kW ?_;refine Ah.BZ (xF n.Aq 1 6 (nmC n) 230 n.c (λi _=>hB n.names hz.names i) (λi _=>vD n i) (λi=>CX (n.Aq.getD i xK)) 232 (λi h x hx=>by rw[gD _ _ _ _ hx];exact He x) (by omega) (by omega)) rfl λr hr=>?_;obtain⟨L1,rfl,l1,e1⟩:=hr;refine kW ?_;rw[<-BR];obtain⟨M1,m1⟩:∃M,M=L0++L1:=⟨_,rfl⟩;have k1:M1=[]↔L0=[]/\L1=[]:=by rw[m1,A6]
 have n1:M1.length=L0.length+L1.length:=by rw[m1,BK]
 rw[<-m1];refine⟨⟨by simp,by simp;omega⟩,?_⟩;refine kW ?_;refine Ah.BZ (xB n.opers 2 6 (nmO n) 233 n.c (λi _=>hB n.opers hz.opers i) (λi h=>vC n i h) (λ_=>true) 235 (λi h x hx=>vB x) (by omega) (by omega)) rfl λr hr=>?_;obtain⟨L2,rfl,l2,e2⟩:=hr;refine kW ?_;rw[<-BR];obtain⟨M2,m2⟩:∃M,M=M1++L2:=⟨_,rfl⟩;have k2:M2=[]↔M1=[]/\L2=[]:=by rw[m2,A6]
 have n2:M2.length=M1.length+L2.length:=by rw[m2,BK]
 rw[<-m2];refine⟨⟨by simp,by simp;omega⟩,?_⟩;refine kW ?_;refine Ah.BZ (xE n.Ag 3 12 (nmF n) 236 n.c (λi h=>(hz.Ag _ (gM _ _ _ (gN _ _ _ h))).1) (λi h=>vA n i h) (λi=>HH n (n.Ag.getD i GY)) 238 n.c (λi h x hx=>by rw[gD _ _ _ _ hx];exact uZ n x (hz.Ag x (gM _ _ _ hx)).2.2) (by omega) (by omega)) rfl λr hr=>?_;obtain⟨L3,rfl,l3,e3⟩:=hr;refine kW ?_;rw[<-BR];obtain⟨M3,m3⟩:∃M,M=M2++L3:=⟨_,rfl⟩;have k3:M3=[]↔M2=[]/\L3=[]:=by rw[m3,A6]
 have n3:M3.length=M2.length+L3.length:=by rw[m3,BK]
 rw[<-m3];refine⟨⟨by simp,by simp;omega⟩,?_⟩;refine kW ?_;refine Ah.BZ (xC n.Am 4 40 (nmL n) 240 n.c (λi h=>hz.Am _ (gM _ _ _ (gN _ _ _ h))) (λi h=>uY n i h) (λi=>uF n (n.Am.getD i GD)) 242 n.c (λi h x hx=>by rw[gD _ _ _ _ hx];exact uX n x) (by omega) (by omega)) rfl λr hr=>?_;obtain⟨L4,rfl,l4,e4⟩:=hr;refine kW ?_;rw[<-BR];obtain⟨M4,m4⟩:∃M,M=M3++L4:=⟨_,rfl⟩;have k4:M4=[]↔M3=[]/\L4=[]:=by rw[m4,A6]
 have n4:M4.length=M3.length+L4.length:=by rw[m4,BK]
 rw[<-m4];refine⟨⟨by simp,by simp;omega⟩,?_⟩;refine kW ?_;refine Ah.BZ (xD n.Ao 5 4 (nmK n) 244 n.c (λi h=>hz.Ao _ (gM _ _ _ (gN _ _ _ h))) (λi h=>uW n i h) (λi=>MY (n.Ao.getD i Qd)) 246 (λi h x hx=>by rw[gD _ _ _ _ hx];exact uV x) (by omega) (by omega)) rfl λr hr=>?_;obtain⟨L5,rfl,l5,e5⟩:=hr;refine kW ?_;rw[<-BR];obtain⟨M5,m5⟩:∃M,M=M4++L5:=⟨_,rfl⟩;have k5:M5=[]↔M4=[]/\L5=[]:=by rw[m5,A6]
 have n5:M5.length=M4.length+L5.length:=by rw[m5,BK]
 rw[<-m5];refine⟨⟨by simp,by simp;omega⟩,?_⟩;refine kW ?_;refine⟨⟨rfl,rfl⟩,?_⟩;conv=>whnf
 rw[Ax];refine hK M5 (by omega) ?_;unfold MH;simp only[AZ];rw[k5,k4,k3,k2,k1,h2,e1,e2,e3,e4,e5]
def Oz(t:List Int)(a b:Nat):Bool:=!decide (Lv t a b=-1)
def Zcr(t:List Int)(m b:Nat):Bool:=(A3 m).all λa=>Oz t a b
def Df(n:Net):Bool:=MH n&&(A3 n.Ag.length).all λb=>Zcr (IH n) n.Ag.length b
theorem RM(l:Nat):∀t:List Int,Cw l (t.map (AV.int .i64))=t.map (AV.int .i64)
 |[]=>rfl
 |x::t=>by rw[BU];unfold Cw;rw[RM l t];unfold Dh;rfl
theorem tD(cs l:List AV)(h:l.length=cs.length):Je l 0 cs=cs:=TN cs l [] h
theorem La(n:Net):(IH n).length=144:=by
 unfold IH;rw[EI _ (λv t=>EI _ (λa t=>EI _ (λb t=>QO _ _ _ _) _ _) _ _)];unfold MD;rw[EI _ (λ_ _=>Ou _ _ _ _)];unfold YT;rw[EI _ (λa t=>EI _ (λ_ _=>Q1 _ _ _) _ _)];simp
theorem nA(n:Net)(hz:Oh n)(hi:MH n=true->(∀l∈n.Am,0<=l.fr/\l.fr<12/\0<=l.dst/\l.dst<12)/\n.Am.length<=40/\n.Ag.length<=12):
  Au Pg 141 [n.v] (λr=>∃L:List CK,r=.sl 3 (L.map CK.v)/\(L=[]↔Df n=true)):=by
 refine Au.Ak func141 rfl Ab (by kernel_rfl) ?_;conv=>whnf
 refine Aa.seq ?_;refine Aa.CF [0] ?_;refine Aa.st Ab rfl ?_;conv=>whnf
 refine Aa.forget (E':=mk 41 [(1,.at_ n.c)]) ?_ ?_
 ·conv=>whnf
  repeat(refine A4 ?_ ?_;(focus (first|rfl|(simp;done)|(first|exact ZjF _|exact trivial;done)));conv=>whnf)
  exact trivial
 refine kW ?_;refine ZmJ n hz _ _ λL l1 l2=>?_;refine kW ?_;constructor<;>intro q
 ·have q:L≠[]:=by rintro rfl;simp at q
  refine kW ?_;refine⟨⟨by simp,Ad _ (λ_=>rfl) _⟩,L,rfl,⟨λh=>absurd h q,λh=>absurd (l2.2 ?_) q⟩⟩;unfold Df at h;rw[AZ]at h;exact h.1
 have q:L=[]:=by
  cases L with
  |nil=>rfl
  |cons _ _=>have:=of_decide_eq_false q;simp at this
 subst q;obtain⟨hf,hL,hm⟩:=hi (l2.1 rfl);have hsb:Df n=(A3 n.Ag.length).all λb=>Zcr (IH n) n.Ag.length b:=by unfold Df;rw[l2.1 rfl];rfl
 rw[hsb];refine kW ?_;refine kC (Ys n hf hL) ?_;rw[QA,Ax,La];conv=>whnf
 rw[DS,tD _ _ (by rw[Ax,La];rfl)];have hlen:=La n;obtain⟨t,ht⟩:∃t,t=IH n:=⟨_,rfl⟩;rw[<-ht]at hlen ⊢;obtain⟨m,gH⟩:∃m,m=n.Ag.length:=⟨_,rfl⟩;refine kW ?_;rw[Ax];rw[<-gH]at hm ⊢
 refine Aa.Ar (λx:Nat×List CK=>mk 41 [(1,.at_ n.c),(3,.own 3 3 0 x.2.length),(4,.ptr 4 0),(17,.int .i64 (m:Nat)),(18,.int .i64 (x.1:Nat))]) (λx=>[.dead,.ghost [] [] [],.dead,.arr 247 3 (x.2.map CK.v),.cells (t.map (.int .i64))])
  (λx=>x.1<=m/\x.2.length<=x.1/\(x.2=[]↔(A3 x.1).all (λb=>Zcr t m b)=true)) (λx=>m-x.1) (λx _=>⟨rfl,rfl,Ad _ (λ_=>rfl) _,B7 _ _,trivial⟩) ⟨(0,[]),?_⟩ (λ_=>rfl) λx hx=>?_
 refine kQ ?_;simp;obtain⟨b,L⟩:=x;obtain⟨h1,h2,h3⟩:=hx;simp only at h1 h2 h3;refine kR ?_;constructor<;>intro h
 ·have h:b<m:=by have:=of_decide_eq_true h;simp only at this;omega
  refine kW ?_;rw[Ax,<-gH]
  refine Aa.Ar (λa:Nat=>mk 41 [(1,.at_ n.c),(3,.own 3 3 0 L.length),(4,.ptr 4 0),(5,.int .i64 b),(17,.int .i64 (m:Nat)),(18,.int .i64 b),(23,.int .i64 (m:Nat)),(24,.int .i64 (a:Nat))]) (λ_=>[.dead,.ghost [] [] [],.dead,.arr 247 3 (L.map CK.v),.cells (t.map (.int .i64))])
   (λa=>a<=m/\(A3 a).all (λa=>Oz t a b)=true) (λa=>m-a) (λx _=>⟨rfl,rfl,Ad _ (λ_=>rfl) _,B7 _ _,trivial⟩) ⟨0,?_⟩ (λ_=>rfl) λa ha=>?_
  refine kQ ?_;rfl;obtain⟨a1,a2⟩:=ha;refine kR ?_;constructor<;>intro g
  ·(have g:a<m:=by have:=of_decide_eq_true g;omega);(have ra:(A3 (a+1)).all (λa=>Oz t a b)=((A3 a).all (λa=>Oz t a b)&&Oz t a b):=by rw[A5,BQ];simp);refine kW ?_;refine⟨⟨by omega,by omega⟩,?_⟩;(conv=>whnf);refine⟨⟨by omega,by omega⟩,?_⟩;(conv=>whnf);rw[BC,OR hlen (by omega) (by omega) (by omega) (by omega)];refine kW ?_;constructor<;>intro q;·(have q:Lv t a b=-1:=by simpa using q);(have h4:Zcr t m b=false:=by refine C4.2 λhh=>?_;have:=CL.1 hh a (Cc.2 g);simp[Oz,q]at this);refine kW ?_;refine⟨rfl,?_⟩;(conv=>whnf);refine⟨⟨by simp,by simp;omega⟩,?_⟩;(conv=>whnf);rw[FW,RM];refine kW ?_;refine⟨(b+1,L++[⟨3,b,111⟩]),?_⟩;(have e1:L.map CK.v++[AV.agg [.int .i64 3,.int .i64 b,.int .i64 111]]=(L++[CK.mk 3 b 111]).map CK.v:=by simp[CK.v]);refine qG ?_;exact⟨⟨h,by simp;omega,by rw[A5,BQ];simp[h4]⟩,by simp only;omega⟩
   (have q:¬Lv t a b=-1:=by simpa using q);refine kW ?_;refine⟨a+1,?_⟩;refine qG ?_;exact⟨⟨g,by rw[ra,a2];simp[Oz,q]⟩,by omega⟩
  have g:a=m:=by have:=of_decide_eq_false g;omega
  subst g;have h4:Zcr t a b=true:=a2;refine kW ?_;refine⟨(b+1,L),?_⟩;refine qG ?_;exact⟨⟨h,by simp only;omega,by rw[A5,BQ,h3];simp[h4]⟩,by simp only;omega⟩
 have h:b=m:=by have:=of_decide_eq_false h;simp only at this;omega
 subst h;refine kW ?_;refine⟨⟨by simp,Ad _ (λ_=>rfl) _⟩,L,rfl,h3⟩
theorem Lu{nm:Nat->Bs}{gd:Nat->Bool}{m A9:Nat}(h:DQ nm gd m A9=true):m<=A9/\∀i<m,gd i=true:=by
 unfold DQ at h;rw[AZ,CL]at h;refine⟨of_decide_eq_true h.1,λi hi=>?_⟩;have:=h.2 i (Cc.2 hi);unfold B4 at this;simp only[AZ]at this;exact this.2
theorem S1{v a b:Int}:Rg v a b=true↔a<=v/\v<=b:=by simp[Rg]
theorem YU{v:Int}{m:Nat}:NR v m=true↔0<=v/\v<m:=by simp[NR]
theorem YF{α:Type}{l:List α}{d:α}{p:α->Bool}(h:∀i<l.length,p (l.getD i d)=true):∀x∈l,p x=true:=λx hx=>by
 obtain⟨i,hi,rfl⟩:=List.getElem_of_mem hx;have:=h i hi;rwa [List.getD_eq_getElem?_getD,A0 hi]at this
theorem Q2{n:Net}(h:MH n=true):Dw n/\∀o∈n.Ag,2<=o.Bg/\o.Bg<=64:=by
 unfold MH at h;simp only[AZ]at h;obtain⟨⟨⟨⟨⟨h0,h1⟩,h2⟩,h3⟩,h4⟩,h5⟩:=h;obtain⟨l1,g1⟩:=Lu h1;obtain⟨l3,g3⟩:=Lu h3;obtain⟨l4,g4⟩:=Lu h4;obtain⟨l5,g5⟩:=Lu h5;have g3:=YF g3;have g4:=YF g4;have g5:=YF g5;refine⟨⟨YF g1,λo ho=>?_,λl hl=>?_,λk hk=>?_,l1,l3,l4,l5⟩,λo ho=>?_⟩;have:=g3 o ho;simp only[HH,AZ,S1,YU]at this;omega;have:=g4 l hl;simp only[uF,AZ,S1,YU]at this;omega;have:=g5 k hk;simp only[MY,AZ,S1]at this;omega;have:=g3 o ho;simp only[HH,AZ,S1,YU]at this;omega
theorem Vx(n:Net)(hz:Oh n):Au Pg 141 [n.v] (λr=>∃L:List CK,r=.sl 3 (L.map CK.v)/\(L=[]↔Df n=true)):=by
 refine nA n hz λh=>?_;have hn:=(Q2 h).1;have:=hn.len;refine⟨λl hl=>?_,by omega,by omega⟩;have:=hn.B3 l hl;omega
theorem IE(n:Net)(hz:Oh n)(h:Df n=true):Sound n:=by
 have hi:MH n=true:=by unfold Df at h;rw[AZ]at h;exact h.1
 refine⟨(Q2 hi).1,(Vx n hz).mono λr ⟨L,h1,h2⟩=>?_⟩;rw[h1,h2.2 h];rfl
def JL(row:List Int)(o i:Nat):List Int:=((A3 i).filter λd=>!decide (d=o)).map λd=>row.getD d 0
theorem QR(row:List Int)(o i:Nat):JL row o (i+1)=JL row o i++(if i=o then []else [row.getD i 0]):=by
 unfold JL;rw[A5,List.filter_append,BR];by_cases h:i=o<;>simp[h]
theorem ZaK(row:List Int)(o:Nat){i m:Nat}(h:i<=m):∃z,JL row o m=JL row o i++z:=by
 induction m with
 |zero=>exact⟨[],by rw[show i=0 by omega];simp⟩
 |succ m ih=>
  by_cases e:i=m+1;exact⟨[],by rw[e];simp⟩;obtain⟨z,hz⟩:=ih (by omega);exact⟨z++(if m=o then []else [row.getD m 0]),by rw[QR,hz,List.append_assoc]⟩
theorem ZaL(row:List Int)(o:Nat){i m:Nat}(h:i<m)(ho:¬i=o):((JL row o m).map λx=>[AV.int .i64 x])[(JL row o i).length]?=some [.int .i64 (row.getD i 0)]:=by
 obtain⟨z,hz⟩:=ZaK row o (show i+1<=m from h);rw[hz,QR,if_neg ho];simp
def oK(fr till:Int)(N:List (List Int)):List AV:=[.int .i64 fr,.int .i64 till,DN N,.raw (.slice none 0 0)]
theorem kI(fr till:Int)(N:List (List Int))(o:Nat)(ho:o<N.length)(hr:(N.getD o []).length<=1000):xT Pg 149 [.at_ (oK fr till N),.at_ [.int .i64 o]] ((JL (N.getD o []) o (N.getD o []).length).map λx=>[AV.int .i64 x]) True:=by
 refine xT.Ak func149 rfl Ab (by kernel_rfl) rfl λy I Ix Ip _ hy=>?_;obtain⟨row,Kp⟩:∃row,row=N.getD o []:=⟨_,rfl⟩;have hg:(N.map ints)[((o:Nat):Int).toNat]?=some (ints row):=by rw[Kp];simp[ho]
 rw[<-Kp]at hr hy ⊢;have xY:∀(k:Nat)(x:List AV),((JL row o row.length).map λx=>[AV.int .i64 x])[k]?=some x->Nd Pg (.func (.yield y) #[] #[]) x (I k) (I (k+1)) Ix Ip:=hy;clear hy;refine kW ?_;refine⟨by omega,_,hg,?_⟩;refine kW ?_;rw[Ax];refine Aa.Ar (λi:Nat=>mk 27 [(0,.raw (.func (.yield y) #[] #[])),(1,.at_ (oK fr till N)),(2,.at_ [.int .i64 o]),(10,ints row),(11,.int .i64 (row.length:Nat)),(12,.int .i64 (i:Nat))]) (λi=>[.inv (I (JL row o i).length)]) (λi=>i<=row.length) (λi=>row.length-i) (λ_ _=>⟨rfl,trivial⟩) ⟨0,?_⟩ (λ_=>rfl) λi hi=>?_;refine kQ ?_;exact BG _;have hs:=QR row o i;refine kR ?_;constructor<;>intro h
 ·have h:i<row.length:=by have:=of_decide_eq_true h;omega
  have MJ:(row.map (AV.int .i64))[((i:Nat):Int).toNat]?=some (.int .i64 (row.getD i 0)):=by simp[h]
  refine kW ?_;refine⟨by omega,_,MJ,?_⟩;refine kW ?_;constructor<;>intro q
  ·(have q:¬i=o:=by simp at q;omega);have hgx:=ZaL row o h q;rw[if_neg q]at hs;refine kW ?_;refine⟨rfl,I ((JL row o i).length+1),Ix,Ip,xY _ _ hgx,λu=>by(conv=>whnf);exact⟨u,rfl,rfl⟩,?_,?_⟩;·refine kW ?_;refine⟨i+1,?_⟩;(conv=>whnf);(repeat(refine A4 ?_ ?_;(focus (first|rfl|(simp;done)|(first|exact ZI _ (by omega)|exact congrArg (λk=>HO.inv (I k)) (by rw[hs];simp);done)));conv=>whnf));exact⟨by omega,by omega⟩
   refine kW ?_;exact .inr rfl
  have q:i=o:=by simp at q;omega
  rw[if_pos q,List.append_nil]at hs;refine kW ?_;refine⟨i+1,?_⟩;conv=>whnf
  repeat(refine A4 ?_ ?_;(focus (first|rfl|(simp;done)|(first|exact ZI _ (by omega)|exact congrArg (λk=>HO.inv (I k)) (by rw[hs]);done)));conv=>whnf)
  exact⟨by omega,by omega⟩
 have h:i=row.length:=by have:=of_decide_eq_false h;omega
 subst h;refine kW ?_;exact .inl (by rw[Ax])
theorem cE(x:Int):Au Pg 153 [.int .i64 x] (λr=>r=.bool (!decide (x=-1))):=by
 exact kBe func153 rfl
def NO(l:List Int)(x:Int):List Int:=if x=-1 then l else if x∈l then l else l++[x]
def Ph(l:List Int):List Int:=l.foldl NO []
theorem sH(l:List Int)(x:Int):Ph (l++[x])=NO (Ph l) x:=by simp[Ph]
theorem iI{l:List Int}(h:l.Nodup)(x:Int):(NO l x).Nodup:=by
 unfold NO;split;exact h;split;exact h;rename_i hx;exact List.nodup_append.2 ⟨h,by simp,λa ha b hb=>by rw[List.mem_singleton.1 hb];rintro rfl;exact hx ha⟩
theorem iJ(l:List Int):(Ph l).Nodup:=by
 have:∀(l m:List Int),m.Nodup->(l.foldl NO m).Nodup:=λl=>by
  induction l with
  |nil=>exact λm h=>h
  |cons x l ih=>exact λm h=>ih _ (iI h x)
 exact this l [] (by simp)
theorem zW(l:List Int)(x:Int):(NO l x).length<=l.length+1:=by
 unfold NO;split;omega;split;omega;simp
theorem aH(l:List Int):(Ph l).length<=l.length:=by
 have:∀(l m:List Int),(l.foldl NO m).length<=m.length+l.length:=λl=>by
  induction l with
  |nil=>exact λm=>by simp
  |cons x l ih=>exact λm=>by have:=ih (NO m x);have:=zW m x;simp;omega
 exact C2 (this l []) (by simp)
abbrev kS(l:List Int):List AV:=l.map (.int .i64)
abbrev vS(l:List Int):List AV:=l.map λ_=>.lit true
theorem Zga(l:List Int)(j:Nat):(vS l).set j (.lit true)=vS l:=by
 unfold vS;refine List.ext_getElem (by simp) λi h1 h2=>?_;rw[List.getElem_set];split<;>simp
theorem W3(x:Int):∀l:List Int,IQ (.int .i64 x) (kS l)=if x∈l then some (l.idxOf x)else none
 |[]=>rfl
 |y::l=>by
  have ih:=W3 x l;unfold kS at ih⊢;simp only[BU,IQ,Kl,ih];by_cases h:x=y;subst h;simp[uO];have h2:(x == y)=false:=by simpa using h
  by_cases h3:x∈l;·(have h4:(y == x)=false:=by simpa using Ne.symm h);simp[h,h2,h3,h4,uO,List.idxOf_cons]
  simp[h,h2,h3,uO]
theorem Zn(fr till:Int)(N:List (List Int))(o:Nat)(ho:o<N.length)(hr:(N.getD o []).length<=1000):
  Au Pg 152 [.fn 149 [.at_ (oK fr till N),.at_ [.int .i64 o]],.fn 153 []] (λr=>r=.mp (kS (Ph (JL (N.getD o []) o (N.getD o []).length))) (vS (Ph (JL (N.getD o []) o (N.getD o []).length)))):=by
 have LQ:=kI fr till N o ho hr;obtain⟨L,hL⟩:∃L,L=JL (N.getD o []) o (N.getD o []).length:=⟨_,rfl⟩;rw[<-hL]at LQ ⊢;refine kB func152 rfl ?_
 refine Aa.Hi (E0:=mk 16 [(3,.ptr 0 0),(5,.ptr 2 0)]) (xs:=L.map λx=>[AV.int .i64 x]) (O0 ?_) rfl rfl LQ rfl (λvs k (_:Unit)=>[.cells [.fn 153 []],.map (kS (Ph (L.take k))) (vS (Ph (L.take k))),.cells [.om 1]]++[.ghost (mk 16 [(3,.ptr 0 0),(5,.ptr 2 0)]) vs []]) (λk _=>k<=L.length) () (BG _)
  (λ_ _ _=>False) (λvs=>rfl)
  (λvs k _ _=>⟨rfl,rfl,by(conv=>whnf);repeat(first|exact trivial|(refine⟨rfl,?_⟩;conv=>whnf))⟩) (λvs k _ x hk hx=>?_) (λh=>(h trivial).elim) (λvs _ h=>?_) (λ_ _ _ h=>h.elim)
 ·exact Ybc
 ·have AA:k<L.length:=by have:=(Cz.1 hx).1;simpa using this
  obtain rfl:x=[.int .i64 L[k]]:=by rw[C5,A0 AA]at hx;exact(DL.inj hx).symm
  have hsn:Ph (L.take (k+1))=NO (Ph (L.take k)) L[k]:=by rw[<-sH,List.take_succ_eq_append_getElem AA]
  obtain⟨S,hS⟩:∃S,S=Ph (L.take k):=⟨_,rfl⟩;refine⟨rfl,?_⟩;rw[<-hS]at hsn ⊢;have Jb:∀a∈kS S,Ij (.int .i64 L[k]) a=true:=λa ha=>by obtain⟨y,_,rfl⟩:=Dj.1 ha;rfl
  have OH:=W3 L[k] S;refine kW ?_;refine kC (cE L[k]) ?_;constructor<;>intro q;·(have q:¬L[k]=-1:=by simpa using q);refine kW ?_;refine⟨Jb,?_⟩;(have e1:Ob (.int .i64 L[k]) (kS S)=kS (NO S L[k]):=by unfold Ob NO;rw[OH,if_neg q];split<;>rename_i h<;>split<;>simp_all);(have e2:Oa (.int .i64 L[k]) (.lit true) (kS S) (vS S)=vS (NO S L[k]):=by unfold Oa NO;rw[OH,if_neg q];by_cases h:L[k]∈S;rw[if_pos h,if_pos h];exact Zga _ _;rw[if_neg h,if_neg h];simp);rw[e1,e2,<-hsn];refine kW ?_;refine⟨(),by omega,?_⟩;(conv=>whnf);repeat first|exact trivial|(refine⟨rfl,?_⟩;conv=>whnf)
  have q:L[k]=-1:=by simpa using q
  have e1:NO S L[k]=S:=by unfold NO;rw[if_pos q]
  rw[e1]at hsn;rw[hsn];refine kW ?_;refine⟨(),by omega,?_⟩;exact Ybc
 rw[Ax,List.take_length];exact Er
open Go.Av Go.RowKit Go.Maps Go.Sort Go.Shelf
theorem Zgh(m:Nat):AnyZI.SortsIn Pg Tryz.MF Fence.wide m:=
 ⟨λD6 off cap ss W hH Jg DT=>callsIn_wide.2 (Tryz.slices_Sort_int D6 off cap ss W hH Jg DT),λp cap W=>callsIn_wide.2 (Tryz.slices_Sort_int_none p cap W)⟩
theorem WB{C:Af}{w:World}:∀(l:List Int)(b o:Nat),(∀x∈l,IU .i64 x)->(∀i (h:i<l.length),Cl C w b (o+i) (.int .i64 l[i]))->Av.Rows C w 1 (l.map (.int .i64)) b o
 |[],_,_,_,_=>by unfold Av.Rows;trivial
 |x::l,b,o,hk,h=>by rw[BU];unfold Av.Rows;refine⟨rfl,⟨_,rfl,h 0 (by simp),?_⟩,WB l b (o+1) (λy hy=>hk y (List.mem_cons_of_mem _ hy)) λi hi=>?_⟩;unfold Aj;exact⟨rfl,hk x (by simp)⟩;have:=h (i+1) (by simpa using hi);rwa [show o+1+i=o+(i+1) by omega]
theorem Xc{C:Af}{w:World}{mu:Mu}:∀{l:List Int}{vs:List Value},Ac C w (kS l) mu vs->vs=l.map (Value.int .i64)/\∀x∈l,IU .i64 x
 |[],vs,h=>by unfold kS at h;rw[List.map_nil]at h;unfold Ac at h;exact⟨h,by simp⟩
 |x::l,vs,h=>by unfold kS at h;rw[BU]at h;unfold Ac at h;obtain⟨v,CJ,rfl,h1,h2⟩:=h;unfold Aj at h1;obtain⟨k1,k2⟩:=Xc h2;exact⟨by rw[h1.1,k1];rfl,λy hy=>by rcases Dx.1 hy with rfl|hy;exact h1.2;exact k2 y hy⟩
abbrev Zjy:Value->Option (DataW Value×List MemPlace):=λ_=>some (.nil,[])
theorem iH{E:List AV}{H:List HO}{K:AV->KK}{X:XX}(l:Nat)(L:List Int)(O2:L.Nodup)(hlen:L.length<=1000)(hl:H[l]?=some (.cells [.mp (kS L) (vS L)]))(hk:∀l':List Int,l'.length=L.length->K (ints l') E H):
  Ah Pg 150 [.fn 200 [.ptr l 0]] E H K X:=by
 refine⟨by kernel_rfl,λG C mu a w vs hP Ai hr=>?_⟩;unfold Ac at hr;obtain⟨v,_,rfl,hr,hn⟩:=hr;unfold Ac at hn;subst hn;unfold Aj at hr;obtain⟨us,rfl,hr⟩:=hr;unfold Ac at hr;obtain⟨p,_,rfl,hr,hn⟩:=hr;unfold Ac at hn;subst hn;unfold Aj at hr;obtain⟨b,hb,rfl⟩:=hr;obtain⟨b',cur,e,h1,h2,h3,h4⟩:=Ai.heap.Dp l _ hl;rw[hb]at h1;simp only[DL.injEq,GO.D6.injEq]at h1;subst h1;have hbw:=(Ai.heap.fresh l _ b hb rfl).2.1;unfold Ac at h3;obtain⟨mv,_,h5,h6,hn⟩:=h3;unfold Ac at hn;subst hn
 have hc:w.cell? ⟨b,0,none⟩=some mv:=by
  have:cur[0]?=some mv:=by rw[<-C3,h5];rfl
  simp[World.cell?,h2,this]
 -- Zmr zJ keys are
 have key:∃S:List Int->Prop,SeqGives Fence.wide 2 Pg 200 #[.pointer (some ⟨b,0,none⟩)] encZ S L.length w/\∀ss,S ss->ss.length=L.length/\∀x∈ss,IU .i64 x:=by
  unfold Aj at h6;rcases h6 with⟨rfl,k1,k2⟩|⟨bm,es,clock,rfl,k1,k2,k3,k4,k5⟩;·(have:L=[]:=by simpa using k1);subst this;exact⟨λss=>ss=[],AnyZI.keys_gives_nil (ρ:=Tryz.Fq) {Tryz.cL with} Fence.wide _ trivial rfl b w hbw hc,λss h=>by subst h;exact⟨rfl,by simp⟩⟩
  obtain⟨q1,q2⟩:=Xc k3;have DT:es.size=L.length:=by have:=congrArg List.length q1;simpa using this
  obtain⟨D0,hD0⟩:∃D0:DataW Value,D0=.map ((es.toList.map (Go.WideElems.rg Pg (Tryz.Fq.t 26) Zjy)).foldr DataW.insert []):=⟨_,rfl⟩;have hu:Pg.underlying (Tryz.Fq.t 26)=some (.int .i64):=underlying3;have hsd:Maps.size D0=L.length:=by rw[hD0,Maps.size_eq,length_sorted,Ax,<-DT];rfl
  have Ce:w.ownsMap Pg (Tryz.Fq.t 26) Zjy bm L.length D0:=by refine⟨es,clock,k2,⟨by rw[DT];simp only[maxLen];omega,⟨k5.1,k5.2,?_⟩,λx hx=>?_⟩,by omega,hD0⟩;rw[show es.toList.map (·.key)=L.map (Value.int .i64)from q1];exact List.pairwise_map.2 (O2.imp λh e=>h (by injection e));(have Xj:x.key∈L.map (Value.int .i64):=by rw[<-q1];exact Dj.2 ⟨x,hx,rfl⟩);obtain⟨n,hn,e⟩:=Dj.1 Xj;have hi:=q2 n hn;refine⟨(.int .i64 n,.nil),?_⟩;unfold Go.WideElems.rd keyOf;rw[hu,<-e];simp only[mapKey,hu];rw[if_pos ⟨trivial,by simp only[Lit.wf,AZ,decide_eq_true_eq];exact hi⟩];rfl
  refine⟨λss=>ss.Perm (intKeys D0),?_,λss h=>?_⟩;rw[<-hsd];exact AnyZI.keys_gives (ρ:=Tryz.Fq) {Tryz.cL with} Fence.wide _ trivial rfl (by omega) b bm L.length D0 w hbw hc Ce;refine⟨?_,λx hx=>?_⟩;rw[h.length_eq,<-hsd,hD0];exact Ax ..;have:=intKeys_wf Ce hu x (h.mem_iff.1 hx);simp only[Lit.wf,AZ,decide_eq_true_eq]at this;exact this
 obtain⟨S,Zm1,hS⟩:=key;have cS:=AnyZI.sorted_in Tryz.kK Fence.wide 5 trivial trivial trivial trivial rfl (by omega) (Zgh _) (enters_of func199 (by kernel_rfl) rfl) 200 #[.pointer (some ⟨b,0,none⟩)] trivial (enters_of func200 (by kernel_rfl) rfl) S L.length (by simp only[maxLen];omega) (by omega) w Zm1;change CallsIn _ _ Pg 150 _ _ _ at cS;refine(callsIn_wide.1 cS).mono λen w' ⟨v,ss,e1,e2,e3,e4,e5⟩=>?_;obtain⟨s1,s2⟩:=hS ss e2;obtain⟨l',CT⟩:∃l',l'=ss.mergeSort (λx y=>decide (x<=y)):=⟨_,rfl⟩;have hp:l'.Perm ss:=by rw[CT];exact List.mergeSort_perm _ _
 rw[<-CT]at e3;refine .inl ⟨ints l',v,E,H,_,mu,e1,hk l' (by rw[hp.length_eq,s1]),Ai.below e5,?_⟩;unfold ints Aj;obtain⟨e6,⟨rfl,e7⟩|⟨g,cap,cur,rfl,e7,e8,e9,e10,e11,e12⟩⟩:=e3;have:l'=[]:=Cb (by rw[hp.length_eq,e7]);subst this;exact .inl ⟨⟨none,rfl⟩,rfl⟩;refine .inr ⟨g,0,cap,by rw[Ax,hp.length_eq],by rw[Ax,hp.length_eq];exact e9,e10,WB l' g 0 (λx hx=>s2 x (hp.mem_iff.1 hx)) λi hi=>?_⟩
 have hg:cur.toList[i]?=some (.int .i64 l'[i]):=by
  have h1:(cur.toList.take (ss.length*1))[i]?=some (.int .i64 l'[i]):=by rw[e12,C5,A0 hi];rfl
  rw[List.getElem?_take]at h1;split at h1;exact h1;cases h1
 rw[Nat.zero_add];refine⟨.inr ⟨e7,(Array.getElem?_eq_some_iff.1 e8).1⟩,?_⟩;rw[C3]at hg;simp[World.cell?,e8,hg]
def Wb(N:List (List Int))(o:Nat):Nat:=(Ph (JL (N.getD o []) o (N.getD o []).length)).length
theorem bU(row:List Int)(o i:Nat):(JL row o i).length<=i:=by
 unfold JL;rw[Ax];exact C2 (List.length_filter_le _ _) (by simp)
theorem kH(fr till:Int)(N:List (List Int))(o:Nat)(ho:o<N.length)(hr:(N.getD o []).length<=1000):
  Au Pg 115 [.agg (oK fr till N),.int .i64 o] (λr=>∃l:List Int,r=ints l/\l.length=Wb N o):=by
 have hc:=Zn fr till N o ho hr;have hle:=C2 (aH (JL (N.getD o []) o (N.getD o []).length)) (bU (N.getD o []) o (N.getD o []).length);have O2:=iJ (JL (N.getD o []) o (N.getD o []).length);unfold Wb;generalize Ph (JL (N.getD o []) o (N.getD o []).length)=L at*;refine Au.Ak func115 rfl Ab (by kernel_rfl) ?_;conv=>whnf
 refine Aa.seq ?_;refine Aa.CF [0,1] ?_;refine Aa.st Ab rfl ?_;refine kW ?_;refine kC (hc) ?_;refine Ah.inline func151 rfl Ab (by kernel_rfl) λus ms=>?_;refine kW ?_;refine⟨⟨rfl,rfl⟩,?_⟩;refine kW ?_;refine iH 3 L O2 (by omega) rfl λl' h'=>?_;refine kW ?_;exact⟨l',rfl,h'⟩
theorem YJ(n:Net)(hL:n.Ag.length<=1000):xT Pg 148 [.at_ n.c] ((A3 n.Ag.length).map λi:Nat=>[AV.int .i64 i,(n.Ag.getD i GY).v]) True:=by
 refine xT.Ak func148 rfl Ab (by kernel_rfl) rfl λy I Ix Ip _ hy=>?_;have xY:∀(k:Nat)(x:List AV),((A3 n.Ag.length).map λi:Nat=>[AV.int .i64 i,(n.Ag.getD i GY).v])[k]?=some x->Nd Pg (.func (.yield y) #[] #[]) x (I k) (I (k+1)) Ix Ip:=hy;clear hy;refine kW ?_;rw[Ax];refine Aa.Ar (λi:Nat=>mk 19 [(0,.raw (.func (.yield y) #[] #[])),(1,.at_ n.c),(6,.sl 7 (n.Ag.map LC.v)),(7,.int .i64 (n.Ag.length:Nat)),(8,.int .i64 (i:Nat))]) (λi=>[.inv (I i)]) (λi=>i<=n.Ag.length) (λi=>n.Ag.length-i) (λ_ _=>⟨rfl,trivial⟩) ⟨0,?_⟩ (λ_=>rfl) λi hi=>?_;refine kQ ?_;exact BG _;refine kR ?_;constructor<;>intro h
 ·have h:i<n.Ag.length:=by have:=of_decide_eq_true h;omega
  have hgx:((A3 n.Ag.length).map λi:Nat=>[AV.int .i64 i,(n.Ag.getD i GY).v])[i]?=some [.int .i64 i,(n.Ag.getD i GY).v]:=by simp[h]
  refine kW ?_;refine⟨by omega,_,Kx LC.v n.Ag GY h,?_⟩;refine kW ?_;refine⟨rfl,I (i+1),Ix,Ip,xY _ _ hgx,λu=>by(conv=>whnf);exact⟨u,rfl,rfl⟩,?_,?_⟩;refine kW ?_;refine⟨i+1,?_⟩;refine qG ?_;exact⟨by omega,by omega⟩;refine kW ?_;exact .inr rfl
 have h:i=n.Ag.length:=by have:=of_decide_eq_false h;omega
 subst h;refine kW ?_;exact .inl (by rw[Ax,De])
def Gk(fr till:Int):Bool:=decide (0<=fr)&&decide (fr<till)&&decide (till<=600)&&decide (till-fr<=60)
theorem nC(fr till:Int)(h:IU .i64 fr)(h2:IU .i64 till):Au Pg 111 [.int .i64 fr,.int .i64 till] (λr=>r=.bool (Gk fr till)):=by
 unfold Gk;refine kB func111 rfl ?_
 repeat' (first|(refine A4 (λ_=>?_) (λ_=>?_)<;>conv=>whnf)|refine Ql ?_|fail)
 rw[HE (n:=till-fr) (by simp_all;omega)];simp_all;all_goals first|(simp_all;done)|(simp_all;omega)
theorem iG(n:Net)(hz:Oh n):Au Pg 112 [n.v] (λr=>r=.bool (Df n)):=by
 refine kB func112 rfl ?_;refine Ah.BZ (Vx n hz) rfl λr hr=>?_;obtain⟨L,rfl,hL⟩:=hr;refine kW ?_;rw[Ax];refine congrArg AV.bool ?_;rw[C1,<-hL,decide_eq_true_eq];simp
abbrev Fm:AV:=.raw (.slice none 0 0)
def gT(n:Net)(fr till:Int)(N D S:AV)(s:Int):List AV:=n.c++[.int .i64 fr,.int .i64 till,N,D,S,.int .i64 s]
theorem mJ(n:Net)(hz:Oh n)(fr till:Int)(i1:IU .i64 fr)(i2:IU .i64 till):Bq Pg 61 [.ptr 3 0] [.dead,.dead,.dead,.cells (gT n fr till Fm Fm Fm 0)]
  (λr H=>r=.int .i64 (if Gk fr till&&Df n then 0 else 1)/\H=[.dead,.dead,.dead,.cells (gT n fr till Fm Fm Fm 0)]) (λ_ _=>False):=by
 refine Bq.Ak func61 rfl Ab (by kernel_rfl) rfl ?_;refine kW ?_;refine Aa.draw [] Ab mO (by kernel_rfl) ?_;conv=>whnf
 refine⟨_,⟨nC fr till i1 i2,rfl⟩,?_⟩;conv=>whnf
 constructor<;>intro q
 ·conv=>whnf
  rw[q];refine⟨_,⟨iG n hz,rfl⟩,?_⟩;conv=>whnf
  constructor<;>intro q2;rw[q2];refine kW ?_;exact⟨rfl,rfl⟩;rw[q2];refine kW ?_;exact⟨rfl,rfl⟩
 rw[q];refine kW ?_;exact⟨rfl,rfl⟩
theorem Iz{fr till:Int}:Gk fr till=true↔0<=fr/\fr<till/\till<=600/\till-fr<=60:=by simp[Gk,and_assoc]
theorem iX(n:Net)(hs:Sound n)(fr till:Int)(hd:Gk fr till=true):Bq Pg 62 [.ptr 3 0] [.dead,.dead,.dead,.cells (gT n fr till Fm Fm Fm 0)]
  (λr H=>r=.int .i64 0/\H=[.dead,.dead,.dead,.cells (gT n fr till (DN (Ud n (1440*fr) (1440*till))) Fm Fm 0)]) (λ_ _=>False):=by
 have hd:=Iz.1 hd;have hN:=xR n hs (1440*fr) (1440*till) (by omega) (by omega) (by omega) (by omega);have w1:Wr .i64 (1440*fr)=1440*fr:=HE (by omega);have w2:Wr .i64 (1440*till)=1440*till:=HE (by omega);generalize Ud n (1440*fr) (1440*till)=N at*;rw[<-w1,<-w2]at hN;refine Bq.Ak func62 rfl Ab (by kernel_rfl) rfl ?_;refine kW ?_;refine Aa.draw [21] Ab mO (by kernel_rfl) ?_;conv=>whnf
 refine⟨_,⟨hN,rfl⟩,?_⟩;refine kW ?_;exact⟨rfl,rfl⟩
def Js(fr till:Int)(N:List (List Int))(D:List (List (List Int))):List AV:=[.int .i64 fr,.int .i64 till,DN N,Lh D]
theorem Yu(n:Net)(hs:Sound n)(fr till:Int)(hd:Gk fr till=true)(N:List (List Int))(hN:Et n N):Bq Pg 64 [.ptr 3 0] [.dead,.dead,.dead,.cells (gT n fr till (DN N) Fm Fm 0)]
  (λr H=>r=.int .i64 0/\H=[.dead,.dead,.dead,.cells (gT n fr till (DN N) (Lh (FV n N fr till)) Fm 0)]) (λ_ _=>False):=by
 have hd:=Iz.1 hd;have hT:=nQ n hs.ok N hN fr till (by omega) (by omega) (by omega) hs.chk (by omega);generalize FV n N fr till=D at*;refine Bq.Ak func64 rfl Ab (by kernel_rfl) rfl ?_;refine kW ?_;refine Aa.draw [24] Ab mO (by kernel_rfl) ?_;conv=>whnf
 refine⟨_,⟨hT,rfl⟩,?_⟩;refine kW ?_;exact⟨rfl,rfl⟩
theorem VX(n:Net):Au Pg 114 [n.v] (λr=>r=.fn 148 [.at_ n.c]):=by
 refine kB func114 rfl ?_;rfl
theorem Zon{P:Program}{f:FuncId}{args:List AV}{x:AV}(h:Au P f args (λr=>∃M,r=.tuple [M,x])):Au P f args (λr=>r=.tuple [.any,x]):=
 ⟨h.D7,λC w vs h1 h2=>(h.out C w vs h1 h2).mono λe w' ⟨r,v,k1,⟨M,k2⟩,k3,k4⟩=>⟨.tuple [.any,x],v,k1,rfl,k3,by
  subst k2
  unfold Aj Ac at k4⊢
  obtain⟨us,rfl,v1,CJ,rfl,_,k5⟩:=k4
  exact⟨_,rfl,v1,CJ,rfl,by unfold Aj;trivial,k5⟩⟩⟩
def HF(n:Net)(N:List (List Int))(k:Nat):Bool:=(A3 k).all λi=>decide (Pm (n.Cd i).Bg (n.Cd i).As.toNat (1+Wb N i)=0)
abbrev soE:List AV:=mk 34 [(1,.ptr 4 0),(2,.ptr 5 0)]
abbrev soH(n:Net)(fr till:Int)(N:List (List Int))(e:Int):List HO:=[.dead,.dead,.dead,.cells (gT n fr till (DN N) Fm Fm 0),.cells [.ptr 3 0],.cells [.int .i64 e]]
theorem sF(n:Net)(hn:Dw n)(hp:∀o∈n.Ag,2<=o.Bg/\o.Bg<=64)(fr till:Int)(N:List (List Int))(hN:Et n N):Bq Pg 63 [.ptr 3 0] [.dead,.dead,.dead,.cells (gT n fr till (DN N) Fm Fm 0)]
  (λr H=>r=.int .i64 (if HF n N n.Ag.length then 0 else 140)/\H=[.dead,.dead,.dead,.cells (gT n fr till (DN N) Fm Fm 0)]) (λ_ _=>False):=by
 have hL:=hn.len;have LQ:=YJ n (by omega);refine Bq.Ak func63 rfl Ab (by kernel_rfl) rfl ?_;refine kW ?_;refine kC (VX n) ?_
 refine Aa.Hi (E0:=soE) (xs:=(A3 n.Ag.length).map λi:Nat=>[AV.int .i64 i,(n.Ag.getD i GY).v]) (O0 ?_) rfl rfl LQ rfl (λvs k (_:Unit)=>soH n fr till N 0++[.ghost soE vs []]) (λk _=>k<=n.Ag.length/\HF n N k=true) () ⟨BG _,rfl⟩
  (λvs e H'=>e=.ret/\HF n N n.Ag.length=false/\H'.take 6=soH n fr till N 140) (λvs=>rfl)
  (λvs k _ _=>⟨rfl,rfl,by(conv=>whnf);repeat(first|exact trivial|(refine⟨rfl,?_⟩;conv=>whnf))⟩) (λvs k _ x hk hx=>?_) (λh=>(h trivial).elim) (λvs _ h=>?_) (λvs e H' hx=>?_)
 ·exact Ybc
 ·obtain⟨hk,hb⟩:=hk;have AA:k<n.Ag.length:=by have:=(Cz.1 hx).1;simpa using this
  obtain rfl:x=[.int .i64 k,(n.Cd k).v]:=by simp[AA]at hx;rw[<-hx];simp[Net.Cd,AA]
  have yE:=hn.Cd _ (Bx (l:=n.Ag) (i:=(k:Int)) GY (by omega) (by omega));have YZ:=hp _ (Bx (l:=n.Ag) (i:=(k:Int)) GY (by omega) (by omega));replace yE:1<=(n.Cd k).As/\(n.Cd k).As<=4:=⟨yE.2.2.1,yE.2.2.2.1⟩;replace YZ:2<=(n.Cd k).Bg/\(n.Cd k).Bg<=64:=YZ;have hNl:k<N.length:=by rw[hN.len];exact AA
  have Kp:=(hN.row k hNl).1;have LS:Wb N k<=12:=by unfold Wb;have:=C2 (aH (JL (N.getD k []) k (N.getD k []).length)) (bU (N.getD k []) k (N.getD k []).length);omega
  have PU:HF n N (k+1)=(HF n N k&&decide (Pm (n.Cd k).Bg (n.Cd k).As.toNat (1+Wb N k)=0)):=by unfold HF;rw[A5,BQ];simp
  have hpq:((n.Cd k).As.toNat:Int)=(n.Cd k).As:=by omega
  have ZjW:=Zon (aJ (n.Cd k).Bg (n.Cd k).As.toNat (1+Wb N k) YZ.1 YZ.2 (by omega) (by omega) (by omega));rw[hpq]at ZjW;refine⟨rfl,?_⟩;refine kW ?_;refine Ah.BZ (kH fr till N k hNl (by omega)) rfl λr hr=>?_;obtain⟨l,rfl,hl⟩:=hr;refine kW ?_;rw[Ax,hl,show Wr .i64 (1+(Wb N k:Int))=((1+Wb N k:Nat):Int) by rw[HE (by omega)];omega];refine kC (ZjW) ?_;constructor<;>intro q;·(have hf:HF n N n.Ag.length=false:=by refine C4.2 λhh=>?_;have:=CL.1 hh k (Cc.2 AA);simp only[decide_eq_true_eq]at this;rw[this]at q;simp at q);refine kW ?_;exact⟨⟨_,rfl⟩,⟨rfl,hf,rfl⟩,rfl,rfl⟩
  have q:Pm (n.Cd k).Bg (n.Cd k).As.toNat (1+Wb N k)=0:=by simpa using q
  refine kW ?_;refine⟨(),⟨AA,by rw[PU,hb,q];rfl⟩,?_⟩;exact Ybc
 rw[Ax,De]at h;rw[h.2,if_pos rfl];refine kW ?_;exact⟨rfl,rfl⟩;obtain⟨rfl,h2,h3⟩:=hx;obtain⟨t,rfl⟩:∃t,H'=soH n fr till N 140++t:=⟨H'.drop 6,by rw[<-h3,List.take_append_drop]⟩;rw[h2,if_neg (by simp)];refine kW ?_;exact⟨rfl,rfl⟩
theorem Zp(n:Net)(fr till:Int)(N:List (List Int))(D:List (List (List Int)))(L:List Int)(s e:Int)
  (hW:Au Pg 118 [n.v,.agg (Js fr till N D)] (λr=>r=.tuple [.agg [ints L,.int .i64 s],.int .i64 e])):
  Bq Pg 65 [.ptr 3 0] [.dead,.dead,.dead,.cells (gT n fr till (DN N) (Lh D) Fm 0)]
  (λr H=>r=.int .i64 e/\H=[.dead,.dead,.dead,.cells (gT n fr till (DN N) (Lh D) (ints L) s)]) (λ_ _=>False):=by
 refine Bq.Ak func65 rfl Ab (by kernel_rfl) rfl ?_;refine kW ?_;refine Aa.Zk6 [15] Ab mO (by kernel_rfl) ?_;conv=>whnf
 refine⟨_,⟨hW,rfl⟩,?_⟩;refine kW ?_;exact⟨rfl,rfl⟩
def wkK(n:Net)(fr till:Int)(N:List (List Int))(D:List (List (List Int)))(L:List Int)(s:Int):Nat->List AV
 |0|1=>gT n fr till Fm Fm Fm 0
 |2|3=>gT n fr till (DN N) Fm Fm 0
 |4=>gT n fr till (DN N) (Lh D) Fm 0
 |_=>gT n fr till (DN N) (Lh D) (ints L) s
abbrev zPl:List AV:=[.int .i64 0,.int .i64 0,Fm,Fm]
abbrev zCe:List AV:=[Fm,.int .i64 0]
def ZeN(e:Int):AV:=.tuple [.agg [.int .i64 0,.int .i64 0,.sl 1 [],.sl 1 []],.agg [.sl 1 [],.int .i64 0],.int .i64 e]
def Vz(n:Net)(fr till:Int):List (List Int):=Ud n (1440*fr) (1440*till)
def eU(n:Net)(fr till:Int):List (List (List Int)):=FV n (Vz n fr till) fr till
def To:List AV:=[.agg [.fn 61 []],.agg [.fn 62 []],.agg [.fn 63 []],.agg [.fn 64 []],.agg [.fn 65 []]]
def fI(n:Net)(fr till:Int)(L:List Int)(s e:Int):AV:=
 if (Gk fr till&&Df n)=false then ZeN 1 else if HF n (Vz n fr till) n.Ag.length=false then ZeN 140 else if e=0 then .tuple [.agg (Js fr till (Vz n fr till) (eU n fr till)),.agg [ints L,.int .i64 s],.int .i64 0]else ZeN e
theorem ZC(n:Net)(hz:Oh n)(fr till:Int)(i1:IU .i64 fr)(i2:IU .i64 till)(L:List Int)(s e:Int)
  (hW:Gk fr till=true->Df n=true->Au Pg 118 [n.v,.agg (Js fr till (Vz n fr till) (eU n fr till))] (λr=>r=.tuple [.agg [ints L,.int .i64 s],.int .i64 e])):
  Au Pg 14 [n.v,.int .i64 fr,.int .i64 till] (λr=>r=fI n fr till L s e):=by
 have hck:=mJ n hz fr till i1 i2;have G0:Et n (Vz n fr till):=SS n (1440*fr) (1440*till);have hrt:=λ(hs:Sound n) hd=>iX n hs fr till hd;have hso:=λ(hn:Dw n) hp=>sF n hn hp fr till _ G0;have hpr:=λ(hs:Sound n) hd=>Yu n hs fr till hd _ G0;have vX:=λhd hs=>Zp n fr till _ _ L s e (hW hd hs);rw[show Ud n (1440*fr) (1440*till)=Vz n fr till from rfl]at hrt;rw[show FV n (Vz n fr till) fr till=eU n fr till from rfl]at hpr;clear hW G0;unfold fI;generalize eU n fr till=D at*;generalize Vz n fr till=N at*;refine Au.Ak func14 rfl Ab (by kernel_rfl) ?_;conv=>whnf
 refine Aa.seq ?_;refine Aa.CF [0] ?_;refine Aa.st Ab rfl ?_;refine kW ?_
 refine Aa.Ar (λk:Nat=>mk 50 [(3,.at_ n.c),(6,.ptr 1 0),(7,.ptr 2 0),(8,.int .i64 0),(9,.ptr 3 0),(26,.own 4 1 0 5),(27,.int .i64 5),(28,.int .i64 (k:Nat))]) (λk=>[.dead,.cells zPl,.cells zCe,.cells (wkK n fr till N D L s k),.arr 129 1 To])
  (λk=>k<=5/\(1<=k->(Gk fr till&&Df n)=true)/\(3<=k->HF n N n.Ag.length=true)/\(5<=k->e=0)) (λk=>5-k) (λk hk=>?_) ⟨0,?_⟩ (λ_=>rfl) λk hk=>?_
 ·have Ai:∀e∈To,closed e=true:=by intro e he;simp only[To,Dx,List.not_mem_nil,or_false]at he;rcases he with rfl|rfl|rfl|rfl|rfl<;>rfl
  have hwk:AR [HO.dead,.cells zPl,.cells zCe,.cells (wkK n fr till N D L s k),.arr 129 1 To] (wkK n fr till N D L s k)=true:=by rcases k with _|_|_|_|_|k<;>rfl
  exact⟨rfl,rfl,rfl,hwk,Ai,trivial⟩
 refine kQ ?_;exact λh=>absurd h (by omega);obtain⟨h0,h1,h2,h3⟩:=hk;refine kR ?_;constructor<;>intro h
 ·have h:k<5:=by have:=of_decide_eq_true h;omega
  rcases (show k=0\/k=1\/k=2\/k=3\/k=4 by omega)with rfl|rfl|rfl|rfl|rfl
  ·refine kW ?_;refine⟨by omega,_,rfl,?_⟩;refine kW ?_;refine Ah.Fv hck rfl ?_ (λr H1 h=>?_) (λ_ _ h=>h.elim);·(conv=>whnf);exact⟨rfl,rfl,trivial⟩
   obtain⟨rfl,rfl⟩:=h;rw[Bk];refine kW ?_;constructor<;>intro q;·(have q:(Gk fr till&&Df n)=false:=by by_cases hh:(Gk fr till&&Df n)=true;rw[if_pos hh]at q;simp at q;simpa using hh);rw[if_pos q,if_neg (by rw[q];simp)];refine kW ?_;refine⟨1,?_⟩;(conv=>whnf);refine⟨1,?_⟩;(conv=>whnf);refine⟨1,?_⟩;(conv=>whnf);rfl
   (have q:(Gk fr till&&Df n)=true:=by by_cases hh:(Gk fr till&&Df n)=true;exact hh;rw[if_neg hh]at q;simp at q);exact Ybd
  ·have hb:=A1.1 (h1 (by omega));have hs:=IE n hz hb.2;(have hic:MH n=true:=by have:=hb.2;unfold Df at this;exact(A1.1 this).1);refine kW ?_;refine⟨by omega,_,rfl,?_⟩;refine kW ?_;refine Ah.Fv (hrt hs hb.1) rfl ?_ (λr H1 h=>?_) (λ_ _ h=>h.elim);·(conv=>whnf);exact⟨rfl,rfl,trivial⟩
   obtain⟨rfl,rfl⟩:=h;rw[Bk];refine kW ?_;refine⟨λq=>absurd q (by simp),λ_=>?_⟩;refine kW ?_;refine⟨2,?_⟩;refine qG ?_;exact⟨⟨by omega,λ_=>h1 (by omega),λh=>absurd h (by omega),λh=>absurd h (by omega)⟩,by omega⟩
  ·have hb:=A1.1 (h1 (by omega));have hs:=IE n hz hb.2;(have hic:MH n=true:=by have:=hb.2;unfold Df at this;exact(A1.1 this).1);refine kW ?_;refine⟨by omega,_,rfl,?_⟩;refine kW ?_;refine Ah.Fv (hso hs.ok (Q2 hic).2) rfl ?_ (λr H1 h=>?_) (λ_ _ h=>h.elim);·(conv=>whnf);exact⟨rfl,rfl,trivial⟩
   obtain⟨rfl,rfl⟩:=h;rw[Bk];refine kW ?_;constructor<;>intro q;·(have q:HF n N n.Ag.length=false:=by by_cases hh:HF n N n.Ag.length=true;rw[if_pos hh]at q;simp at q;simpa using hh);rw[if_neg (c:=(Gk fr till&&Df n)=false) (by rw[h1 (by omega)];simp),if_pos (c:=HF n N n.Ag.length=false) q,if_neg (c:=HF n N n.Ag.length=true) (by rw[q];simp)];refine kW ?_;refine⟨1,?_⟩;(conv=>whnf);refine⟨1,?_⟩;(conv=>whnf);refine⟨1,?_⟩;(conv=>whnf);rfl
   (have q:HF n N n.Ag.length=true:=by by_cases hh:HF n N n.Ag.length=true;exact hh;rw[if_neg hh]at q;simp at q);refine kW ?_;refine⟨3,?_⟩;refine qG ?_;exact⟨⟨by omega,λ_=>h1 (by omega),λ_=>q,λh=>absurd h (by omega)⟩,by omega⟩
  ·have hb:=A1.1 (h1 (by omega));have hs:=IE n hz hb.2;(have hic:MH n=true:=by have:=hb.2;unfold Df at this;exact(A1.1 this).1);refine kW ?_;refine⟨by omega,_,rfl,?_⟩;refine kW ?_;refine Ah.Fv (hpr hs hb.1) rfl ?_ (λr H1 h=>?_) (λ_ _ h=>h.elim);·(conv=>whnf);exact⟨rfl,rfl,trivial⟩
   obtain⟨rfl,rfl⟩:=h;rw[Bk];refine kW ?_;refine⟨λq=>absurd q (by simp),λ_=>?_⟩;refine kW ?_;refine⟨4,?_⟩;refine qG ?_;exact⟨⟨by omega,λ_=>h1 (by omega),λ_=>h2 (by omega),λh=>absurd h (by omega)⟩,by omega⟩
  have hb:=A1.1 (h1 (by omega));have hs:=IE n hz hb.2;have hic:MH n=true:=by have:=hb.2;unfold Df at this;exact(A1.1 this).1
  refine kW ?_;refine⟨by omega,_,rfl,?_⟩;refine kW ?_;refine Ah.Fv (vX hb.1 hb.2) rfl ?_ (λr H1 h=>?_) (λ_ _ h=>h.elim);·(conv=>whnf);exact⟨rfl,rfl,trivial⟩
  obtain⟨rfl,rfl⟩:=h;rw[Bk];refine kW ?_;constructor<;>intro q;·(have q:¬e=0:=by simpa using q);rw[if_neg (c:=(Gk fr till&&Df n)=false) (by rw[h1 (by omega)];simp),if_neg (c:=HF n N n.Ag.length=false) (by rw[h2 (by omega)];simp),if_neg (c:=e=0) q];refine kW ?_;refine⟨1,?_⟩;(conv=>whnf);refine⟨1,?_⟩;(conv=>whnf);refine⟨1,?_⟩;(conv=>whnf);rfl
  have q:e=0:=by simpa using q
  refine kW ?_;refine⟨5,?_⟩;refine qG ?_;exact⟨⟨by omega,λ_=>h1 (by omega),λ_=>h2 (by omega),λ_=>q⟩,by omega⟩
 have h:k=5:=by have:=of_decide_eq_false h;omega
 subst h;obtain rfl:=h3 (by omega);rw[if_neg (by rw[h1 (by omega)];simp),if_neg (by rw[h2 (by omega)];simp),if_pos rfl];refine kW ?_;clear hck hrt hso hpr vX h0 h1 h2 h3;refine Aa.Zhz [([false,false,false,false,false,false,false,false,false,false,false],[0,4]),([true,false,false,false,false,false,false,false,false,false,false],[1,4]),([false,false,false,false,true,false,false,false,false,false,false],[0,5]),([true,true,false,false,false,false,false,false,false,false,false],[2,4]),([true,false,false,false,true,false,false,false,false,false,false],[1,5]),([false,false,false,false,true,true,false,false,false,false,false],[0,6]),([true,true,true,false,false,false,false,false,false,false,false],[3,4]),([true,true,false,false,true,false,false,false,false,false,false],[2,5]),([true,false,false,false,true,true,false,false,false,false,false],[1,6]),([false,false,false,false,true,true,true,false,false,false,false],[0,7]),([true,true,true,true,false,false,false,false,false,false,false],[4,8]),([true,true,true,false,true,false,false,false,false,false,false],[3,5]),([true,true,false,false,true,true,false,false,false,false,false],[2,6]),([true,false,false,false,true,true,true,false,false,false,false],[1,7]),([false,false,false,false,true,true,true,true,false,false,false],[0]),([true,true,true,true,true,false,false,false,false,false,false],[5,8]),([true,true,true,true,false,false,false,false,true,false,false],[4]),([true,true,true,false,true,true,false,false,false,false,false],[3,6]),([true,true,false,false,true,true,true,false,false,false,false],[2,7]),([true,false,false,false,true,true,true,true,false,false,false],[1]),([true,true,true,true,true,true,false,false,false,false,false],[6,8]),([true,true,true,true,true,false,false,false,true,false,false],[5]),([true,true,true,false,true,true,true,false,false,false,false],[3,7]),([true,true,false,false,true,true,true,true,false,false,false],[2]),([true,true,true,true,true,true,true,false,false,false,false],[7,8]),([true,true,true,true,true,true,false,false,true,false,false],[6]),([true,true,true,false,true,true,true,true,false,false,false],[3]),([true,true,true,true,true,true,true,true,false,false,false],[8]),([true,true,true,true,true,true,true,false,true,false,false],[7]),([true,true,true,true,true,true,true,true,true,false,false],[9]),([true,true,true,true,true,true,true,true,true,true,false],[10]),([true,true,true,true,true,true,true,true,true,true,true],[])] [(0,42,.ptr 3 0),(1,43,.ptr 3 0),(2,44,.ptr 3 6),(3,45,.agg (Js fr till N D)),(4,46,.ptr 3 0),(5,47,.ptr 3 0),(6,48,.ptr 3 10),(7,49,.agg [ints L,.int .i64 s]),(10,8,.int .i64 0)] (λb=>[.dead,.cells (match ZeE b 8 with|true=>Js fr till N D|false=>zPl),.cells (match ZeE b 9 with|true=>[ints L,.int .i64 s]|false=>zCe),.cells (wkK n fr till N D L s 5),.arr 129 1 To]) Ab (by kernel_rfl) (by kernel_rfl) rfl rfl ?_;conv=>whnf
 repeat' (first|exact True.intro|(refine GN.mk ?_;conv=>whnf)|exact⟨rfl,rfl⟩|(refine A4 ?_ ?_<;>conv=>whnf))
 refine kW ?_;rfl
end Go.Proofs.YtmmhehdlnjojjaaGreatDoor