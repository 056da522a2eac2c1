/- Resolve: the readings. -/
import Derived.Test.YtdadkhcdoaeabaaGreatDoorQz
import Derived.Test.YtdadkhcdoaeabaaGreatDoorQg
set_option linter.unusedVariables false
set_option maxRecDepth 100000
set_option linter.unusedSimpArgs false
open List renaming length_map → Aq, mem_singleton → AO, getElem?_eq_getElem → AZ, length_append → Ba, take_succ_eq_append_getElem → Bc, mem_append → Bq, getElem_mem → Bv, getD_eq_getElem?_getD → B7, take_length → Cb, map_singleton → Cm, getElem?_eq_some_iff → Cu, mem_of_getElem? → CA, getElem?_map → CL, map_append → CW, length_singleton → CX, length_filterMap_le → C0, eq_nil_iff_forall_not_mem → C1, length_cons → C2, mem_append_left → C3, flatMap_append → C4, pairwise_iff_getElem → Ds, mem_range → Dt, findIdx?_eq_none_iff → DC, nodup_append → DG, length_eq_zero_iff → Ec, any_eq_true → Ed, flatMap_singleton → Ef, append_nil → Eh, mem_map → Ei, take_zero → Ep, nodup_nil → EM, length_zipIdx → EN, append_assoc → EX, flatMap_cons → EY, range → E1, mem_flatMap → E2, any_append → E4, nodup_cons → E9, mem_cons → Fv
open And renaming intro → AR
open Go.IntKind renaming signed → Bh, bits → BC, min → BD, max → BV
open Nat renaming zero_le → CM
open Option renaming some → D0
namespace Go.Proofs.YtdadkhcdoaeabaaGreatDoor
open Go.Av Go.Shelf Go.RowKit
open Rr.Pl (Pt Ad St Ch Bs My Mw E6 Lq)
open Rr (JH AY)
open Rr.Pl (DD Bm)
def Zc(F:List Ff.Fm):AV:=.sl 2 (F.map Ff.Fm.v)
abbrev Cc:AV:=.raw (.slice none 0 0)
structure Qn where
 F:List Ff.Fm
 r:List Ch
 l:List Od
 day:Int
 ls:List Bs
 Ao:Int
def Qn.c(q:Qn)(ps ch:AV)(e:Int):List AV:=[Zc q.F,E6 q.r,H7 q.l,.int .i64 q.day,Ff.A3 q.ls,.int .i64 q.Ao,ps,ch,.int .i64 e]
structure Qn.ok(q:Qn):Prop where
 f:∀f∈q.F,Ff.Te f
 n:q.F.length≤1000
 l:q.l.length≤100000
 s:∀f∈q.F,q.ls.length≤1000
 s2:∀f∈q.F,∀l∈q.ls,l.length≤1000
def ZdV(q:Qn)(ps ch:AV)(e:Int):List AV:=[.at_ [.at_ (q.c ps ch e)]]
theorem HT(q:Qn)(ps ch:AV)(e:Int):Aw Tryz.prog 104 [.at_ (q.c ps ch e)] (λr=>r=.fn 134 (ZdV q ps ch e)):=by
 refine Aw.Ai Tryz.func104 rfl Ae (by kernel_rfl) ?_
 conv=>whnf
 repeat(refine sT rfl ?_;conv=>whnf)
 rfl
theorem I3(F:List Ff.Fm)(ls:List Bs)(i:Nat)(h:i<F.length):readAll (F.take (i+1)) ls=readAll (F.take i) ls++(if (Ff.Ca F[i] ls).2=0 then (Ff.Ca F[i] ls).1.map adR else []):=by
 unfold readAll;rw[Bc h,C4,Ef]
theorem Xs(F:List Ff.Fm)(ls:List Bs)(i:Nat)(h:i<F.length)(h0:(Ff.Ca F[i] ls).2=0)(j:Nat)(hj:j<(Ff.Ca F[i] ls).1.length):
  ((readAll F ls).map λa=>[a.v])[(readAll (F.take i) ls).length+j]?=some [(Ff.Ca F[i] ls).1[j].v]:=by
 have e:readAll F ls=readAll (F.take (i+1)) ls++readAll (F.drop (i+1)) ls:=by unfold readAll;rw[←C4,List.take_append_drop]
 rw[CL,e,I3 F ls i h,if_pos h0,EX,List.getElem?_append_right (by omega),List.getElem?_append_left (by rw[Aq];omega),show(readAll (F.take i) ls).length+j-(readAll (F.take i) ls).length=j by omega,CL,AZ hj]
 rfl
theorem OA(f:Ff.Fm)(ls:List Bs):(Ff.Ca f ls).1.length≤16:=by
 unfold Ff.Ca;split
 ·rename_i h;split
  ·split
   ·obtain⟨h1,h2,h3⟩:=Ff.Zt h;exact Ff.UD h1 h2 _ _
   ·exact CM _
  ·exact CM _
 ·exact CM _
theorem I2(q:Qn)(hq:q.ok)(e:Int):yW Tryz.prog 134 (ZdV q Cc Cc e) ((readAll q.F q.ls).map λa=>[a.v]):=by
 refine yW.Ai Tryz.func134 rfl Ae (by kernel_rfl) rfl λy I Ix hy=>?_
 have vA:∀(k:Nat)(x:List AV),((readAll q.F q.ls).map λa=>[a.v])[k]?=some x→KJ Tryz.prog (.func (.yield y) #[] #[]) x (I k) (I (k+1)) Ix:=hy
 clear hy;conv=>whnf
 repeat(refine sT rfl ?_;conv=>whnf)
 refine Ac.AJ (λi:Nat=>mk 41 [(0,.raw (.func (.yield y) #[] #[])),(1,.at_ [.at_ (q.c Cc Cc e)]),(12,.sl 2 (q.F.map Ff.Fm.v)),(13,.int .i64 q.F.length),(14,.int .i64 i)]) (λi=>[.inv (I (readAll (q.F.take i) q.ls).length)]) (λi=>i≤q.F.length) (λi=>q.F.length-i) (λ_ _=>⟨rfl,trivial⟩) ⟨0,?_⟩ (λ_=>rfl) λi hi=>?_
 ·conv=>whnf
  repeat(refine AR ?_ ?_;(focus (first|rfl|(simp;done)));conv=>whnf)
  first|exact CM _|exact⟨rfl,CM _⟩
 ·repeat(refine sT rfl ?_;conv=>whnf)
  refine⟨λh=>?_,λh=>?_⟩
  ·have h:i<q.F.length:=by have:=of_decide_eq_true h;omega
   conv=>whnf
   repeat(refine sT rfl ?_;conv=>whnf)
   refine⟨by omega,q.F[i].v,by simp[h],?_⟩
   conv=>whnf
   repeat(refine sT rfl ?_;conv=>whnf)
   refine Ac.draw [] Ae mO (by kernel_rfl) ?_
   conv=>whnf
   refine⟨_,⟨Ff.RG q.F[i] q.ls (hq.f _ (Bv _)) (hq.s _ (Bv h)) (hq.s2 _ (Bv h)),rfl⟩,?_⟩;conv=>whnf
   repeat(refine sT rfl ?_;conv=>whnf)
   have Zdt:=OA q.F[i] q.ls;have Qy:=I3 q.F q.ls i h;have D6:=Xs q.F q.ls i h;refine⟨λh0=>?_,λh0=>?_⟩
   ·rw[if_neg (by simpa using h0),Eh]at Qy
    conv=>whnf
    repeat(refine sT rfl ?_;conv=>whnf)
    refine⟨i+1,?_⟩;conv=>whnf
    repeat(refine AR ?_ ?_;(focus (first|rfl|(simp;done)|(rw[Cy _ _ (by have:=hq.n;unfold DF BD BV BC Bh;simp;omega)];rfl;done)));conv=>whnf)
    rw[Qy];first|exact⟨rfl,⟨by omega,by omega⟩⟩|exact⟨by omega,by omega⟩
   ·rw[if_pos (by simpa using h0)]at Qy
    replace D6:=D6 (by simpa using h0)
    generalize (Ff.Ca q.F[i] q.ls).1=A at*;conv=>whnf
    repeat(refine sT rfl ?_;conv=>whnf)
    refine Ac.AJ (λj:Nat=>mk 41 [(0,.raw (.func (.yield y) #[] #[])),(1,.at_ [.at_ (q.c Cc Cc e)]),(12,.sl 2 (q.F.map Ff.Fm.v)),(13,.int .i64 q.F.length),(14,.int .i64 i),(29,.sl 5 (A.map Ff.Ad.v)),(30,.int .i64 A.length),(31,.int .i64 j)]) (λj=>[.inv (I ((readAll (q.F.take i) q.ls).length+j)),.cells [.str q.F[i].name,.sl 1 (q.F[i].lines.map Ff.D2)]]++List.replicate 11 .dead) (λj=>j≤A.length) (λj=>A.length-j) (λ_ _=>?_) ⟨0,?_⟩ (λ_=>rfl) λj hj=>?_
    ·exact⟨rfl,by(conv=>whnf);first|trivial|exact⟨rfl,trivial⟩⟩
    ·conv=>whnf
     repeat(refine AR ?_ ?_;(focus (first|rfl|(simp;done)));conv=>whnf)
     first|exact⟨rfl,CM _⟩|exact CM _
    ·repeat(refine sT rfl ?_;conv=>whnf)
     refine⟨λh=>?_,λh=>?_⟩
     ·have h:j<A.length:=by have:=of_decide_eq_true h;omega
      conv=>whnf
      repeat(refine sT rfl ?_;conv=>whnf)
      refine⟨by omega,A[j].v,by simp[h],?_⟩
      conv=>whnf
      repeat(refine sT rfl ?_;conv=>whnf)
      refine⟨rfl,I ((readAll (q.F.take i) q.ls).length+j+1),Ix,vA _ _ (D6 j h),?_,?_⟩
      ·conv=>whnf
       repeat(refine sT rfl ?_;conv=>whnf)
       refine⟨j+1,?_⟩
       conv=>whnf
       repeat(refine AR ?_ ?_;(focus (first|rfl|(simp;done)|(rw[Cy _ _ (by unfold DF BD BV BC Bh;simp;omega)];rfl;done)));conv=>whnf)
       first|exact⟨rfl,⟨by omega,by omega⟩⟩|exact⟨by omega,by omega⟩
      ·conv=>whnf
       repeat(refine sT rfl ?_;conv=>whnf)
       exact .inr rfl
     ·have h:j=A.length:=by have:=of_decide_eq_false h;omega
      conv=>whnf
      repeat(refine sT rfl ?_;conv=>whnf)
      refine⟨i+1,?_⟩;conv=>whnf
      repeat(refine AR ?_ ?_;(focus (first|rfl|(simp;done)|(rw[Cy _ _ (by have:=hq.n;unfold DF BD BV BC Bh;simp;omega)];rfl;done)));conv=>whnf)
      rw[Qy,Ba,Aq,h];first|exact⟨rfl,⟨by omega,by omega⟩⟩|exact⟨by omega,by omega⟩
  ·have h:i=q.F.length:=by have:=of_decide_eq_false h;omega
   conv=>whnf
   repeat(refine sT rfl ?_;conv=>whnf)
   exact .inl (by rw[h,Aq,Cb])
theorem YT{P:Program}{c:Code}{E:List AV}{H:List HO}{K:KK}{X:XX}{q:Nat}{e:TypeId}{sz:Nat}{es:List AV}{x:AV}(h:H[q]?=some (.arr e sz es))(hx:x∈es)(hn:x.cells.length≠sz):Ac P c E H K X:=
 ⟨λn G a w hP ⟨C,mu,Ah⟩=>absurd ((Ah.heap.BJ q e sz es h).1 x hx) hn⟩
def ZgA:HO:=.arr 0 2 [.int .i64 0]
theorem WO(q:Qn)(hq:q.ok):Aw Tryz.prog 66 [.at_ (q.c Cc Cc 0)] (λr=>r=.bool (decide (readAll q.F q.ls=[]))):=by
 refine Aw.Ai Tryz.func66 rfl Ae (by kernel_rfl) ?_
 conv=>whnf
 repeat(refine sT rfl ?_;conv=>whnf)
 refine cS (HT q Cc Cc 0) rfl ?_;conv=>whnf
 repeat(refine sT rfl ?_;conv=>whnf)
 have JE:=I2 q hq 0;generalize readAll q.F q.ls=A at*
 refine Ac.rangeFunc (E0:=mk 6 [(0,.at_ (q.c Cc Cc 0)),(2,.ptr 0 0)]) (xs:=A.map λa=>[a.v]) (Tf ?_) rfl rfl JE rfl (λvs k=>[.cells [.lit false]]++[.ghost (mk 6 [(0,.at_ (q.c Cc Cc 0)),(2,.ptr 0 0)]) vs []]++(if k=0 then []else [ZgA])) (λ_ e H=>A≠[]∧e=.ret∧H.take 1=[.cells [.lit false]]) (λvs=>rfl)
  (λvs k=>?_) (λvs k x hx=>?_) (λvs=>?_) (λvs e H h=>?_)
 ·conv=>whnf
  repeat first|exact trivial|(refine⟨rfl,?_⟩;conv=>whnf)
 ·by_cases hk:k=0
  ·rw[if_pos hk];exact⟨rfl,rfl,by(conv=>whnf);exact⟨rfl,rfl,trivial⟩⟩
  ·rw[if_neg hk];exact⟨rfl,rfl,by(conv=>whnf);exact⟨rfl,rfl,(by intro e he;cases AO.1 he;rfl),trivial⟩⟩
 ·have hA:A≠[]:=λh=>by rw[h]at hx;cases hx
  by_cases hk:k=0
  ·rw[if_pos hk];refine⟨?_,?_⟩
   ·rw[hk]at hx;obtain⟨a,_,rfl⟩:=Ei.1 (CA hx);rfl
   ·rw[hk]at hx;obtain⟨a,_,rfl⟩:=Ei.1 (CA hx);conv=>whnf
    repeat(refine sT rfl ?_;conv=>whnf)
    exact⟨⟨_,rfl⟩,⟨hA,rfl,rfl⟩,rfl,rfl⟩
  ·rw[if_neg hk];obtain⟨a,_,rfl⟩:=Ei.1 (CA hx);exact⟨rfl,YT (q:=2) rfl (AO.2 rfl) (by decide)⟩
 ·rw[Aq];cases A with
  |nil=>
   conv=>whnf
   repeat(refine sT rfl ?_;conv=>whnf)
   rfl
  |cons a A=>
   rw[if_neg (by simp)]
   exact YT (q:=2) rfl (AO.2 rfl) (by decide)
 ·obtain⟨h1,rfl,h2⟩:=h;cases H with
  |nil=>cases h2
  |cons y r=>
   obtain rfl:y=.cells [.lit false]:=(List.cons.inj h2).1;conv=>whnf
   repeat(refine sT rfl ?_;conv=>whnf)
   rw[decide_eq_false h1]
theorem Vu(q:Qn)(ps:List Pt):Aw Tryz.prog 68 [.at_ (q.c (VD ps) Cc 0)] (λr=>r=.bool (decide (1<ps.length))):=by
 refine Aw.Ai Tryz.func68 rfl Ae (by kernel_rfl) ?_
 conv=>whnf
 repeat(refine sT rfl ?_;conv=>whnf)
 rw[Aq];congr 1;exact decide_eq_decide.2 (by omega)
theorem kJ(q:Qn)(ps c:List Pt)(e:Int)(h1:0<c.length)(h5:c.length≤5):Aw Tryz.prog 72 [.at_ (q.c (VD ps) (VD c) e)] (λr=>r=.bool (!decide ((Bm q.r q.day (FX c)).2=0))):=by
 refine Aw.Ai Tryz.func72 rfl Ae (by kernel_rfl) ?_
 conv=>whnf
 repeat(refine sT rfl ?_;conv=>whnf)
 refine Ac.NH [25] Ae mO (by kernel_rfl) ?_
 conv=>whnf
 have hw:Wr .i64 (((c.map Pt.v).length:Int)-1)=((c.length-1:Nat):Int):=by
  rw[Aq,Cy _ _ (by unfold DF BD BV BC Bh;simp;omega)]
  omega
 rw[hw];refine⟨by omega,(FX c).v,by unfold FX;simp[show c.length-1<c.length by omega],?_⟩
 conv=>whnf
 refine⟨_,⟨Rr.FD q.r q.day (FX c),rfl⟩,?_⟩;conv=>whnf
 conv=>whnf
 repeat(refine sT rfl ?_;conv=>whnf)
theorem Zi(q:Qn)(hq:q.ok):Aw Tryz.prog 64 [.at_ (q.c Cc Cc 0)] (λr=>r=.bool (HP q.F q.r q.l q.day q.Ao)):=by
 refine Aw.Ai Tryz.func64 rfl Ae (by kernel_rfl) ?_
 conv=>whnf
 repeat(refine sT rfl ?_;conv=>whnf)
 rw[Aq];repeat' (first|(refine AR (λ_=>?_) (λ_=>?_)<;>conv=>whnf)|(refine sT rfl ?_;conv=>whnf))
 any_goals (unfold HP;simp_all;done)
 case refine_2=>
  rename_i h;unfold HP;rw[decide_eq_true (by have:=of_decide_eq_true h;omega:8<q.F.length)]
  rfl
 rename_i g1 g2 g3 g4 g5;have hn:q.F.length≤8:=by have:=of_decide_eq_false g1;omega
 have TX:HP q.F q.r q.l q.day q.Ao=(q.F.any (λf=>!Ff.By f)||!AY q.r||!CC q.l):=by
  unfold HP;rw[decide_eq_false (by omega),g2,g3,g4,g5]
  rfl
 rw[TX];clear g1 g2 g3 g4 g5;refine Ac.AJ (λi:Nat=>mk 72 [(0,.at_ (q.c Cc Cc 0)),(44,.sl 2 (q.F.map Ff.Fm.v)),(45,.int .i64 q.F.length),(46,.int .i64 i)]) (λi=>[]) (λi=>i≤q.F.length∧(q.F.take i).any (λf=>!Ff.By f)=false) (λi=>q.F.length-i) (λ_ _=>⟨rfl,trivial⟩) ⟨0,?_⟩ (λ_=>rfl) λi hi=>?_
 ·conv=>whnf
  repeat(refine AR ?_ ?_;(focus (first|rfl|(simp;done)|(rw[Aq];done)));conv=>whnf)
  rw[Ep];rfl
 ·obtain⟨hi,Zbe⟩:=hi;repeat(refine sT rfl ?_;conv=>whnf)
  refine⟨λh=>?_,λh=>?_⟩
  ·have h:i<q.F.length:=by have:=of_decide_eq_true h;omega
   conv=>whnf
   repeat(refine sT rfl ?_;conv=>whnf)
   refine⟨by omega,q.F[i].v,by simp[h],?_⟩
   conv=>whnf
   repeat(refine sT rfl ?_;conv=>whnf)
   refine cS (Ff.Dg q.F[i] (hq.f _ (Bv _)).n (hq.f _ (Bv _)).t (hq.f _ (Bv _)).l (hq.f _ (Bv _)).l2) rfl ?_;conv=>whnf
   repeat(refine sT rfl ?_;conv=>whnf)
   refine⟨λhv=>?_,λhv=>?_⟩
   ·conv=>whnf
    repeat(refine sT rfl ?_;conv=>whnf)
    rw[Ed.2 ⟨q.F[i],Bv _,hv⟩];rfl
   ·conv=>whnf
    repeat(refine sT rfl ?_;conv=>whnf)
    refine⟨i+1,?_⟩;conv=>whnf
    repeat(refine AR ?_ ?_;(focus (first|rfl|(simp;done)|(rw[Cy _ _ (by unfold DF BD BV BC Bh;simp;omega)];rfl;done)));conv=>whnf)
    have yQ:((q.F.take (i+1)).any λf=>!Ff.By f)=false:=by rw[Bc h,E4,Zbe];simpa using hv
    first|exact⟨by omega,yQ,by omega⟩|exact⟨⟨by omega,yQ⟩,by omega⟩
  ·have h:i=q.F.length:=by have:=of_decide_eq_false h;omega
   rw[h,Cb]at Zbe;rw[Zbe];conv=>whnf
   repeat(refine sT rfl ?_;conv=>whnf)
   refine cS (Rr.dL q.r) rfl ?_;conv=>whnf
   repeat(refine sT rfl ?_;conv=>whnf)
   refine⟨λh=>?_,λh=>?_⟩
   ·have hs:AY q.r=true:=by unfold AY;simpa using h
    rw[hs];refine cS (JQ q.l) rfl ?_;conv=>whnf
    repeat(refine sT rfl ?_;conv=>whnf)
    rfl
   ·have hs:AY q.r=false:=by unfold AY;simpa using h
    rw[hs];conv=>whnf
    repeat(refine sT rfl ?_;conv=>whnf)
    rfl
theorem RZ{ps:List Pt}{p:Pt}(h:ps.Nodup)(hp:p∉ps):(ps++[p]).Nodup:=DG.2 ⟨h,by simp,λx hx y hy=>by rw[AO.1 hy];exact λe=>hp (e▸hx)⟩
theorem Rb(ps:List Pt)(p:Pt):Dy (ps++[p]).length=Dy ps.length++[.lit true]:=by rw[Ba];exact List.replicate_succ'
theorem Uf(k j:Nat):(Dy k).set j (.lit true)=Dy k:=by
 unfold Dy;refine List.ext_getElem (by simp) λi h1 h2=>?_
 rw[List.getElem_set];split<;>simp
def xJ(P:Pt→Prop)(r:AV):Prop:=∃ps:List Pt,r=.mp (ps.map Pt.v) (Dy ps.length)∧ps.Nodup∧∀p,p∈ps↔P p
def exE(q:Qn):List AV:=mk 29 [(0,.at_ (q.c Cc Cc 0)),(1,.ptr 0 0),(3,.ptr 2 0)]
def exH(q:Qn)(ps:List Pt):List HO:=[.cells [.at_ (q.c Cc Cc 0)],.map (ps.map Pt.v) (Dy ps.length),.cells [.om 1]]
theorem cE(q:Qn)(hq:q.ok):Aw Tryz.prog 105 [.at_ (q.c Cc Cc 0)] (xJ λp=>p∈DQ q.r q.day (readAll q.F q.ls)):=by
 refine Aw.Ai Tryz.func105 rfl Ae (by kernel_rfl) ?_
 conv=>whnf
 repeat(refine sT rfl ?_;conv=>whnf)
 refine cS (HT q Cc Cc 0) rfl ?_;conv=>whnf
 repeat(refine sT rfl ?_;conv=>whnf)
 have JE:=I2 q hq 0;generalize readAll q.F q.ls=A at*
 refine Ac.RD (E0:=exE q) (xs:=A.map λa=>[a.v]) (Tf ?_) rfl rfl JE rfl (λvs k (ps:List Pt)=>exH q ps++[.ghost (exE q) vs []])
  (λk ps=>ps.Nodup∧∀p,p∈ps↔p∈DQ q.r q.day (A.take k)) [] ⟨EM,λp=>by rw[Ep];exact Iff.rfl⟩ (λ_ _ _=>False) (λvs=>rfl)
  (λvs k ps _=>⟨rfl,rfl,by(conv=>whnf);exact⟨rfl,rfl,rfl,trivial⟩⟩) (λvs k ps x hp hx=>?_) (λvs ps hp=>?_) (λ_ _ _ h=>h.elim)
 ·conv=>whnf
  repeat first|exact trivial|(refine⟨rfl,?_⟩;conv=>whnf)
 ·have hk:k<A.length:=by have:=(Cu.1 hx).1;simpa using this
  obtain rfl:x=[A[k].v]:=by rw[CL,AZ hk]at hx;exact(D0.inj hx).symm
  obtain⟨hn,hp⟩:=hp;refine⟨rfl,?_⟩
  have hex:DQ q.r q.day (A.take (k+1))=DQ q.r q.day (A.take k)++(if (DD q.r q.day A[k]).2=0 then [(DD q.r q.day A[k]).1]else []):=by
   unfold DQ;rw[Bc hk,List.filterMap_append];congr 1;by_cases hh:(DD q.r q.day A[k]).2=0<;>simp[hh]
  conv=>whnf
  repeat(refine sT rfl ?_;conv=>whnf)
  refine Ac.NH [14] Ae mO (by kernel_rfl) ?_
  conv=>whnf
  refine⟨_,⟨Rr.lF q.r q.day A[k],rfl⟩,?_⟩;conv=>whnf
  conv=>whnf
  repeat(refine sT rfl ?_;conv=>whnf)
  generalize DD q.r q.day A[k]=g at*;refine⟨λh=>?_,λh=>?_⟩
  ·rw[if_pos (by simpa using h)]at hex
   conv=>whnf
   refine Ac.Ex [2] Ae ?_;conv=>whnf
   refine⟨TE,PF,⟨⟨_,rfl⟩,rfl⟩,⟨I9 _,FT hn⟩,λOP=>?_,λj hj=>?_⟩
   ·have OP:g.1∉ps:=λh=>OP (FI.2 h)
    conv=>whnf
    refine⟨ps++[g.1],⟨RZ hn OP,λp=>?_⟩,?_⟩
    ·rw[hex,Bq,Bq,hp p]
    ·conv=>whnf
     refine⟨rfl,?_⟩;conv=>whnf
     refine⟨?_,?_⟩
     ·show HO.map (ps.map Pt.v++[g.1.v]) (Dy ps.length++[.lit true])=_
      rw[←Rb ps g.1,←Cm,←CW]
     conv=>whnf
     repeat(refine AR ?_ ?_;(focus (first|rfl|(simp;done)));conv=>whnf)
     trivial
   ·have hi:g.1∈ps:=FI.1 (CA hj);conv=>whnf
    refine⟨ps,⟨hn,λp=>?_⟩,?_⟩
    ·rw[hex,Bq,hp p,AO];exact⟨.inl,λh=>h.elim id λh=>by rw[h,←hp];exact hi⟩
    ·conv=>whnf
     refine⟨rfl,?_⟩;conv=>whnf
     refine⟨?_,?_⟩
     ·show HO.map (ps.map Pt.v) ((Dy ps.length).set j (.lit true))=_
      rw[Uf]
     conv=>whnf
     repeat(refine AR ?_ ?_;(focus (first|rfl|(simp;done)));conv=>whnf)
     trivial
  ·rw[if_neg (by simpa using h),Eh]at hex
   conv=>whnf
   repeat(refine sT rfl ?_;conv=>whnf)
   refine⟨ps,⟨hn,λp=>by rw[hex,hp p]⟩,?_⟩
   conv=>whnf
   repeat(refine AR ?_ ?_;(focus (first|rfl|(simp;done)));conv=>whnf)
   trivial
 ·conv=>whnf
  repeat(refine sT rfl ?_;conv=>whnf)
  exact⟨ps,rfl,hp.1,λp=>by rw[hp.2 p,Aq,Cb]⟩
structure NS(Ao:Int)(L:List Cd)(ps:List Pt)(m:Int):Prop where
 m:m=Db Ao L
 n:ps.Nodup
 p:∀p,p∈ps↔p∈Hu Ao L
theorem NS.nil(Ao:Int):NS Ao [] [] (Ao+1):=⟨rfl,EM,λp=>Iff.rfl⟩
theorem I7(Ao:Int)(L:List Cd)(c:Cd):Db Ao (L++[c])=min (Db Ao L) c.c:=by unfold Db;rw[List.foldl_append];rfl
theorem NS.less{Ao:Int}{L:List Cd}{ps:List Pt}{m:Int}{c:Cd}(h:NS Ao L ps m)(hc:c.c<m):NS Ao (L++[c]) [c.p] c.c:=by
 have e:Db Ao (L++[c])=c.c:=by rw[I7,←h.m];omega
 refine⟨e.symm,by simp,λp=>?_⟩
 rw[CK,e,AO];constructor
 ·rintro rfl;exact⟨c,by simp,rfl,rfl⟩
 ·rintro⟨d,hd,h1,h2⟩;rcases Bq.1 hd with hd|hd
  ·have:=(least_le Ao L).2 d hd;rw[←h.m]at this;omega
  ·rw[AO.1 hd]at h2;exact h2.symm
theorem NS.more{Ao:Int}{L:List Cd}{ps:List Pt}{m:Int}{c:Cd}(h:NS Ao L ps m)(hc:m<c.c):NS Ao (L++[c]) ps m:=by
 have e:Db Ao (L++[c])=m:=by rw[I7,←h.m];omega
 refine⟨e.symm,h.n,λp=>?_⟩
 rw[h.p,CK,CK,e,←h.m];constructor
 ·rintro⟨d,hd,h1⟩;exact⟨d,C3 _ hd,h1⟩
 ·rintro⟨d,hd,h1,h2⟩;rcases Bq.1 hd with hd|hd;·exact⟨d,hd,h1,h2⟩
  ·rw[AO.1 hd]at h1;omega
theorem NS.ZdP{Ao:Int}{L:List Cd}{ps:List Pt}{m:Int}{c:Cd}(h:NS Ao L ps m)(hc:c.c=m)(hi:c.p∈ps):NS Ao (L++[c]) ps m:=by
 have e:Db Ao (L++[c])=m:=by rw[I7,←h.m];omega
 refine⟨e.symm,h.n,λp=>?_⟩
 rw[CK,e];constructor
 ·intro hp;obtain⟨d,hd,h1,h2⟩:=CK.1 ((h.p p).1 hp);exact⟨d,C3 _ hd,by rw[h1,h.m],h2⟩
 ·rintro⟨d,hd,h1,h2⟩;rcases Bq.1 hd with hd|hd;·exact(h.p p).2 (CK.2 ⟨d,hd,by rw[h1,h.m],h2⟩)
  ·rw[AO.1 hd]at h2;exact h2▸hi
theorem NS.Zbx{Ao:Int}{L:List Cd}{ps:List Pt}{m:Int}{c:Cd}(h:NS Ao L ps m)(hc:c.c=m)(hi:c.p∉ps):NS Ao (L++[c]) (ps++[c.p]) m:=by
 have e:Db Ao (L++[c])=m:=by rw[I7,←h.m];omega
 refine⟨e.symm,RZ h.n hi,λp=>?_⟩
 rw[CK,e,Bq,AO];constructor
 ·rintro (hp|rfl)
  ·obtain⟨d,hd,h1,h2⟩:=CK.1 ((h.p p).1 hp);exact⟨d,C3 _ hd,by rw[h1,h.m],h2⟩
  ·exact⟨c,by simp,hc,rfl⟩
 ·rintro⟨d,hd,h1,h2⟩;rcases Bq.1 hd with hd|hd;·exact .inl ((h.p p).2 (CK.2 ⟨d,hd,by rw[h1,h.m],h2⟩))
  ·rw[AO.1 hd]at h2;exact .inr h2.symm
theorem Zac{p:Ff.Pt}{l:List Bs}{a:Ff.Ad}(h:Ff.Wy p l=true)(ha:0≤a.nu∧a.nu≤9999):0≤(Ff.Dw p l a).nu∧(Ff.Dw p l a).nu≤9999:=by
 unfold Ff.Dw;repeat' split
 all_goals first|exact ha|skip
 ·rename_i h3;obtain⟨_,_,h4⟩:=Ff.mG h3;simp only;omega
 ·simp
theorem Xq:∀(ps:List Ff.Pt)(ws:List Bs)(a:Ff.Ad),(0≤a.nu∧a.nu≤9999)→∀x∈Ff.EG ps ws a,0≤x.nu∧x.nu≤9999
 |[],[],a,ha,x,h=>by
  have h:x∈[a]:=h;rw[AO.1 h];exact ha
 |[],_::_,a,ha,x,h=>by
  have h:x∈([]:List Ff.Ad):=h;cases h
 |p::ps,ws,a,ha,x,h=>by
  unfold Ff.EG at h;obtain⟨i,_,h⟩:=E2.1 h;rw[Ff.dW]at h;split at h
  ·rename_i b hb;split at hb
   ·rename_i D5;obtain rfl:=D0.inj hb;exact Xq ps _ _ (Zac D5 ha) x h
   ·cases hb
  ·cases h
theorem Xr:∀(ls:List (List Ff.Pt)) (W:List (List Bs)) (a:Ff.Ad),(0≤a.nu∧a.nu≤9999)→∀x∈Ff.Fc ls W a,0≤x.nu∧x.nu≤9999
 |[],[],a,ha,x,h=>by
  have h:x∈[a]:=h;rw[AO.1 h];exact ha
 |[],_::_,a,ha,x,h=>by
  have h:x∈([]:List Ff.Ad):=h;cases h
 |_::_,[],a,ha,x,h=>by
  have h:x∈([]:List Ff.Ad):=h;cases h
 |l::ls,w::ws,a,ha,x,h=>by
  unfold Ff.Fc at h;obtain⟨b,hb,h⟩:=E2.1 h;exact Xr ls ws b (Xq l w a ha b hb) x h
theorem ZW(F:List Ff.Fm)(ls:List Bs):∀a∈readAll F ls,0≤a.nu∧a.nu≤1000000:=λa ha=>by
 obtain⟨f,_,h0,b,hb,rfl⟩:=Ke.1 ha;unfold Ff.Ca at hb;split at hb
 ·split at hb
  ·split at hb
   ·have:=Xr _ _ _ ⟨by decide,by decide⟩ b hb
    exact⟨this.1,Int.le_trans this.2 (by decide)⟩
   ·cases hb
  ·cases hb
 ·cases hb
def neE(q:Qn):List AV:=mk 55 [(0,.at_ (q.c Cc Cc 0)),(1,.ptr 0 0),(3,.ptr 2 0),(4,.ptr 12 0),(5,.ptr 14 0)]
def neH(q:Qn)(S:List St)(ps:List Pt)(m:Int):List HO:=[.cells [.at_ (q.c Cc Cc 0)],.map (ps.map Pt.v) (Dy ps.length),.cells [.om 1],.dead,.dead,.dead,.dead,.dead,.dead,.dead,.dead,.dead,.cells [.sl 8 (S.map St.v)],.dead,.cells [.int .i64 m]]
set_option maxHeartbeats 0 in
theorem VQ(q:Qn)(hq:q.ok)(h0:0≤q.Ao)(h6:q.Ao≤6):Aw Tryz.prog 106 [.at_ (q.c Cc Cc 0)] (xJ λp=>p∈Hu q.Ao (Dp (JH q.r q.day) (readAll q.F q.ls) q.Ao)):=by
 refine Aw.Ai Tryz.func106 rfl Ae (by kernel_rfl) ?_
 conv=>whnf
 repeat(refine sT rfl ?_;conv=>whnf)
 refine Ac.draw [10] Ae mO (by kernel_rfl) ?_
 conv=>whnf
 refine⟨_,⟨Rr.gL q.r q.day,rfl⟩,?_⟩;conv=>whnf
 conv=>whnf
 repeat(refine sT rfl ?_;conv=>whnf)
 refine cS (HT q Cc Cc 0) rfl ?_;conv=>whnf
 repeat(refine sT rfl ?_;conv=>whnf)
 have JE:=I2 q hq 0;rw[Cy _ _ (by unfold DF BD BV BC Bh;simp;omega)]
 obtain⟨hS,hSl⟩:=Rr.NO q.r q.day;have hnu:=ZW q.F q.ls;generalize readAll q.F q.ls=A at*;generalize JH q.r q.day=S at*
 refine Ac.RD (E0:=neE q) (xs:=A.map λa=>[a.v]) (Tf ?_) rfl rfl JE rfl (λvs k (x:List Pt×Int)=>neH q S x.1 x.2++[.ghost (neE q) vs []])
  (λk x=>∃L,(∀c,c∈L↔c∈Dp S (A.take k) q.Ao)∧NS q.Ao L x.1 x.2) ([],q.Ao+1) ⟨[],λc=>Iff.rfl,NS.nil _⟩ (λ_ _ _=>False) (λvs=>rfl)
  (λvs k ps _=>⟨rfl,rfl,by(conv=>whnf);exact⟨rfl,rfl,rfl,rfl,rfl,trivial⟩⟩) (λvs k x y hp hx=>?_) (λvs x hp=>?_) (λ_ _ _ h=>h.elim)
 ·conv=>whnf
  repeat first|exact trivial|(refine⟨rfl,?_⟩;conv=>whnf)
 ·have hk:k<A.length:=by have:=(Cu.1 hx).1;simpa using this
  obtain rfl:y=[A[k].v]:=by rw[CL,AZ hk]at hx;exact(D0.inj hx).symm
  obtain⟨L,hL,hns⟩:=hp;generalize x.1=ps at*;generalize x.2=m at*;refine⟨rfl,?_⟩;conv=>whnf
  repeat(refine sT rfl ?_;conv=>whnf)
  refine Ac.Zbn [([false,false,false,false,false,false,false,false,false],[0,1,2,8]),([true,false,false,false,false,false,false,false,false],[1,2,8]),([false,true,false,false,false,false,false,false,false],[0,2,8]),([false,false,true,false,false,false,false,false,false],[0,1,3,8]),([false,false,false,false,false,false,false,false,true],[0,1,2]),([true,true,false,false,false,false,false,false,false],[2,8]),([true,false,true,false,false,false,false,false,false],[1,3,8]),([true,false,false,false,false,false,false,false,true],[1,2]),([false,true,true,false,false,false,false,false,false],[0,3,8]),([false,true,false,false,false,false,false,false,true],[0,2]),([false,false,true,true,false,false,false,false,false],[0,1,4,8]),([false,false,true,false,false,false,false,false,true],[0,1,3]),([true,true,true,false,false,false,false,false,false],[3,8]),([true,true,false,false,false,false,false,false,true],[2]),([true,false,true,true,false,false,false,false,false],[1,4,8]),([true,false,true,false,false,false,false,false,true],[1,3]),([false,true,true,true,false,false,false,false,false],[0,4,8]),([false,true,true,false,false,false,false,false,true],[0,3]),([false,false,true,true,true,false,false,false,false],[0,1,5,8]),([false,false,true,true,false,false,false,false,true],[0,1,4]),([true,true,true,true,false,false,false,false,false],[4,8]),([true,true,true,false,false,false,false,false,true],[3]),([true,false,true,true,true,false,false,false,false],[1,5,8]),([true,false,true,true,false,false,false,false,true],[1,4]),([false,true,true,true,true,false,false,false,false],[0,5,8]),([false,true,true,true,false,false,false,false,true],[0,4]),([false,false,true,true,true,true,false,false,false],[0,1,8]),([false,false,true,true,true,false,false,false,true],[0,1,5]),([true,true,true,true,true,false,false,false,false],[5,8]),([true,true,true,true,false,false,false,false,true],[4]),([true,false,true,true,true,true,false,false,false],[1,8]),([true,false,true,true,true,false,false,false,true],[1,5]),([false,true,true,true,true,true,false,false,false],[0,8]),([false,true,true,true,true,false,false,false,true],[0,5]),([false,false,true,true,true,true,false,false,true],[0,1]),([true,true,true,true,true,true,false,false,false],[6,8]),([true,true,true,true,true,false,false,false,true],[5]),([true,false,true,true,true,true,false,false,true],[1]),([false,true,true,true,true,true,false,false,true],[0]),([true,true,true,true,true,true,true,false,false],[7,8]),([true,true,true,true,true,true,false,false,true],[6]),([true,true,true,true,true,true,true,true,false],[8]),([true,true,true,true,true,true,true,false,true],[7]),([true,true,true,true,true,true,true,true,true],[])] (λc=>[(0,27,.sl 8 (S.map St.v)),(1,28,A[k].v),(2,29,.at_ (q.c Cc Cc 0)),(3,30,.at_ (q.c Cc Cc 0)),(4,31,.at_ [.int .i64 q.Ao,Cc,Cc,.int .i64 0]),(5,32,.int .i64 q.Ao),(6,33,.sl 3 (JL c)),(7,34,.int .i64 (JL c).length),(8,35,.int .i64 0)]) (λl:List Cd=>l.Perm (D9 S A[k] q.Ao)) (D9 S A[k] q.Ao) (List.Perm.refl _) Ae (by kernel_rfl) (by kernel_rfl) rfl (λc hc=>?_)
  conv=>whnf
  repeat' (first|exact True.intro|(refine GNI.mk ?_;conv=>whnf)|exact⟨c,hc,rfl,rfl⟩|(refine AR ?_ ?_<;>conv=>whnf)|(refine Ak.D3 (QF S A[k] q.Ao hS (by omega) (hnu _ (Bv _)) h0 h6) rfl λr hr=>?_;(obtain⟨d,rfl,hd⟩:=hr);(conv=>whnf);exact⟨d,hd,rfl,rfl⟩))
  have IJ:c.length≤60:=by
   rw[hc.length_eq];unfold D9;refine Nat.le_trans (C0 ..) ?_;rw[EN];exact hSl
  conv=>whnf
  repeat(refine sT rfl ?_;conv=>whnf)
  refine Ac.AJ (λy:Nat×List Pt×Int=>mk 55 [(0,.at_ (q.c Cc Cc 0)),(1,.ptr 0 0),(3,.ptr 2 0),(4,.ptr 12 0),(5,.ptr 14 0),(6,.ptr 16 0),(33,.sl 3 (JL c)),(34,.int .i64 c.length),(35,.int .i64 y.1)]) (λy=>neH q S y.2.1 y.2.2++[.ghost (neE q) vs [],.cells [.str A[k].pe,.str A[k].st,.int .i64 A[k].nu,.str A[k].co,.str A[k].tw]]) (λy=>y.1≤c.length∧NS q.Ao (L++c.take y.1) y.2.1 y.2.2) (λy=>c.length-y.1) (λ_ _=>?_) ⟨(0,ps,m),?_⟩ (λ_=>rfl) λy hy=>?_
  ·exact⟨rfl,by(conv=>whnf);exact⟨rfl,rfl,rfl,rfl,rfl,rfl,trivial⟩⟩
  ·conv=>whnf
   repeat(refine AR ?_ ?_;(focus (first|rfl|(simp;done)|(rw[Aq];done)));conv=>whnf)
   show NS q.Ao (L++c.take 0) ps m
   rw[Ep,Eh];exact hns
  ·obtain⟨hj,hn⟩:=hy;generalize y.1=j at*;generalize y.2.1=lJ at*;generalize y.2.2=m1 at*;repeat(refine sT rfl ?_;conv=>whnf)
   refine⟨λh=>?_,λh=>?_⟩
   ·have h:j<c.length:=by have:=of_decide_eq_true h;omega
    conv=>whnf
    repeat(refine sT rfl ?_;conv=>whnf)
    refine⟨by omega,c[j].v,by simp[h],?_⟩
    conv=>whnf
    repeat(refine sT rfl ?_;conv=>whnf)
    have jS:L++c.take (j+1)=L++c.take j++[c[j]]:=by rw[Bc h,EX]
    generalize c[j]=d at*;refine⟨λh1=>?_,λh1=>?_⟩
    ·have h1:=of_decide_eq_true h1;conv=>whnf
     iterate 1 (refine sT rfl ?_;conv=>whnf)
     refine Ac.Ex [1] Ae ?_;conv=>whnf
     repeat(refine sT rfl ?_;conv=>whnf)
     refine⟨λ_=>?_,λh=>absurd rfl (of_decide_eq_false h)⟩
     conv=>whnf
     refine Ac.Ex [3] Ae ?_;conv=>whnf
     refine⟨TE,PF,⟨⟨d.p,rfl⟩,rfl⟩,⟨λa h=>(by cases h),EM⟩,λ_=>?_,λj hj=>by simp at hj⟩
     conv=>whnf
     repeat(refine sT rfl ?_;conv=>whnf)
     refine⟨(j+1,[d.p],d.c),?_⟩;have Fx:=hn.less h1;rw[←jS]at Fx;conv=>whnf
     repeat(refine AR ?_ ?_;(focus (first|rfl|(simp;done)|(rw[Cy _ _ (by unfold DF BD BV BC Bh;simp;omega)];rfl;done)));conv=>whnf)
     exact⟨⟨h,Fx⟩,by show c.length-(j+1)<c.length-j;omega⟩
    ·have h1:=of_decide_eq_false h1;conv=>whnf
     repeat(refine sT rfl ?_;conv=>whnf)
     refine⟨λh2=>?_,λh2=>?_⟩
     ·have h2:=of_decide_eq_true h2;conv=>whnf
      refine Ac.Ex [3] Ae ?_;conv=>whnf
      refine⟨TE,PF,⟨⟨d.p,rfl⟩,rfl⟩,⟨I9 _,FT hn.n⟩,λOP=>?_,λi hi=>?_⟩
      ·have OP:d.p∉lJ:=λh=>OP (FI.2 h)
       have Fx:=hn.Zbx h2 OP
       rw[←jS]at Fx
       conv=>whnf
       repeat(refine sT rfl ?_;conv=>whnf)
       refine⟨(j+1,lJ++[d.p],m1),?_⟩
       conv=>whnf
       repeat(refine AR ?_ ?_;(focus (first|rfl|(simp;done)|(rw[Cy _ _ (by unfold DF BD BV BC Bh;simp;omega)];rfl;done)));conv=>whnf)
       refine⟨?_,?_⟩
       ·show HO.map (lJ.map Pt.v++[d.p.v]) (Dy lJ.length++[.lit true])=HO.map ((lJ++[d.p]).map Pt.v) (Dy (lJ++[d.p]).length)
        rw[Rb,CW,Cm]
       conv=>whnf
       repeat(refine AR ?_ ?_;(focus (first|rfl|(simp;done)));conv=>whnf)
       exact⟨⟨h,Fx⟩,by show c.length-(j+1)<c.length-j;omega⟩
      ·have hi:d.p∈lJ:=FI.1 (CA hi)
       have Fx:=hn.ZdP h2 hi
       rw[←jS]at Fx
       conv=>whnf
       repeat(refine sT rfl ?_;conv=>whnf)
       refine⟨(j+1,lJ,m1),?_⟩
       conv=>whnf
       repeat(refine AR ?_ ?_;(focus (first|rfl|(simp;done)|(rw[Cy _ _ (by unfold DF BD BV BC Bh;simp;omega)];rfl;done)));conv=>whnf)
       refine⟨?_,?_⟩
       ·show HO.map (lJ.map Pt.v) ((Dy lJ.length).set i (.lit true))=_
        rw[Uf]
       conv=>whnf
       repeat(refine AR ?_ ?_;(focus (first|rfl|(simp;done)));conv=>whnf)
       exact⟨⟨h,Fx⟩,by show c.length-(j+1)<c.length-j;omega⟩
     ·have h2:=of_decide_eq_false h2;have Fx:=hn.more (c:=d) (by omega)
      rw[←jS]at Fx;conv=>whnf
      repeat(refine sT rfl ?_;conv=>whnf)
      refine⟨(j+1,lJ,m1),?_⟩;conv=>whnf
      repeat(refine AR ?_ ?_;(focus (first|rfl|(simp;done)|(rw[Cy _ _ (by unfold DF BD BV BC Bh;simp;omega)];rfl;done)));conv=>whnf)
      exact⟨⟨h,Fx⟩,by show c.length-(j+1)<c.length-j;omega⟩
   ·have h:j=c.length:=by have:=of_decide_eq_false h;omega
    conv=>whnf
    repeat(refine sT rfl ?_;conv=>whnf)
    rw[h,Cb]at hn;refine⟨(lJ,m1),⟨L++c,λd=>?_,hn⟩,?_⟩
    ·rw[Bq,hL,hc.mem_iff];unfold Dp;rw[Bc hk,C4,Bq,Ef]
    ·conv=>whnf
     repeat(refine AR ?_ ?_;(focus (first|rfl|(simp;done)));conv=>whnf)
     trivial
 ·obtain⟨L,hL,hns⟩:=hp;rw[Aq,Cb]at hL;conv=>whnf
  repeat(refine sT rfl ?_;conv=>whnf)
  exact⟨x.1,rfl,hns.n,λp=>by rw[hns.p p,eM hL p]⟩
def orI(a b:Int):Int:=if a=0 then b else a
theorem tV(a b:Int):Aw Tryz.prog 109 [.sl 1 (ia [a,b])] (λr=>r=.int .i64 (orI a b)):=by
 have D6:∀i,i<2→(ia [a,b])[i]?=some (.int .i64 (if i=0 then a else b)):=λi h=>by
  match i,h with
  |0,_=>rfl
  |1,_=>rfl
 have hlen:(ia [a,b]).length=2:=rfl;generalize ia [a,b]=L at*;refine Aw.Ai Tryz.func109 rfl Ae (by kernel_rfl) ?_
 conv=>whnf
 repeat(refine sT rfl ?_;conv=>whnf)
 refine Ac.AJ (λi:Nat=>mk 18 [(0,.sl 1 L),(2,.int .i64 0),(3,.int .i64 0),(6,.sl 1 L),(7,.int .i64 2),(8,.int .i64 i)]) (λi=>[]) (λi=>i≤2∧(1≤i→a=0)∧(2≤i→b=0)) (λi=>2-i) (λ_ _=>⟨rfl,trivial⟩) ⟨0,?_⟩ (λ_=>rfl) λi hi=>?_
 ·conv=>whnf
  repeat(refine AR ?_ ?_;(focus (first|rfl|(simp;done)|(rw[hlen];rfl;done)));conv=>whnf)
  first|exact⟨⟨by omega,by omega⟩,by omega⟩|exact⟨by omega,by omega,by omega⟩|exact⟨by omega,by omega⟩|(intro h;omega)
 ·obtain⟨hi,h1,h2⟩:=hi;repeat(refine sT rfl ?_;conv=>whnf)
  refine⟨λh=>?_,λh=>?_⟩
  ·have h:i<2:=by have:=of_decide_eq_true h;omega
   conv=>whnf
   repeat(refine sT rfl ?_;conv=>whnf)
   refine⟨by omega,_,D6 i h,?_⟩
   conv=>whnf
   repeat(refine sT rfl ?_;conv=>whnf)
   refine⟨λg=>?_,λg=>?_⟩
   ·conv=>whnf
    repeat(refine sT rfl ?_;conv=>whnf)
    have g:¬(if i=0 then a else b)=0:=by simpa using g
    show AV.int _ _=AV.int _ _
    congr 1;unfold orI;by_cases h0:i=0
    ·rw[if_pos h0]at g ⊢;rw[if_neg g]
    ·rw[if_neg h0,if_pos (h1 (by omega))]
   ·have g:(if i=0 then a else b)=0:=by simpa using g
    conv=>whnf
    repeat(refine sT rfl ?_;conv=>whnf)
    refine⟨i+1,?_⟩;conv=>whnf
    repeat(refine AR ?_ ?_;(focus (first|rfl|(simp;done)|(rw[Cy _ _ (by unfold DF BD BV BC Bh;simp;omega)];rfl;done)));conv=>whnf)
    have k1:1≤i+1→a=0:=λ_=>by
     by_cases h0:i=0;·rw[if_pos h0]at g;exact g
     ·exact h1 (by omega)
    have k2:2≤i+1→b=0:=λh'=>by rw[if_neg (by omega)]at g;exact g
    first|exact⟨⟨by omega,k1,k2⟩,by omega⟩|exact⟨by omega,k1,k2,by omega⟩
  ·have h:i=2:=by have:=of_decide_eq_false h;omega
   conv=>whnf
   repeat(refine sT rfl ?_;conv=>whnf)
   show AV.int _ _=AV.int _ _
   rw[h1 (by omega),h2 (by omega)]
   rfl
def cT(p q:Pt):Int:=orI (Wo p.s q.s) (Wo p.n q.n)
theorem Z5(p q:Pt):Aw Tryz.prog 108 [p.v,q.v] (λr=>r=.int .i64 (cT p q)):=by
 refine Aw.Ai Tryz.func108 rfl Ae (by kernel_rfl) ?_
 conv=>whnf
 repeat(refine sT rfl ?_;conv=>whnf)
 refine Ac.P0 [10] [] Ae mO (by kernel_rfl) ?_
 conv=>whnf
 refine⟨_,⟨KB p.s q.s,rfl⟩,?_⟩;conv=>whnf
 refine⟨_,⟨KB p.n q.n,rfl⟩,?_⟩;conv=>whnf
 refine⟨_,⟨tV (Wo p.s q.s) (Wo p.n q.n),rfl⟩,?_⟩;conv=>whnf
 conv=>whnf
 repeat(refine sT rfl ?_;conv=>whnf)
 rfl
theorem QV{p q:Pt}:cT p q<0↔ltP p q=true:=by
 unfold cT orI Wo;rw[D4];repeat' split
 all_goals omega
theorem Vs(l:List Pt)(hl:l.length≤1000000):Ea Tryz.prog 107 [.own 0 2 0 l.length,.fn 108 []] 34 2 (l.map Pt.v)
  (λr es=>r=.tuple []∧∃l':List Pt,es=l'.map Pt.v∧l'.Perm l∧l'.Pairwise λp q=>¬cT q p<0):=
 Zch Tryz.zL 2 Tryz.isAgg34 Tryz.sizeOf34 (by kernel_rfl) 108 (enters_of Tryz.func108 (by kernel_rfl) rfl) Pt.v (λ_=>True) cT
  (λx=>by rw[QV,D4];omega)
  (λx y z h1 h2=>by rw[QV,D4]at *;omega)
  (λx y z h1 h2=>by rw[QV,D4]at *;omega)
  (λx=>⟨_,rfl,rfl,rfl⟩) (λx y _ _=>Z5 x y) l (by omega) (λ_ _=>trivial) 34
theorem Uk{l m:List Pt}(h:l.Perm m)(hn:m.Nodup)(hs:l.Pairwise λp q=>¬cT q p<0):E7 l:=by
 have hn':l.Nodup:=h.nodup_iff.2 hn;unfold E7;refine(hs.and hn').imp λ{p q} ⟨h1,h2⟩=>?_
 rw[QV,D4]at h1;rw[D4];have:¬(p.s=q.s∧p.n=q.n):=λh=>h2 (nS h.1 h.2)
 omega
def Qr(e:Int):AV:=.fn 103 [.at_ [.int .i64 e]]
theorem ES(e:Int):Aw Tryz.prog 65 [.int .i64 e] (λr=>r=Qr e):=by
 refine Aw.Ai Tryz.func65 rfl Ae (by kernel_rfl) ?_
 conv=>whnf
 repeat(refine sT rfl ?_;conv=>whnf)
 rfl
def tO:List AV:=[.agg [.fn 64 [],Qr 1],.agg [.fn 66 [],Qr 1],.agg [.fn 67 [],Qr 80],.agg [.fn 68 [],.fn 69 []],.agg [.fn 70 [],.fn 71 []],.agg [.fn 72 [],Qr 3]]
theorem ZN:Aw Tryz.prog 36 [] (λr=>r=.sl 2 tO):=by
 refine Aw.Ai Tryz.func36 rfl Ae (by kernel_rfl) ?_
 conv=>whnf
 repeat(refine sT rfl ?_;conv=>whnf)
 refine cS (ES 1) rfl ?_;conv=>whnf
 repeat(refine sT rfl ?_;conv=>whnf)
 refine cS (ES 1) rfl ?_;conv=>whnf
 repeat(refine sT rfl ?_;conv=>whnf)
 refine cS (ES 80) rfl ?_;conv=>whnf
 repeat(refine sT rfl ?_;conv=>whnf)
 refine cS (ES 3) rfl ?_;conv=>whnf
 repeat(refine sT rfl ?_;conv=>whnf)
 refine⟨⟨rfl,λe he=>?_⟩,rfl⟩
 simp only[Fv,List.not_mem_nil,or_false]at he;rcases he with rfl|rfl|rfl|rfl|rfl|rfl<;>rfl
def Qn.at_(q:Qn)(M c:List Pt)(i:Nat):List AV:=if i≤2 then q.c Cc Cc 0 else if i≤4 then q.c (VD M) Cc 0 else q.c (VD M) (VD c) 0
structure ZgG(q:Qn)(M:List Pt)(c:List Pt×Int)(i:Nat):Prop where
 le:i≤6
 a1:1≤i→HP q.F q.r q.l q.day q.Ao=false
 a2:2≤i→readAll q.F q.ls≠[]
 a3:3≤i→M≠[]
 a4:4≤i→M.length=1
 a5:5≤i→c.2=0
 a6:6≤i→(Bm q.r q.day (FX c.1)).2=0
def rsZ:List AV:=[.int .i64 0,Cc,Cc,.int .i64 0]
theorem FU{α:Type} [DecidableEq α]:∀{l m:List α},l.Nodup→(∀x∈l,x∈m)→l.length≤m.length
 |[],_,_,_=>CM _
 |x::l,m,hn,h=>by
  obtain⟨h1,h2⟩:=E9.1 hn;have hx:=h x (by simp)
  have:=FU (m:=m.erase x) h2 λy hy=>(List.mem_erase_of_ne λe=>h1 (by rw[←e];exact hy)).2 (h y (by simp[hy]))
  rw[List.length_erase_of_mem hx]at this;have:=List.length_pos_of_mem hx;rw[C2];omega
theorem Pm(F:List Ff.Fm)(ls:List Bs):(readAll F ls).length≤16*F.length:=by
 unfold readAll;induction F with
 |nil=>simp
 |cons f F ih=>
  rw[EY,Ba,C2];have:=OA f ls;split;·rw[Aq];omega
  ·rw[List.length_nil];omega
theorem OE{S:List St}(hS:S.length≤60)(Ao:Int):∀(A:List Ad),(Dp S A Ao).length≤60*A.length
 |[]=>CM _
 |a::A=>by
  have ih:=OE hS Ao A;unfold Dp at ih⊢;rw[EY,Ba,C2]
  have:(D9 S a Ao).length≤60:=by
   unfold D9;refine Nat.le_trans (C0 ..) ?_;rw[EN];exact hS
  omega
theorem eH(q:Qn)(hq:q.ok){ps:List Pt}(hn:ps.Nodup)(h:(∀p,p∈ps↔p∈DQ q.r q.day (readAll q.F q.ls))∨(∀p,p∈ps↔p∈Hu q.Ao (Dp (JH q.r q.day) (readAll q.F q.ls) q.Ao))):ps.length≤960000∧True:=by
 have h1:=Pm q.F q.ls;have h2:=hq.n;rcases h with h|h
 ·have:=FU hn λx hx=>(h x).1 hx
  have h3:(DQ q.r q.day (readAll q.F q.ls)).length≤(readAll q.F q.ls).length:=C0 ..;exact⟨by omega,trivial⟩
 ·have:=FU hn λx hx=>(h x).1 hx
  have h3:=OE (Rr.NO q.r q.day).2 q.Ao (readAll q.F q.ls)
  have h4:(Hu q.Ao (Dp (JH q.r q.day) (readAll q.F q.ls) q.Ao)).length≤(Dp (JH q.r q.day) (readAll q.F q.ls) q.Ao).length:=by
   unfold Hu;rw[Aq];exact List.length_filter_le ..
  exact⟨by omega,trivial⟩
def EL(ps:List Pt)(d:List Nat):List Pt:=d.map λi=>ps.getD i My
theorem UG{ps:List Pt}{d:List Nat}(hn:ps.Nodup)(hd:d.Nodup)(hl:∀i∈d,i<ps.length)(he:d.length=ps.length):(EL ps d).Perm ps:=by
 have N2:(EL ps d).Nodup:=by
  unfold EL;unfold List.Nodup;rw[List.pairwise_map];refine hd.imp_of_mem λ{a b} ha hb Bu h=>?_
  rw[B7,B7,AZ (hl a ha),AZ (hl b hb)]at h;simp only[Option.getD_some]at h;rcases Nat.lt_trichotomy a b with h1|h1|h1;·exact absurd h (Ds.1 hn a b (hl a ha) (hl b hb) h1)
  ·exact Bu h1
  ·exact absurd h.symm (Ds.1 hn b a (hl b hb) (hl a ha) h1)
 have OK:∀p∈EL ps d,p∈ps:=λp hp=>by
  obtain⟨i,hi,rfl⟩:=Ei.1 hp;rw[B7,AZ (hl i hi)];exact Bv _
 have hlen:(EL ps d).length=ps.length:=by unfold EL;rw[Aq,he]
 refine(List.perm_ext_iff_of_nodup N2 hn).2 λp=>⟨OK p,λhp=>?_⟩
 refine Classical.byContradiction λvF=>?_
 have:=FU (l:=p::EL ps d) (m:=ps) (E9.2 ⟨vF,N2⟩) λx hx=>by
  rcases Fv.1 hx with rfl|hx;·exact hp
  ·exact OK x hx
 rw[C2]at this;omega
theorem LJ(l:List Pt)(n:Nat)(hn:n=l.length)(hl:l.length≤1000000):Ea Tryz.prog 107 [.own 0 2 0 n,.fn 108 []] 34 2 (l.map Pt.v)
  (λr es=>r=.tuple []∧∃l':List Pt,es=l'.map Pt.v∧l'.Perm l∧l'.Pairwise λp q=>¬cT q p<0):=by
 subst hn;exact Vs l hl
theorem Zj{F:List Ff.Fm}{r:List Ch}{l:List Od}{day Ao:Int}(h:HP F r l day Ao=false):0≤Ao∧Ao≤6:=by
 unfold HP at h;simp at h;omega
theorem R5:∀(l:List Pt),Ct (l.map Pt.v)=true
 |[]=>rfl
 |p::l=>by
  show(Bi p.v&&Ct (l.map Pt.v))=true
  rw[R5 l];rfl
theorem Kd:∀(k:Nat),Ct (Dy k)=true
 |0=>rfl
 |k+1=>by
  show(Bi (.lit true)&&Ct (Dy k))=true
  rw[Kd k];rfl
def Zez(R:List AV):List AV:=mk 57 [(12,.ptr 1 0),(13,.ptr 2 0),(15,.ptr 3 0),(24,.sl 2 R),(25,.int .i64 6),(26,.int .i64 ((2:Nat):Int)),(27,.bool (decide (((2:Nat):Int)<6))),(28,.at_ [.fn 67 [],Qr 80]),(29,.agg [.fn 67 [],Qr 80]),(30,.ptr 3 (0+0)),(31,.fn 67 []),(32,.ptr 2 0)]
def Zcd(q:Qn)(R:List AV)(us:List Value)(ms:List Nat)(ps:List Pt)(rr:Nat)(d:List Nat):List HO:=
 [.inv (sS (ps.map Pt.v) (Dy ps.length) rr d),.cells rsZ,.cells (q.c (.own 5 2 0 d.length) Cc 0),.cells [.fn 67 [],Qr 80],.ghost (Zez R) us ms,.arr 34 2 ((EL ps d).map Pt.v)]
theorem NT(q:Qn)(hq:q.ok):Aw Tryz.prog 14 [Zc q.F,E6 q.r,H7 q.l,.int .i64 q.day,Ff.A3 q.ls,.int .i64 q.Ao] (λr=>r=(An q.F q.r q.l q.day q.ls q.Ao).v):=by
 refine Aw.Ai Tryz.func14 rfl Ae (by kernel_rfl) ?_
 conv=>whnf
 refine Ac.Zai ?_;repeat(refine sT rfl ?_;conv=>whnf)
 refine cS (ZN) rfl ?_;conv=>whnf
 repeat(refine sT rfl ?_;conv=>whnf)
 obtain⟨M,hM⟩:∃M,M=B3 q.r q.day (readAll q.F q.ls) q.Ao:=⟨_,rfl⟩;obtain⟨c,hc⟩:∃c,c=AW q.l q.day (M.headD My):=⟨_,rfl⟩;have w1:∀k:Nat,k<6→Wr .i64 ((k:Int)+1)=((k+1:Nat):Int):=λk hk=>by rw[Cy _ _ (by unfold DF BD BV BC Bh;simp;omega)];rfl
 have hL:tO.length=6:=rfl;have g0:tO[0]?=some (.agg [.fn 64 [],Qr 1]):=rfl;have g1:tO[1]?=some (.agg [.fn 66 [],Qr 1]):=rfl;have g2:tO[2]?=some (.agg [.fn 67 [],Qr 80]):=rfl;have g3:tO[3]?=some (.agg [.fn 68 [],.fn 69 []]):=rfl;have g4:tO[4]?=some (.agg [.fn 70 [],.fn 71 []]):=rfl;have g5:tO[5]?=some (.agg [.fn 72 [],Qr 3]):=rfl;generalize tO=R at*;refine Ac.AJ (λi:Nat=>mk 57 [(12,.ptr 1 0),(13,.ptr 2 0),(24,.sl 2 R),(25,.int .i64 6),(26,.int .i64 i)]) (λi=>[.inv oI,.cells rsZ,.cells (q.at_ M c.1 i)]) (ZgG q M c) (λi=>6-i) (λ_ _=>?_) ⟨0,?_⟩ (λ_=>rfl) λi hi=>?_
 ·refine⟨rfl,?_⟩;conv=>whnf
  refine⟨rfl,?_,trivial⟩;unfold Qn.at_;split;·rfl
  ·split<;>rfl
 ·conv=>whnf
  repeat(refine AR ?_ ?_;(focus (first|rfl|(simp;done)|(rw[hL];rfl;done)));conv=>whnf)
  exact⟨by omega,λh=>by omega,λh=>by omega,λh=>by omega,λh=>by omega,λh=>by omega,λh=>by omega⟩
 ·have hle:=hi.le;repeat(refine sT rfl ?_;conv=>whnf)
  refine⟨λh=>?_,λh=>?_⟩
  ·have h:i<6:=by have:=of_decide_eq_true h;omega
   rcases (show i=0∨i=1∨i=2∨i=3∨i=4∨i=5 by omega)with rfl|rfl|rfl|rfl|rfl|rfl
   ·conv=>whnf
    repeat(refine sT rfl ?_;conv=>whnf)
    refine⟨by omega,_,g0,?_⟩
    conv=>whnf
    repeat(refine sT rfl ?_;conv=>whnf)
    refine Ak.K4 (Zi q hq) (Jp.ptr (l:=2) rfl rfl trivial) λr hr=>?_
    subst hr;refine⟨.inl rfl,?_⟩;conv=>whnf
    repeat(refine sT rfl ?_;conv=>whnf)
    refine⟨λhb=>?_,λhb=>?_⟩
    ·have e:An q.F q.r q.l q.day q.ls q.Ao=Ii 1:=by unfold An;rw[hb];rfl
     rw[e];conv=>whnf
     repeat(refine sT rfl ?_;conv=>whnf)
     refine Ak.inline Tryz.func103 rfl Ae (by kernel_rfl) λus ms=>?_
     conv=>whnf
     repeat(refine sT rfl ?_;conv=>whnf)
     refine⟨⟨rfl,rfl⟩,?_⟩;conv=>whnf
     repeat(refine sT rfl ?_;conv=>whnf)
     refine⟨2,?_⟩;conv=>whnf
     refine⟨2,?_⟩;rfl
    ·have hb:=hb;conv=>whnf
     repeat(refine sT rfl ?_;conv=>whnf)
     refine⟨1,?_⟩;conv=>whnf
     repeat(refine AR ?_ ?_;(focus (first|rfl|(simp;done)|(exact w1 _ (by decide);done)));conv=>whnf)
     exact⟨⟨by omega,λ_=>hb,λh=>by omega,λh=>by omega,λh=>by omega,λh=>by omega,λh=>by omega⟩,by omega⟩
   ·conv=>whnf
    repeat(refine sT rfl ?_;conv=>whnf)
    refine⟨by omega,_,g1,?_⟩
    conv=>whnf
    repeat(refine sT rfl ?_;conv=>whnf)
    refine Ak.K4 (WO q hq) (Jp.ptr (l:=2) rfl rfl trivial) λr hr=>?_
    subst hr;refine⟨.inl rfl,?_⟩;conv=>whnf
    repeat(refine sT rfl ?_;conv=>whnf)
    refine⟨λhb=>?_,λhb=>?_⟩
    ·have hb:=of_decide_eq_true hb;have e:An q.F q.r q.l q.day q.ls q.Ao=Ii 1:=by unfold An;rw[hi.a1 (by omega),hb];rfl
     rw[e];conv=>whnf
     repeat(refine sT rfl ?_;conv=>whnf)
     refine Ak.inline Tryz.func103 rfl Ae (by kernel_rfl) λus ms=>?_
     conv=>whnf
     repeat(refine sT rfl ?_;conv=>whnf)
     refine⟨⟨rfl,rfl⟩,?_⟩;conv=>whnf
     repeat(refine sT rfl ?_;conv=>whnf)
     refine⟨2,?_⟩;conv=>whnf
     refine⟨2,?_⟩;rfl
    ·have hb:=of_decide_eq_false hb;conv=>whnf
     repeat(refine sT rfl ?_;conv=>whnf)
     refine⟨2,?_⟩;conv=>whnf
     repeat(refine AR ?_ ?_;(focus (first|rfl|(simp;done)|(exact w1 _ (by decide);done)));conv=>whnf)
     exact⟨⟨by omega,λ_=>hi.a1 (by omega),λ_=>hb,λh=>by omega,λh=>by omega,λh=>by omega,λh=>by omega⟩,by omega⟩
   ·have hR:An q.F q.r q.l q.day q.ls q.Ao=DS q.r q.l q.day M:=by unfold An;rw[hi.a1 (by omega),if_neg (hi.a2 (by omega)),hM];rfl
    conv=>whnf
    repeat(refine sT rfl ?_;conv=>whnf)
    refine⟨by omega,_,g2,?_⟩
    conv=>whnf
    repeat(refine sT rfl ?_;conv=>whnf)
    refine Ak.inline Tryz.func67 rfl Ae (by kernel_rfl) λus ms=>?_
    conv=>whnf
    repeat(refine sT rfl ?_;conv=>whnf)
    have hR0:=hi.a1 (by omega)
    have yJ:0≤q.Ao∧q.Ao≤6:=Zj hR0;refine Ak.K4 (cE q hq) (Jp.ptr (l:=2) rfl rfl trivial) λr hr=>?_
    obtain⟨ps,rfl,hn,hp⟩:=hr;refine⟨.inr ⟨_,_,rfl,R5 ps,Kd _⟩,?_⟩;conv=>whnf
    iterate 2 (refine sT rfl ?_;conv=>whnf)
    refine Ac.zQ [1] Ae ?_;conv=>whnf
    obtain⟨k1,k2⟩:=eH q hq hn (.inl hp);refine⟨by rw[Aq];omega,?_⟩
    conv=>whnf
    repeat(refine sT rfl ?_;conv=>whnf)
    refine⟨λhe=>?_,λhe=>?_⟩
    ·have he:ps=[]:=by simpa using he
     have hex:DQ q.r q.day (readAll q.F q.ls)=[]:=C1.2 λp hp'=>by have:=(hp p).2 hp';rw[he]at this;cases this
     subst he;clear hn hp k1 k2;conv=>whnf
     repeat(refine sT rfl ?_;conv=>whnf)
     refine Ak.K4 (VQ q hq yJ.1 yJ.2) (Jp.ptr (l:=2) rfl rfl trivial) λr hr=>?_
     obtain⟨ps,rfl,hn,hp⟩:=hr;obtain⟨k1,k2⟩:=eH q hq hn (.inr hp);refine⟨.inr ⟨_,_,rfl,R5 ps,Kd _⟩,?_⟩;have hp:∀p,p∈ps↔p∈M:=λp=>by rw[hp,hM];unfold B3;rw[Ip,if_pos hex]
     conv=>whnf
     refine Ac.Gv 2 6 34 2 rfl rfl ?_;conv=>whnf
     iterate 2 (refine sT rfl ?_;conv=>whnf)
     refine Ac.Ex [1] Ae ?_;conv=>whnf
     refine⟨⟨R5 _,Kd _⟩,rfl,λrr=>?_⟩
     conv=>whnf
     repeat(refine sT rfl ?_;conv=>whnf)
     refine Ac.AJ (λd:List Nat=>mk 39 [(0,.ptr 2 0),(2,.lit false),(13,.raw (wrP rr))]) (Zcd q R us ms ps rr) (λd=>d.Nodup∧∀i∈d,i<ps.length) (λd=>ps.length-d.length) (λ_ _=>?_) ⟨[],?_⟩ (λ_=>rfl) λd hd=>?_
     ·refine⟨rfl,?_⟩;conv=>whnf
      exact⟨rfl,rfl,rfl,rfl,Di _,trivial⟩
     ·conv=>whnf
      repeat(refine AR ?_ ?_;(focus (first|rfl|(simp;done)));conv=>whnf)
      exact λi hi=>(by cases hi)
     ·obtain⟨Wd,vP⟩:=hd;iterate 1 (refine sT rfl ?_;conv=>whnf)
      refine Ac.Ex [0] Ae ?_;conv=>whnf
      refine⟨_,_,rr,d,rfl,rfl,λhe=>?_,λi k v hi hk hv=>?_⟩
      ·have he:d.length=ps.length:=by rw[he,Aq]
       conv=>whnf
       repeat(refine sT rfl ?_;conv=>whnf)
       refine Ak.aJ 5 (LJ (EL ps d) d.length (by unfold EL;rw[Aq]) (by unfold EL;rw[Aq];omega)) rfl rfl (Di _) λr Cf hr _=>?_
       obtain⟨rfl,l',rfl,pT,hso⟩:=hr
       have pT:=pT.trans (UG hn Wd vP he)
       obtain rfl:l'=M:=KQ (Uk pT hn hso) (by rw[hM];exact I6 _ _ _ _) λp=>by rw[pT.mem_iff,hp]
       refine⟨rfl,?_⟩
       conv=>whnf
       repeat(refine sT rfl ?_;conv=>whnf)
       refine⟨⟨rfl,rfl⟩,?_⟩
       conv=>whnf
       repeat(refine sT rfl ?_;conv=>whnf)
       have hlM:l'.length=d.length:=by rw[pT.length_eq,he]
       refine⟨λhb=>?_,λhb=>?_⟩
       ·have hb:l'=[]:=by
         have:=of_decide_eq_true hb
         exact Ec.1 (by omega)
        have e:DS q.r q.l q.day l'=Ii 80:=by rw[hb];rfl
        rw[hR,e]
        conv=>whnf
        repeat(refine sT rfl ?_;conv=>whnf)
        refine Ak.inline Tryz.func103 rfl Ae (by kernel_rfl) λus2 Tk=>?_
        conv=>whnf
        repeat(refine sT rfl ?_;conv=>whnf)
        refine⟨⟨rfl,rfl⟩,?_⟩
        conv=>whnf
        repeat(refine sT rfl ?_;conv=>whnf)
        refine⟨2,?_⟩
        conv=>whnf
        refine⟨2,?_⟩
        rfl
       ·have hb:l'≠[]:=λh=>by
         have:=of_decide_eq_false hb;rw[h]at hlM
         exact this (by simpa using hlM.symm)
        conv=>whnf
        rw[←hlM]
        refine Ac.Nn rfl ?_
        conv=>whnf
        refine Ac.freeze 5 ?_
        conv=>whnf
        refine⟨Di _,?_⟩
        conv=>whnf
        repeat(refine⟨(by first|rfl|(simp;done):(_:Nat)=_),?_⟩;conv=>whnf)
        conv=>whnf
        repeat(refine sT rfl ?_;conv=>whnf)
        refine⟨3,?_⟩
        conv=>whnf
        repeat(refine AR ?_ ?_;(focus (first|rfl|(simp;done)|(exact w1 _ (by decide);done)));conv=>whnf)
        exact⟨⟨by omega,λ_=>hi.a1 (by omega),λ_=>hi.a2 (by omega),λ_=>hb,λh=>by omega,λh=>by omega,λh=>by omega⟩,by omega⟩
      ·have Yl:i<ps.length:=by have:=(Cu.1 hk).1;simpa using this
       obtain rfl:k=ps[i].v:=by rw[CL,AZ Yl]at hk;exact(D0.inj hk).symm
       obtain rfl:=N6 hv
       conv=>whnf
       iterate 5 (refine sT rfl ?_;conv=>whnf)
       refine Ac.Ex [0] Ae ?_
       conv=>whnf
       refine⟨_,_,rr,d,i,_,_,rfl,rfl,hk,hv,?_⟩
       conv=>whnf
       repeat(refine sT rfl ?_;conv=>whnf)
       refine Ac.P0 [] [7,10] Ae mO (by kernel_rfl) ?_
       conv=>whnf
       refine⟨rfl,?_⟩
       conv=>whnf
       have Zfq:d.length≤ps.length:=by
        have:=FU Wd (m:=E1 ps.length) λx hx=>Dt.2 (vP x hx)
        simpa using this
       refine⟨⟨by unfold EL;simp,by rw[Ba,Aq];unfold EL;rw[Aq];show(d.length+1)*16≤_;omega⟩,?_⟩
       conv=>whnf
       repeat(refine sT rfl ?_;conv=>whnf)
       refine⟨d++[i],?_⟩
       have Y7:(EL ps (d++[i])).map Pt.v=(EL ps d).map Pt.v++[ps[i].v]:=by
        unfold EL;rw[CW,CW,Cm,Cm,B7,AZ Yl]
        rfl
       have hln:((EL ps d).map Pt.v++[ps[i].v]).length=(d++[i]).length:=by rw[Ba,Ba,Aq];unfold EL;rw[Aq];rfl
       conv=>whnf
       repeat(refine AR ?_ ?_;(focus (first|rfl|(simp;done)));conv=>whnf)
       refine⟨?_,?_⟩
       ·show HO.cells (q.c (.own 5 2 0 ((EL ps d).map Pt.v++[ps[i].v]).length) Cc 0)=_
        rw[hln]
       conv=>whnf
       repeat(refine AR ?_ ?_;(focus (first|rfl|(simp;done)));conv=>whnf)
       refine⟨?_,?_⟩
       ·rw[Y7]
        rfl
       conv=>whnf
       have lS:(d++[i]).Nodup:=DG.2 ⟨Wd,by simp,λx hx y hy=>by rw[AO.1 hy];exact λe=>hi (e▸hx)⟩
       have vO:∀x∈d++[i],x<ps.length:=λx hx=>by
        rcases Bq.1 hx with hx|hx;·exact vP x hx
        ·rw[AO.1 hx];exact Yl
       have ZaP:(d++[i]).length≤ps.length:=by
        have:=FU lS (m:=E1 ps.length) λx hx=>Dt.2 (vO x hx)
        simpa using this
       rw[Ba,CX]at ZaP
       first|exact⟨⟨lS,vO⟩,by rw[Ba,CX];omega⟩
    ·have he:ps≠[]:=by simpa using he
     have hex:DQ q.r q.day (readAll q.F q.ls)≠[]:=λh=>he (C1.2 λp hp'=>by have:=(hp p).1 hp';rw[h]at this;cases this)
     have hp:∀p,p∈ps↔p∈M:=λp=>by rw[hp,hM];unfold B3;rw[Ip,if_neg hex]
     conv=>whnf
     refine Ac.Gv 2 6 34 2 rfl rfl ?_;conv=>whnf
     iterate 3 (refine sT rfl ?_;conv=>whnf)
     refine Ac.Ex [1] Ae ?_;conv=>whnf
     refine⟨⟨R5 _,Kd _⟩,rfl,λrr=>?_⟩
     conv=>whnf
     repeat(refine sT rfl ?_;conv=>whnf)
     refine Ac.AJ (λd:List Nat=>mk 39 [(0,.ptr 2 0),(2,.lit false),(13,.raw (wrP rr))]) (Zcd q R us ms ps rr) (λd=>d.Nodup∧∀i∈d,i<ps.length) (λd=>ps.length-d.length) (λ_ _=>?_) ⟨[],?_⟩ (λ_=>rfl) λd hd=>?_
     ·refine⟨rfl,?_⟩;conv=>whnf
      exact⟨rfl,rfl,rfl,rfl,Di _,trivial⟩
     ·conv=>whnf
      repeat(refine AR ?_ ?_;(focus (first|rfl|(simp;done)));conv=>whnf)
      exact λi hi=>(by cases hi)
     ·obtain⟨Wd,vP⟩:=hd;iterate 1 (refine sT rfl ?_;conv=>whnf)
      refine Ac.Ex [0] Ae ?_;conv=>whnf
      refine⟨_,_,rr,d,rfl,rfl,λhe=>?_,λi k v hi hk hv=>?_⟩
      ·have he:d.length=ps.length:=by rw[he,Aq]
       conv=>whnf
       repeat(refine sT rfl ?_;conv=>whnf)
       refine Ak.aJ 5 (LJ (EL ps d) d.length (by unfold EL;rw[Aq]) (by unfold EL;rw[Aq];omega)) rfl rfl (Di _) λr Cf hr _=>?_
       obtain⟨rfl,l',rfl,pT,hso⟩:=hr
       have pT:=pT.trans (UG hn Wd vP he)
       obtain rfl:l'=M:=KQ (Uk pT hn hso) (by rw[hM];exact I6 _ _ _ _) λp=>by rw[pT.mem_iff,hp]
       refine⟨rfl,?_⟩
       conv=>whnf
       repeat(refine sT rfl ?_;conv=>whnf)
       refine⟨⟨rfl,rfl⟩,?_⟩
       conv=>whnf
       repeat(refine sT rfl ?_;conv=>whnf)
       have hlM:l'.length=d.length:=by rw[pT.length_eq,he]
       refine⟨λhb=>?_,λhb=>?_⟩
       ·have hb:l'=[]:=by
         have:=of_decide_eq_true hb
         exact Ec.1 (by omega)
        have e:DS q.r q.l q.day l'=Ii 80:=by rw[hb];rfl
        rw[hR,e]
        conv=>whnf
        repeat(refine sT rfl ?_;conv=>whnf)
        refine Ak.inline Tryz.func103 rfl Ae (by kernel_rfl) λus2 Tk=>?_
        conv=>whnf
        repeat(refine sT rfl ?_;conv=>whnf)
        refine⟨⟨rfl,rfl⟩,?_⟩
        conv=>whnf
        repeat(refine sT rfl ?_;conv=>whnf)
        refine⟨2,?_⟩
        conv=>whnf
        refine⟨2,?_⟩
        rfl
       ·have hb:l'≠[]:=λh=>by
         have:=of_decide_eq_false hb;rw[h]at hlM
         exact this (by simpa using hlM.symm)
        conv=>whnf
        rw[←hlM]
        refine Ac.Nn rfl ?_
        conv=>whnf
        refine Ac.freeze 5 ?_
        conv=>whnf
        refine⟨Di _,?_⟩
        conv=>whnf
        repeat(refine⟨(by first|rfl|(simp;done):(_:Nat)=_),?_⟩;conv=>whnf)
        conv=>whnf
        repeat(refine sT rfl ?_;conv=>whnf)
        refine⟨3,?_⟩
        conv=>whnf
        repeat(refine AR ?_ ?_;(focus (first|rfl|(simp;done)|(exact w1 _ (by decide);done)));conv=>whnf)
        exact⟨⟨by omega,λ_=>hi.a1 (by omega),λ_=>hi.a2 (by omega),λ_=>hb,λh=>by omega,λh=>by omega,λh=>by omega⟩,by omega⟩
      ·have Yl:i<ps.length:=by have:=(Cu.1 hk).1;simpa using this
       obtain rfl:k=ps[i].v:=by rw[CL,AZ Yl]at hk;exact(D0.inj hk).symm
       obtain rfl:=N6 hv
       conv=>whnf
       iterate 5 (refine sT rfl ?_;conv=>whnf)
       refine Ac.Ex [0] Ae ?_
       conv=>whnf
       refine⟨_,_,rr,d,i,_,_,rfl,rfl,hk,hv,?_⟩
       conv=>whnf
       repeat(refine sT rfl ?_;conv=>whnf)
       refine Ac.P0 [] [7,10] Ae mO (by kernel_rfl) ?_
       conv=>whnf
       refine⟨rfl,?_⟩
       conv=>whnf
       have Zfq:d.length≤ps.length:=by
        have:=FU Wd (m:=E1 ps.length) λx hx=>Dt.2 (vP x hx)
        simpa using this
       refine⟨⟨by unfold EL;simp,by rw[Ba,Aq];unfold EL;rw[Aq];show(d.length+1)*16≤_;omega⟩,?_⟩
       conv=>whnf
       repeat(refine sT rfl ?_;conv=>whnf)
       refine⟨d++[i],?_⟩
       have Y7:(EL ps (d++[i])).map Pt.v=(EL ps d).map Pt.v++[ps[i].v]:=by
        unfold EL;rw[CW,CW,Cm,Cm,B7,AZ Yl]
        rfl
       have hln:((EL ps d).map Pt.v++[ps[i].v]).length=(d++[i]).length:=by rw[Ba,Ba,Aq];unfold EL;rw[Aq];rfl
       conv=>whnf
       repeat(refine AR ?_ ?_;(focus (first|rfl|(simp;done)));conv=>whnf)
       refine⟨?_,?_⟩
       ·show HO.cells (q.c (.own 5 2 0 ((EL ps d).map Pt.v++[ps[i].v]).length) Cc 0)=_
        rw[hln]
       conv=>whnf
       repeat(refine AR ?_ ?_;(focus (first|rfl|(simp;done)));conv=>whnf)
       refine⟨?_,?_⟩
       ·rw[Y7]
        rfl
       conv=>whnf
       have lS:(d++[i]).Nodup:=DG.2 ⟨Wd,by simp,λx hx y hy=>by rw[AO.1 hy];exact λe=>hi (e▸hx)⟩
       have vO:∀x∈d++[i],x<ps.length:=λx hx=>by
        rcases Bq.1 hx with hx|hx;·exact vP x hx
        ·rw[AO.1 hx];exact Yl
       have ZaP:(d++[i]).length≤ps.length:=by
        have:=FU lS (m:=E1 ps.length) λx hx=>Dt.2 (vO x hx)
        simpa using this
       rw[Ba,CX]at ZaP
       first|exact⟨⟨lS,vO⟩,by rw[Ba,CX];omega⟩
   ·have hR:An q.F q.r q.l q.day q.ls q.Ao=DS q.r q.l q.day M:=by unfold An;rw[hi.a1 (by omega),if_neg (hi.a2 (by omega)),hM];rfl
    conv=>whnf
    repeat(refine sT rfl ?_;conv=>whnf)
    refine⟨by omega,_,g3,?_⟩
    conv=>whnf
    repeat(refine sT rfl ?_;conv=>whnf)
    refine Ak.K4 (Vu q M) (Jp.ptr (l:=2) rfl rfl trivial) λr hr=>?_
    subst hr;refine⟨.inl rfl,?_⟩;conv=>whnf
    repeat(refine sT rfl ?_;conv=>whnf)
    refine⟨λhb=>?_,λhb=>?_⟩
    ·have hb:=of_decide_eq_true hb;have e:DS q.r q.l q.day M=⟨2,M,[],81⟩:=by unfold DS;rw[if_neg (hi.a3 (by omega)),if_pos hb]
     rw[hR,e];conv=>whnf
     repeat(refine sT rfl ?_;conv=>whnf)
     refine Ak.inline Tryz.func69 rfl Ae (by kernel_rfl) λus ms=>?_
     conv=>whnf
     repeat(refine sT rfl ?_;conv=>whnf)
     refine⟨⟨rfl,rfl⟩,?_⟩;conv=>whnf
     repeat(refine sT rfl ?_;conv=>whnf)
     refine⟨2,?_⟩;rfl
    ·have hb:=of_decide_eq_false hb;have hm:=List.length_pos_iff.2 (hi.a3 (by omega))
     conv=>whnf
     repeat(refine sT rfl ?_;conv=>whnf)
     refine⟨4,?_⟩;conv=>whnf
     repeat(refine AR ?_ ?_;(focus (first|rfl|(simp;done)|(exact w1 _ (by decide);done)));conv=>whnf)
     exact⟨⟨by omega,λ_=>hi.a1 (by omega),λ_=>hi.a2 (by omega),λ_=>hi.a3 (by omega),λ_=>by omega,λh=>by omega,λh=>by omega⟩,by omega⟩
   ·have hR:An q.F q.r q.l q.day q.ls q.Ao=DS q.r q.l q.day M:=by unfold An;rw[hi.a1 (by omega),if_neg (hi.a2 (by omega)),hM];rfl
    conv=>whnf
    repeat(refine sT rfl ?_;conv=>whnf)
    refine⟨by omega,_,g4,?_⟩
    conv=>whnf
    repeat(refine sT rfl ?_;conv=>whnf)
    refine Ak.inline Tryz.func70 rfl Ae (by kernel_rfl) λus ms=>?_
    conv=>whnf
    repeat(refine sT rfl ?_;conv=>whnf)
    refine Ac.NH [22,25] Ae mO (by kernel_rfl) ?_
    conv=>whnf
    have hm:=hi.a4 (by omega)
    have hm3:=hi.a3 (by omega)
    refine⟨by omega,(M.headD My).v,(by cases M with|nil=>exact absurd rfl hm3|cons x r=>rfl),?_⟩
    conv=>whnf
    refine⟨_,⟨Ks q.l q.day (M.headD My) hq.l,rfl⟩,?_⟩;conv=>whnf
    rw[←hc];conv=>whnf
    repeat(refine sT rfl ?_;conv=>whnf)
    refine⟨⟨rfl,rfl⟩,?_⟩;conv=>whnf
    repeat(refine sT rfl ?_;conv=>whnf)
    refine⟨λhb=>?_,λhb=>?_⟩
    ·have hb:c.2≠0:=by simpa using hb
     have e:DS q.r q.l q.day M=Ii c.2:=by
      unfold DS;rw[if_neg hm3,if_neg (by omega),←hc]
      simp only[hb,ne_eq,not_true_eq_false,not_false_eq_true,if_true,if_false]
     rw[hR,e];conv=>whnf
     repeat(refine sT rfl ?_;conv=>whnf)
     refine Ak.inline Tryz.func71 rfl Ae (by kernel_rfl) λus2 Tk=>?_
     conv=>whnf
     repeat(refine sT rfl ?_;conv=>whnf)
     refine cS (ES c.2) rfl ?_;conv=>whnf
     repeat(refine sT rfl ?_;conv=>whnf)
     refine Ak.inline Tryz.func103 rfl Ae (by kernel_rfl) λus3 jG=>?_
     conv=>whnf
     repeat(refine sT rfl ?_;conv=>whnf)
     refine⟨⟨rfl,rfl⟩,?_⟩;conv=>whnf
     repeat(refine sT rfl ?_;conv=>whnf)
     refine⟨⟨rfl,rfl⟩,?_⟩;conv=>whnf
     repeat(refine sT rfl ?_;conv=>whnf)
     refine⟨2,?_⟩;conv=>whnf
     refine⟨2,?_⟩;rfl
    ·have hb:c.2=0:=by simpa using hb
     conv=>whnf
     repeat(refine sT rfl ?_;conv=>whnf)
     refine⟨5,?_⟩;conv=>whnf
     repeat(refine AR ?_ ?_;(focus (first|rfl|(simp;done)|(exact w1 _ (by decide);done)));conv=>whnf)
     refine⟨?_,?_⟩;·rw[hb];rfl
     conv=>whnf
     repeat(refine AR ?_ ?_;(focus (first|rfl|(simp;done)));conv=>whnf)
     exact⟨⟨by omega,λ_=>hi.a1 (by omega),λ_=>hi.a2 (by omega),λ_=>hi.a3 (by omega),λ_=>hi.a4 (by omega),λ_=>hb,λh=>by omega⟩,by omega⟩
   ·have hR:An q.F q.r q.l q.day q.ls q.Ao=DS q.r q.l q.day M:=by unfold An;rw[hi.a1 (by omega),if_neg (hi.a2 (by omega)),hM];rfl
    have bT:=hi.a5 (by omega)
    rw[hc]at bT;have hlen:=HC bT;rw[←hc]at bT hlen;conv=>whnf
    repeat(refine sT rfl ?_;conv=>whnf)
    refine⟨by omega,_,g5,?_⟩
    conv=>whnf
    repeat(refine sT rfl ?_;conv=>whnf)
    refine Ak.K4 (kJ q M c.1 0 hlen.1 hlen.2) (Jp.ptr (l:=2) rfl rfl trivial) λr hr=>?_
    subst hr;refine⟨.inl rfl,?_⟩;conv=>whnf
    repeat(refine sT rfl ?_;conv=>whnf)
    refine⟨λhb=>?_,λhb=>?_⟩
    ·have hb:(Bm q.r q.day (FX c.1)).2≠0:=by simpa using hb
     have e:DS q.r q.l q.day M=Ii 3:=by
      unfold DS;rw[if_neg (hi.a3 (by omega)),if_neg (by have:=hi.a4 (by omega);omega),←hc]
      simp only[bT,hb,ne_eq,not_true_eq_false,not_false_eq_true,if_true,if_false]
     rw[hR,e];conv=>whnf
     repeat(refine sT rfl ?_;conv=>whnf)
     refine Ak.inline Tryz.func103 rfl Ae (by kernel_rfl) λus ms=>?_
     conv=>whnf
     repeat(refine sT rfl ?_;conv=>whnf)
     refine⟨⟨rfl,rfl⟩,?_⟩;conv=>whnf
     repeat(refine sT rfl ?_;conv=>whnf)
     refine⟨2,?_⟩;conv=>whnf
     refine⟨2,?_⟩;rfl
    ·have hb:(Bm q.r q.day (FX c.1)).2=0:=by simpa using hb
     conv=>whnf
     repeat(refine sT rfl ?_;conv=>whnf)
     refine⟨6,?_⟩;conv=>whnf
     repeat(refine AR ?_ ?_;(focus (first|rfl|(simp;done)|(exact w1 _ (by decide);done)));conv=>whnf)
     exact⟨⟨by omega,λ_=>hi.a1 (by omega),λ_=>hi.a2 (by omega),λ_=>hi.a3 (by omega),λ_=>hi.a4 (by omega),λ_=>hi.a5 (by omega),λ_=>hb⟩,by omega⟩
  ·have h:i=6:=by have:=of_decide_eq_false h;omega
   subst h;conv=>whnf
   repeat(refine sT rfl ?_;conv=>whnf)
   have bT:=hi.a5 (by omega)
   rw[hc]at bT;have hlen:=HC bT;rw[←hc]at bT hlen
   have e:An q.F q.r q.l q.day q.ls q.Ao=⟨1,[FX c.1],c.1,0⟩:=by
    unfold An;rw[hi.a1 (by omega),if_neg (hi.a2 (by omega)),←hM]
    show DS q.r q.l q.day M=_
    unfold DS;rw[if_neg (hi.a3 (by omega)),if_neg (by have:=hi.a4 (by omega);omega),←hc]
    simp only[bT,hi.a6 (by omega),ne_eq,not_true_eq_false,not_false_eq_true,if_true,if_false]
   rw[e]
   have hw:Wr .i64 (((c.1.map Pt.v).length:Int)-1)=((c.1.length-1:Nat):Int):=by
    rw[Aq,Cy _ _ (by unfold DF BD BV BC Bh;simp;omega)]
    omega
   refine Ac.P0 [12] [18] Ae mO (by kernel_rfl) ?_
   conv=>whnf
   rw[hw];refine⟨by omega,(FX c.1).v,by unfold FX;simp[show c.1.length-1<c.1.length by omega],?_⟩
   conv=>whnf
   repeat(refine sT rfl ?_;conv=>whnf)
   rfl
structure Of where
 na:Bs
 x1:Int
 x2:Int
 x3:Int
 x4:Int
 x5:Int
 co:List Bs
def Of.v(o:Of):AV:=.agg [.str o.na,.int .i64 o.x1,.int .i64 o.x2,.int .i64 o.x3,.int .i64 o.x4,.int .i64 o.x5,Ff.A3 o.co]
def V4{α:Type}(p:α→Bool)(l:List α):Int:=match l.findIdx? p with|some i=>i|none=>-1
theorem eZ{α:Type}{p:α→Bool}{l:List α}{k:Nat}(h:k<l.length)(hk:p l[k]=true)(hb:(l.take k).any p=false):V4 p l=k:=by
 have:l.findIdx? p=some k:=by
  rw[List.findIdx?_eq_some_iff_getElem];refine⟨h,hk,λj hj hp=>?_⟩
  have:(l.take k).any p=true:=Ed.2 ⟨l[j],List.mem_iff_getElem.2 ⟨j,by rw[List.length_take];omega,by rw[List.getElem_take]⟩,hp⟩
  rw[hb]at this;cases this
 unfold V4;rw[this]
theorem OJ{α:Type}{p:α→Bool}{l:List α}(hb:l.any p=false):V4 p l=-1:=by
 have:l.findIdx? p=none:=by
  rw[DC];exact λx hx=>by rw[List.any_eq_false]at hb;simpa using hb x hx
 unfold V4;rw[this]
theorem uZ{α:Type}(p:α→Bool)(l:List α):decide (0≤V4 p l)=l.any p:=by
 cases hb:l.any p with
 |false=>rw[OJ hb];rfl
 |true=>
  unfold V4;cases hi:l.findIdx? p with
  |none=>
   rw[DC]at hi;obtain⟨x,hx,hp⟩:=Ed.1 hb;rw[hi x hx]at hp;cases hp
  |some i=>simp
theorem WT{α:Type}{p:α→Bool}{l:List α}{k:Nat}(h:k<l.length)(hb:(l.take k).any p=false)(hk:p l[k]=false):(l.take (k+1)).any p=false:=by
 rw[Bc h,E4,hb];simpa using hk
theorem index_spec(l:List Bs)(t:Bs)(hl:l.length≤100000):Aw Tryz.prog 75 [Ff.A3 l,.str t] (λr=>r=.int .i64 (V4 (λx=>decide (x=t)) l)):=by
 refine Aw.Ai Tryz.func75 rfl Ae (by kernel_rfl) ?_
 conv=>whnf
 repeat(refine sT rfl ?_;conv=>whnf)
 refine Ac.AJ (λk:Nat=>mk 19 [(0,Ff.A3 l),(1,.str t),(6,Ff.A3 l),(7,.int .i64 l.length),(8,.int .i64 k)]) (λ_=>[]) (λk=>k≤l.length∧(l.take k).any (λx=>decide (x=t))=false) (λk=>l.length-k) (λ_ _=>⟨rfl,trivial⟩) ⟨0,?_⟩ (λ_=>rfl) λk hk=>?_
 ·conv=>whnf
  repeat(refine AR ?_ ?_;(focus (first|rfl|(simp;done)|(rw[Aq];done)));conv=>whnf)
  rfl
 ·obtain⟨hk,ha⟩:=hk;repeat(refine sT rfl ?_;conv=>whnf)
  refine⟨λh=>?_,λh=>?_⟩
  ·have h:k<l.length:=by simpa using h
   have Bj:Wr .i64 ((k:Int)+1)=((k+1:Nat):Int):=by rw[Cy _ _ (by unfold DF BD BV BC Bh;simp;omega)];rfl
   conv=>whnf
   repeat(refine sT rfl ?_;conv=>whnf)
   refine⟨by omega,.str l[k],by simp[h],?_⟩
   conv=>whnf
   repeat(refine sT rfl ?_;conv=>whnf)
   refine⟨λg=>?_,λg=>?_⟩
   ·rw[eZ h (by simpa using (by simpa using g:t=l[k]).symm) ha]
    conv=>whnf
    repeat(refine sT rfl ?_;conv=>whnf)
   ·have g:decide (l[k]=t)=false:=by
     have:¬t=l[k]:=by simpa using g
     exact decide_eq_false λe=>this e.symm
    conv=>whnf
    repeat(refine sT rfl ?_;conv=>whnf)
    refine⟨k+1,?_⟩;conv=>whnf
    repeat(refine AR ?_ ?_;(focus (first|rfl|(simp;done)|(first|exact Bj;done)));conv=>whnf)
    exact⟨⟨by omega,WT h ha g⟩,by omega⟩
  ·have h:k=l.length:=by simp at h;omega
   rw[h,Cb]at ha;rw[OJ ha];conv=>whnf
   repeat(refine sT rfl ?_;conv=>whnf)
theorem TZ(l:List Bs)(t:Bs)(hl:l.length≤100000):Aw Tryz.prog 42 [Ff.A3 l,.str t] (λr=>r=.bool (l.any λx=>decide (x=t))):=by
 refine Aw.Ai Tryz.func42 rfl Ae (by kernel_rfl) ?_
 conv=>whnf
 repeat(refine sT rfl ?_;conv=>whnf)
 refine cS (index_spec l t hl) rfl ?_;conv=>whnf
 repeat(refine sT rfl ?_;conv=>whnf)
 rw[uZ]
theorem TW(o:Of)(a:Ad)(hl:o.co.length≤100000):Aw Tryz.prog 41 [o.v,.at_ [.str a.pe,.str a.st,.int .i64 a.nu,.str a.co,.str a.tw]] (λr=>r=.bool (o.co.any λx=>decide (x=a.co))):=by
 refine Aw.Ai Tryz.func41 rfl Ae (by kernel_rfl) ?_
 conv=>whnf
 repeat(refine sT rfl ?_;conv=>whnf)
 refine cS (TZ o.co a.co hl) rfl ?_;conv=>whnf
 repeat(refine sT rfl ?_;conv=>whnf)
theorem X7(l:List Of)(a:Ad)(hl:l.length≤100000)(ho:∀o∈l,o.co.length≤100000):Aw Tryz.prog 40 [.sl 7 (l.map Of.v),.fn 41 [.at_ [.str a.pe,.str a.st,.int .i64 a.nu,.str a.co,.str a.tw]]] (λr=>r=.int .i64 (V4 (λo:Of=>o.co.any λx=>decide (x=a.co)) l)):=by
 refine Aw.Ai Tryz.func40 rfl Ae (by kernel_rfl) ?_
 conv=>whnf
 repeat(refine sT rfl ?_;conv=>whnf)
 refine Ac.AJ (λk:Nat=>mk 19 [(0,.sl 7 (l.map Of.v)),(1,.fn 41 [.at_ [.str a.pe,.str a.st,.int .i64 a.nu,.str a.co,.str a.tw]]),(6,.sl 7 (l.map Of.v)),(7,.int .i64 l.length),(8,.int .i64 k)]) (λ_=>[]) (λk=>k≤l.length∧(l.take k).any (λo:Of=>o.co.any λx=>decide (x=a.co))=false) (λk=>l.length-k) (λ_ _=>⟨rfl,trivial⟩) ⟨0,?_⟩ (λ_=>rfl) λk hk=>?_
 ·conv=>whnf
  repeat(refine AR ?_ ?_;(focus (first|rfl|(simp;done)|(rw[Aq];done)));conv=>whnf)
  rfl
 ·obtain⟨hk,ha⟩:=hk;repeat(refine sT rfl ?_;conv=>whnf)
  refine⟨λh=>?_,λh=>?_⟩
  ·have h:k<l.length:=by simpa using h
   have Bj:Wr .i64 ((k:Int)+1)=((k+1:Nat):Int):=by rw[Cy _ _ (by unfold DF BD BV BC Bh;simp;omega)];rfl
   conv=>whnf
   repeat(refine sT rfl ?_;conv=>whnf)
   refine⟨by omega,l[k].v,by simp[h],?_⟩
   conv=>whnf
   repeat(refine sT rfl ?_;conv=>whnf)
   refine cS (TW l[k] a (ho _ (Bv _))) rfl ?_;conv=>whnf
   repeat(refine sT rfl ?_;conv=>whnf)
   refine⟨λg=>?_,λg=>?_⟩
   ·rw[eZ h g ha];conv=>whnf
    repeat(refine sT rfl ?_;conv=>whnf)
   ·conv=>whnf
    repeat(refine sT rfl ?_;conv=>whnf)
    refine⟨k+1,?_⟩;conv=>whnf
    repeat(refine AR ?_ ?_;(focus (first|rfl|(simp;done)|(first|exact Bj;done)));conv=>whnf)
    exact⟨⟨by omega,WT h ha g⟩,by omega⟩
  ·have h:k=l.length:=by simp at h;omega
   rw[h,Cb]at ha;rw[OJ ha];conv=>whnf
   repeat(refine sT rfl ?_;conv=>whnf)
structure Nt where
 x1:List AV
 x2:List AV
 x3:List AV
 O:List Of
 x5:List AV
 x6:List AV
def Nt.v(n:Nt):AV:=.agg [.sl 3 n.x1,.sl 1 n.x2,.sl 1 n.x3,.sl 7 (n.O.map Of.v),.sl 6 n.x5,.sl 3 n.x6]
def ZdU(O:List Of)(r:List Ch)(day:Int)(p:Pt):Int:=if (Bm r day p).2≠0 then -1 else V4 (λo:Of=>o.co.any λx=>decide (x=(Bm r day p).1.co)) O
theorem NU(n:Nt)(r:List Ch)(day:Int)(p:Pt)(hl:n.O.length≤100000)(ho:∀o∈n.O,o.co.length≤100000):Aw Tryz.prog 21 [n.v,E6 r,.int .i64 day,p.v] (λx=>x=.int .i64 (ZdU n.O r day p)):=by
 refine Aw.Ai Tryz.func21 rfl Ae (by kernel_rfl) ?_
 conv=>whnf
 repeat(refine sT rfl ?_;conv=>whnf)
 refine cS (Rr.FD r day p) rfl ?_;conv=>whnf
 repeat(refine sT rfl ?_;conv=>whnf)
 unfold ZdU;refine⟨λh=>?_,λh=>?_⟩
 ·rw[if_pos (by simpa using h)]
  conv=>whnf
  repeat(refine sT rfl ?_;conv=>whnf)
 ·rw[if_neg (by simpa using h)]
  conv=>whnf
  repeat(refine sT rfl ?_;conv=>whnf)
  generalize (Bm r day p).1=a;refine Ak.QO (as':=[.sl 7 (n.O.map Of.v),.fn 41 [.at_ [.str a.pe,.str a.st,.int .i64 a.nu,.str a.co,.str a.tw]]]) ⟨gQ rfl,yZ ⟨mD rfl (CP _ rfl),trivial⟩,trivial⟩ (X7 n.O a hl ho) rfl ?_;conv=>whnf
  repeat(refine sT rfl ?_;conv=>whnf)
end Go.Proofs.YtdadkhcdoaeabaaGreatDoor