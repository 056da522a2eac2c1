/- Resolve: the readings. -/
import Derived.Test.YtdadkhcdoaeabaaGreatDoorQz
set_option linter.unusedVariables false
set_option maxRecDepth 100000
set_option linter.unusedSectionVars false
set_option linter.unusedSimpArgs false
open List renaming length_map → Af, mem_singleton → Ax, take_succ_eq_append_getElem → A0, getElem_mem → Bh, getElem?_eq_getElem → Bl, length_append → Bv, take_length → BW, mem_append → BY, getD_eq_getElem?_getD → C0, map_singleton → C1, getElem?_eq_some_iff → C2, getElem?_map → C3, length_filterMap_le → C4, length_cons → Ds, take_zero → DE, map_append → DG, length_singleton → D0, length_eq_zero_iff → Ef, eq_nil_iff_forall_not_mem → Eg, any_eq_true → El, all_eq_true → Eu, mem_of_getElem? → EI, mem_append_left → E1, flatMap_append → E2, pairwise_iff_getElem → E4, mem_range → E5, findIdx?_eq_none_iff → Fi, nodup_append → Fk, all_eq_false → Fl, mem_cons → FB, flatMap_singleton → FY, append_nil → F0, length_filter_le → Gs, all_append → Gt, nodup_nil → GK, length_zipIdx → GW, append_assoc → GZ, flatMap_cons → G0, range → G1, mem_flatMap → Hs, not_mem_nil → Hx, any_append → Hz, nodup_cons → HB
open And renaming intro → Bm
open Go.IntKind renaming signed → BI, bits → Cb, min → Cr, max → CL
open Nat renaming zero_le → BM, le_trans → G2
open Option renaming some → Fy
open Bool renaming and_eq_true → FX, and_false → HM
namespace Go.Proofs.YtdadkhcdoaeabaaGreatDoor
open Go.Av Go.Shelf Go.RowKit
open Rr.Pl (Pt Ad St Ch Bs Mv HT D5 KD)
open Rr (E6 Ar)
open Rr.Pl (CA AW)
def Vc(F:List Ff.Fm):AV:=.sl 2 (F.map Ff.Fm.v)
abbrev Cc:AV:=.raw (.slice none 0 0)
structure Qn where
 F:List Ff.Fm
 r:List Ch
 l:List Od
 day:Int
 ls:List Bs
 Ak:Int
def Qn.c(q:Qn)(ps ch:AV)(e:Int):List AV:=[Vc q.F,D5 q.r,Hr q.l,.int .i64 q.day,Ff.AQ q.ls,.int .i64 q.Ak,ps,ch,.int .i64 e]
structure Qn.ok(q:Qn):Prop where
 f:∀f∈q.F,Ff.QO f
 n:q.F.length<=1000
 l:q.l.length<=100000
 s:∀f∈q.F,q.ls.length<=1000
 s2:∀f∈q.F,∀l∈q.ls,l.length<=1000
def Zhn(q:Qn)(ps ch:AV)(e:Int):List AV:=[.at_ [.at_ (q.c ps ch e)]]
theorem IE(q:Qn)(ps ch:AV)(e:Int):AO Tryz.prog 104 [.at_ (q.c ps ch e)] (λr=>r=.fn 134 (Zhn q ps ch e)):=by
 refine kB Tryz.func104 rfl ?_;rfl
theorem JL(F:List Ff.Fm)(ls:List Bs)(i:Nat)(h:i<F.length):readAll (F.take (i+1)) ls=readAll (F.take i) ls++(if (Ff.Br F[i] ls).2=0 then (Ff.Br F[i] ls).1.map adR else []):=by
 unfold readAll;rw[A0 h,E2,FY]
theorem Zm(F:List Ff.Fm)(ls:List Bs)(i:Nat)(h:i<F.length)(h0:(Ff.Br F[i] ls).2=0)(j:Nat)(hj:j<(Ff.Br F[i] ls).1.length):
  ((readAll F ls).map λa=>[a.v])[(readAll (F.take i) ls).length+j]?=some [(Ff.Br F[i] ls).1[j].v]:=by
 have e:readAll F ls=readAll (F.take (i+1)) ls++readAll (F.drop (i+1)) ls:=by unfold readAll;rw[<-E2,List.take_append_drop]
 rw[C3,e,JL F ls i h,if_pos h0,GZ,List.getElem?_append_right (by omega),List.getElem?_append_left (by rw[Af];omega),show(readAll (F.take i) ls).length+j-(readAll (F.take i) ls).length=j by omega,C3,Bl hj]
 rfl
theorem P9(f:Ff.Fm)(ls:List Bs):(Ff.Br f ls).1.length<=16:=by
 unfold Ff.Br;split
 ·rename_i h;split
  ·split
   ·obtain⟨h1,h2,h3⟩:=Ff.MW h;exact Ff.Wn h1 h2 _ _
   ·exact BM _
  ·exact BM _
 ·exact BM _
theorem JK(q:Qn)(hq:q.ok)(e:Int):Its Tryz.prog 134 (Zhn q Cc Cc e) ((readAll q.F q.ls).map λa=>[a.v]) True:=by
 refine Its.A3 Tryz.func134 rfl Ag (by kernel_rfl) rfl λy I Ix _ hy=>?_
 have hy':∀(k:Nat)(x:List AV),((readAll q.F q.ls).map λa=>[a.v])[k]?=some x->U7 Tryz.prog (.func (.yield y) #[] #[]) x (I k) (I (k+1)) Ix:=hy
 clear hy;refine kW ?_;refine Aa.Aw (λi:Nat=>mk 41 [(0,.raw (.func (.yield y) #[] #[])),(1,.at_ [.at_ (q.c Cc Cc e)]),(12,.sl 2 (q.F.map Ff.Fm.v)),(13,.int .i64 q.F.length),(14,.int .i64 i)]) (λi=>[.inv (I (readAll (q.F.take i) q.ls).length)]) (λi=>i<=q.F.length) (λi=>q.F.length-i) (λ_ _=>⟨rfl,trivial⟩) ⟨0,?_⟩ (λ_=>rfl) λi hi=>?_
 ·refine kQ ?_;first|exact BM _|exact⟨rfl,BM _⟩
 ·refine kR ?_;refine⟨λh=>?_,λh=>?_⟩
  ·have h:i<q.F.length:=by have:=of_decide_eq_true h;omega
   refine kW ?_;refine⟨by omega,q.F[i].v,by simp[h],?_⟩
   refine kW ?_;refine Aa.draw [] Ag mO (by kernel_rfl) ?_
   conv=>whnf
   refine⟨_,⟨Ff.JO q.F[i] q.ls (hq.f _ (Bh _)) (hq.s _ (Bh h)) (hq.s2 _ (Bh h)),rfl⟩,?_⟩;conv=>whnf
   refine kR ?_;have Qs:=P9 q.F[i] q.ls;have Ql:=JL q.F q.ls i h;have CM:=Zm q.F q.ls i h;refine⟨λh0=>?_,λh0=>?_⟩
   ·rw[if_neg (by simpa using h0),F0]at Ql
    refine kW ?_;refine⟨i+1,?_⟩;conv=>whnf
    repeat(refine Bm ?_ ?_;(focus (first|rfl|(simp;done)|(rw[DI _ _ (by have:=hq.n;unfold DJ Cr CL Cb BI;simp;omega)];rfl;done)));conv=>whnf)
    rw[Ql];first|exact⟨rfl,⟨by omega,by omega⟩⟩|exact⟨by omega,by omega⟩
   ·rw[if_pos (by simpa using h0)]at Ql
    replace CM:=CM (by simpa using h0)
    generalize (Ff.Br q.F[i] q.ls).1=A at*;refine kW ?_;refine Aa.Aw (λj:Nat=>mk 41 [(0,.raw (.func (.yield y) #[] #[])),(1,.at_ [.at_ (q.c Cc Cc e)]),(12,.sl 2 (q.F.map Ff.Fm.v)),(13,.int .i64 q.F.length),(14,.int .i64 i),(29,.sl 5 (A.map Ff.Ad.v)),(30,.int .i64 A.length),(31,.int .i64 j)]) (λj=>[.inv (I ((readAll (q.F.take i) q.ls).length+j)),.cells [.str q.F[i].name,.sl 1 (q.F[i].lines.map Ff.CP)]]++List.replicate 11 .dead) (λj=>j<=A.length) (λj=>A.length-j) (λ_ _=>?_) ⟨0,?_⟩ (λ_=>rfl) λj hj=>?_
    ·exact⟨rfl,by(conv=>whnf);first|trivial|exact⟨rfl,trivial⟩⟩
    ·refine kQ ?_;first|exact⟨rfl,BM _⟩|exact BM _
    ·refine kR ?_;refine⟨λh=>?_,λh=>?_⟩
     ·have h:j<A.length:=by have:=of_decide_eq_true h;omega
      refine kW ?_;refine⟨by omega,A[j].v,by simp[h],?_⟩
      refine kW ?_;refine⟨rfl,I ((readAll (q.F.take i) q.ls).length+j+1),Ix,hy' _ _ (CM j h),?_,?_⟩
      ·refine kW ?_
       refine⟨j+1,?_⟩
       conv=>whnf
       repeat(refine Bm ?_ ?_;(focus (first|rfl|(simp;done)|(rw[DI _ _ (by unfold DJ Cr CL Cb BI;simp;omega)];rfl;done)));conv=>whnf)
       first|exact⟨rfl,⟨by omega,by omega⟩⟩|exact⟨by omega,by omega⟩
      ·refine kW ?_
       exact .inr rfl
     ·have h:j=A.length:=by have:=of_decide_eq_false h;omega
      refine kW ?_;refine⟨i+1,?_⟩;conv=>whnf
      repeat(refine Bm ?_ ?_;(focus (first|rfl|(simp;done)|(rw[DI _ _ (by have:=hq.n;unfold DJ Cr CL Cb BI;simp;omega)];rfl;done)));conv=>whnf)
      rw[Ql,Bv,Af,h];first|exact⟨rfl,⟨by omega,by omega⟩⟩|exact⟨by omega,by omega⟩
  ·have h:i=q.F.length:=by have:=of_decide_eq_false h;omega
   refine kW ?_;exact .inl (by rw[h,Af,BW])
theorem YL(q:Qn)(hq:q.ok):AO Tryz.prog 66 [.at_ (q.c Cc Cc 0)] (λr=>r=.bool (decide (readAll q.F q.ls=[]))):=by
 refine kB Tryz.func66 rfl ?_;refine kC (IE q Cc Cc 0) ?_;have VE:=JK q hq 0;generalize readAll q.F q.ls=A at*
 refine Aa.JM (E0:=mk 6 [(0,.at_ (q.c Cc Cc 0)),(2,.ptr 0 0)]) (xs:=A.map λa=>[a.v]) (Yr ?_) rfl rfl VE rfl (λvs _ (_:Unit)=>[.cells [.lit false]]++[.ghost (mk 6 [(0,.at_ (q.c Cc Cc 0)),(2,.ptr 0 0)]) vs []]) (λk _=>k=0) () rfl (λ_ e H=>A≠[]/\e=.ret/\H.take 1=[.cells [.lit false]]) (λvs=>rfl)
  (λvs k _ _=>⟨rfl,rfl,by(conv=>whnf);exact⟨rfl,rfl,trivial⟩⟩) (λvs k _ x _ hx=>?_) (λh=>(h trivial).elim) (λvs _ h=>?_) (λvs e H h=>?_)
 ·conv=>whnf
  repeat first|exact trivial|(refine⟨rfl,?_⟩;conv=>whnf)
 ·have hA:A≠[]:=λh=>by rw[h]at hx;cases hx
  obtain⟨a,_,rfl⟩:=List.mem_map.1 (EI hx);refine⟨rfl,?_⟩;refine kW ?_;exact⟨⟨_,rfl⟩,⟨hA,rfl,rfl⟩,rfl,rfl⟩
 ·rw[Af,Ef]at h;subst h;refine kW ?_;rfl
 ·obtain⟨h1,rfl,h2⟩:=h;cases H with
  |nil=>cases h2
  |cons y r=>
   obtain rfl:y=.cells [.lit false]:=(List.cons.inj h2).1;refine kW ?_;rw[decide_eq_false h1]
theorem Xi(q:Qn)(ps:List Pt):AO Tryz.prog 68 [.at_ (q.c (Tv ps) Cc 0)] (λr=>r=.bool (decide (1<ps.length))):=by
 refine kB Tryz.func68 rfl ?_;rw[Af];congr 1;exact decide_eq_decide.2 (by omega)
theorem pL(q:Qn)(ps c:List Pt)(e:Int)(h1:0<c.length)(h5:c.length<=5):AO Tryz.prog 72 [.at_ (q.c (Tv ps) (Tv c) e)] (λr=>r=.bool (!decide ((AW q.r q.day (Gr c)).2=0))):=by
 refine kB Tryz.func72 rfl ?_;refine Aa.Pe [25] Ag mO (by kernel_rfl) ?_
 conv=>whnf
 have hw:Wr .i64 (((c.map Pt.v).length:Int)-1)=((c.length-1:Nat):Int):=by
  rw[Af,DI _ _ (by unfold DJ Cr CL Cb BI;simp;omega)]
  omega
 rw[hw];refine⟨by omega,(Gr c).v,by unfold Gr;simp[show c.length-1<c.length by omega],?_⟩
 conv=>whnf
 refine⟨_,⟨Rr.Dx q.r q.day (Gr c),rfl⟩,?_⟩;conv=>whnf
 exact GA
theorem cN(q:Qn)(hq:q.ok):AO Tryz.prog 64 [.at_ (q.c Cc Cc 0)] (λr=>r=.bool (IA q.F q.r q.l q.day q.Ak)):=by
 refine kB Tryz.func64 rfl ?_;rw[Af];repeat' (first|(refine Bm (λ_=>?_) (λ_=>?_)<;>conv=>whnf)|refine Dd ?_|fail)
 any_goals (unfold IA;simp_all;done)
 case refine_2=>
  rename_i h;unfold IA;rw[decide_eq_true (by have:=of_decide_eq_true h;omega:8<q.F.length)]
  rfl
 rename_i g1 g2 g3 g4 g5;have hn:q.F.length<=8:=by have:=of_decide_eq_false g1;omega
 have hwr:IA q.F q.r q.l q.day q.Ak=(q.F.any (λf=>!Ff.A1 f)||!Ar q.r||!B1 q.l):=by
  unfold IA;rw[decide_eq_false (by omega),g2,g3,g4,g5]
  rfl
 rw[hwr];clear g1 g2 g3 g4 g5;refine Aa.Aw (λi:Nat=>mk 72 [(0,.at_ (q.c Cc Cc 0)),(44,.sl 2 (q.F.map Ff.Fm.v)),(45,.int .i64 q.F.length),(46,.int .i64 i)]) (λi=>[]) (λi=>i<=q.F.length/\(q.F.take i).any (λf=>!Ff.A1 f)=false) (λi=>q.F.length-i) (λ_ _=>⟨rfl,trivial⟩) ⟨0,?_⟩ (λ_=>rfl) λi hi=>?_
 ·conv=>whnf
  repeat(refine Bm ?_ ?_;(focus (first|rfl|(simp;done)|(rw[Af];done)));conv=>whnf)
  rw[DE];rfl
 ·obtain⟨hi,ZdT⟩:=hi;refine kR ?_;refine⟨λh=>?_,λh=>?_⟩
  ·have h:i<q.F.length:=by have:=of_decide_eq_true h;omega
   refine kW ?_;refine⟨by omega,q.F[i].v,by simp[h],?_⟩
   refine kW ?_;refine kC (Ff.Ct q.F[i] (hq.f _ (Bh _)).n (hq.f _ (Bh _)).t (hq.f _ (Bh _)).l (hq.f _ (Bh _)).l2) ?_;refine⟨λhv=>?_,λhv=>?_⟩
   ·refine kW ?_;rw[El.2 ⟨q.F[i],Bh _,hv⟩];rfl
   ·refine kW ?_;refine⟨i+1,?_⟩;conv=>whnf
    repeat(refine Bm ?_ ?_;(focus (first|rfl|(simp;done)|(rw[DI _ _ (by unfold DJ Cr CL Cb BI;simp;omega)];rfl;done)));conv=>whnf)
    have Zck:((q.F.take (i+1)).any λf=>!Ff.A1 f)=false:=by rw[A0 h,Hz,ZdT];simpa using hv
    first|exact⟨by omega,Zck,by omega⟩|exact⟨⟨by omega,Zck⟩,by omega⟩
  ·have h:i=q.F.length:=by have:=of_decide_eq_false h;omega
   rw[h,BW]at ZdT;rw[ZdT];refine kW ?_;refine kC (Rr.jH q.r) ?_;refine⟨λh=>?_,λh=>?_⟩
   ·have hs:Ar q.r=true:=by unfold Ar;simpa using h
    rw[hs];refine kC (KN q.l) ?_;rfl
   ·have hs:Ar q.r=false:=by unfold Ar;simpa using h
    rw[hs];refine kW ?_;rfl
theorem TL{ps:List Pt}{p:Pt}(h:ps.Nodup)(hp:p∉ps):(ps++[p]).Nodup:=Fk.2 ⟨h,by simp,λx hx y hy=>by rw[Ax.1 hy];exact λe=>hp (e▸hx)⟩
theorem S0(ps:List Pt)(p:Pt):Eo (ps++[p]).length=Eo ps.length++[.lit true]:=by rw[Bv];exact List.replicate_succ'
theorem VY(k j:Nat):(Eo k).set j (.lit true)=Eo k:=by
 unfold Eo;refine List.ext_getElem (by simp) λi h1 h2=>?_
 rw[List.getElem_set];split<;>simp
def ZbF(P:Pt->Prop)(r:AV):Prop:=∃ps:List Pt,r=.mp (ps.map Pt.v) (Eo ps.length)/\ps.Nodup/\∀p,p∈ps↔P p
def exE(q:Qn):List AV:=mk 29 [(0,.at_ (q.c Cc Cc 0)),(1,.ptr 0 0),(3,.ptr 2 0)]
def exH(q:Qn)(ps:List Pt):List HO:=[.cells [.at_ (q.c Cc Cc 0)],.map (ps.map Pt.v) (Eo ps.length),.cells [.om 1]]
theorem iB(q:Qn)(hq:q.ok):AO Tryz.prog 105 [.at_ (q.c Cc Cc 0)] (ZbF λp=>p∈DA q.r q.day (readAll q.F q.ls)):=by
 refine kB Tryz.func105 rfl ?_;refine kC (IE q Cc Cc 0) ?_;have VE:=JK q hq 0;generalize readAll q.F q.ls=A at*
 refine Aa.JM (E0:=exE q) (xs:=A.map λa=>[a.v]) (Yr ?_) rfl rfl VE rfl (λvs k (ps:List Pt)=>exH q ps++[.ghost (exE q) vs []])
  (λk ps=>ps.Nodup/\∀p,p∈ps↔p∈DA q.r q.day (A.take k)) [] ⟨GK,λp=>by rw[DE];exact Iff.rfl⟩ (λ_ _ _=>False) (λvs=>rfl)
  (λvs k ps _=>⟨rfl,rfl,by(conv=>whnf);exact⟨rfl,rfl,rfl,trivial⟩⟩) (λvs k ps x hp hx=>?_) (λh=>(h trivial).elim) (λvs ps hp=>?_) (λ_ _ _ h=>h.elim)
 ·conv=>whnf
  repeat first|exact trivial|(refine⟨rfl,?_⟩;conv=>whnf)
 ·have hk:k<A.length:=by have:=(C2.1 hx).1;simpa using this
  obtain rfl:x=[A[k].v]:=by rw[C3,Bl hk]at hx;exact(Fy.inj hx).symm
  obtain⟨hn,hp⟩:=hp;refine⟨rfl,?_⟩
  have hex:DA q.r q.day (A.take (k+1))=DA q.r q.day (A.take k)++(if (CA q.r q.day A[k]).2=0 then [(CA q.r q.day A[k]).1]else []):=by
   unfold DA;rw[A0 hk,List.filterMap_append];congr 1;by_cases hh:(CA q.r q.day A[k]).2=0<;>simp[hh]
  refine kW ?_;refine Aa.Pe [14] Ag mO (by kernel_rfl) ?_
  conv=>whnf
  refine⟨_,⟨Rr.qR q.r q.day A[k],rfl⟩,?_⟩;conv=>whnf
  refine kW ?_;generalize CA q.r q.day A[k]=g at*;refine⟨λh=>?_,λh=>?_⟩
  ·rw[if_pos (by simpa using h)]at hex
   conv=>whnf
   refine Aa.FP [2] Ag ?_;conv=>whnf
   refine⟨Zs,WB,⟨⟨_,rfl⟩,rfl⟩,⟨OR _,Jb hn⟩,λSf=>?_,λj hj=>?_⟩
   ·have Sf:g.1∉ps:=λh=>Sf (Ib.2 h)
    conv=>whnf
    refine⟨ps++[g.1],⟨TL hn Sf,λp=>?_⟩,?_⟩
    ·rw[hex,BY,BY,hp p]
    ·conv=>whnf
     refine⟨rfl,?_⟩;conv=>whnf
     refine⟨?_,?_⟩
     ·show HO.map (ps.map Pt.v++[g.1.v]) (Eo ps.length++[.lit true])=_
      rw[<-S0 ps g.1,<-C1,<-DG]
     refine kQ ?_;trivial
   ·have hi:g.1∈ps:=Ib.1 (EI hj);conv=>whnf
    refine⟨ps,⟨hn,λp=>?_⟩,?_⟩
    ·rw[hex,BY,hp p,Ax];exact⟨.inl,λh=>h.elim id λh=>by rw[h,<-hp];exact hi⟩
    ·conv=>whnf
     refine⟨rfl,?_⟩;conv=>whnf
     refine⟨?_,?_⟩
     ·show HO.map (ps.map Pt.v) ((Eo ps.length).set j (.lit true))=_
      rw[VY]
     refine kQ ?_;trivial
  ·rw[if_neg (by simpa using h),F0]at hex
   refine kW ?_;refine⟨ps,⟨hn,λp=>by rw[hex,hp p]⟩,?_⟩
   refine kQ ?_;trivial
 ·refine kW ?_;exact⟨ps,rfl,hp.1,λp=>by rw[hp.2 p,Af,BW]⟩
structure NS(Ak:Int)(L:List Cd)(ps:List Pt)(m:Int):Prop where
 m:m=C9 Ak L
 n:ps.Nodup
 p:∀p,p∈ps↔p∈H7 Ak L
theorem NS.nil(Ak:Int):NS Ak [] [] (Ak+1):=⟨rfl,GK,λp=>Iff.rfl⟩
theorem JR(Ak:Int)(L:List Cd)(c:Cd):C9 Ak (L++[c])=min (C9 Ak L) c.c:=by unfold C9;rw[List.foldl_append];rfl
theorem NS.less{Ak:Int}{L:List Cd}{ps:List Pt}{m:Int}{c:Cd}(h:NS Ak L ps m)(hc:c.c<m):NS Ak (L++[c]) [c.p] c.c:=by
 have e:C9 Ak (L++[c])=c.c:=by rw[JR,<-h.m];omega
 refine⟨e.symm,by simp,λp=>?_⟩
 rw[CK,e,Ax];constructor
 ·rintro rfl;exact⟨c,by simp,rfl,rfl⟩
 ·rintro⟨d,hd,h1,h2⟩;rcases BY.1 hd with hd|hd
  ·have:=(least_le Ak L).2 d hd;rw[<-h.m]at this;omega
  ·rw[Ax.1 hd]at h2;exact h2.symm
theorem NS.more{Ak:Int}{L:List Cd}{ps:List Pt}{m:Int}{c:Cd}(h:NS Ak L ps m)(hc:m<c.c):NS Ak (L++[c]) ps m:=by
 have e:C9 Ak (L++[c])=m:=by rw[JR,<-h.m];omega
 refine⟨e.symm,h.n,λp=>?_⟩
 rw[h.p,CK,CK,e,<-h.m];constructor
 ·rintro⟨d,hd,h1⟩;exact⟨d,E1 _ hd,h1⟩
 ·rintro⟨d,hd,h1,h2⟩;rcases BY.1 hd with hd|hd;·exact⟨d,hd,h1,h2⟩
  ·rw[Ax.1 hd]at h1;omega
theorem NS.Zhh{Ak:Int}{L:List Cd}{ps:List Pt}{m:Int}{c:Cd}(h:NS Ak L ps m)(hc:c.c=m)(hi:c.p∈ps):NS Ak (L++[c]) ps m:=by
 have e:C9 Ak (L++[c])=m:=by rw[JR,<-h.m];omega
 refine⟨e.symm,h.n,λp=>?_⟩
 rw[CK,e];constructor
 ·intro hp;obtain⟨d,hd,h1,h2⟩:=CK.1 ((h.p p).1 hp);exact⟨d,E1 _ hd,by rw[h1,h.m],h2⟩
 ·rintro⟨d,hd,h1,h2⟩;rcases BY.1 hd with hd|hd;·exact(h.p p).2 (CK.2 ⟨d,hd,by rw[h1,h.m],h2⟩)
  ·rw[Ax.1 hd]at h2;exact h2▸hi
theorem NS.Zea{Ak:Int}{L:List Cd}{ps:List Pt}{m:Int}{c:Cd}(h:NS Ak L ps m)(hc:c.c=m)(hi:c.p∉ps):NS Ak (L++[c]) (ps++[c.p]) m:=by
 have e:C9 Ak (L++[c])=m:=by rw[JR,<-h.m];omega
 refine⟨e.symm,TL h.n hi,λp=>?_⟩
 rw[CK,e,BY,Ax];constructor
 ·rintro (hp|rfl)
  ·obtain⟨d,hd,h1,h2⟩:=CK.1 ((h.p p).1 hp);exact⟨d,E1 _ hd,by rw[h1,h.m],h2⟩
  ·exact⟨c,by simp,hc,rfl⟩
 ·rintro⟨d,hd,h1,h2⟩;rcases BY.1 hd with hd|hd;·exact .inl ((h.p p).2 (CK.2 ⟨d,hd,by rw[h1,h.m],h2⟩))
  ·rw[Ax.1 hd]at h2;exact .inr h2.symm
theorem ZcV{p:Ff.Pt}{l:List Bs}{a:Ff.Ad}(h:Ff.Q7 p l=true)(ha:0<=a.nu/\a.nu<=9999):0<=(Ff.Df p l a).nu/\(Ff.Df p l a).nu<=9999:=by
 unfold Ff.Df;repeat' split
 all_goals first|exact ha|skip
 ·rename_i h3;obtain⟨_,_,h4⟩:=Ff.rT h3;simp only;omega
 ·simp
theorem Zk:∀(ps:List Ff.Pt)(ws:List Bs)(a:Ff.Ad),(0<=a.nu/\a.nu<=9999)->∀x∈Ff.Er ps ws a,0<=x.nu/\x.nu<=9999
 |[],[],a,ha,x,h=>by
  have h:x∈[a]:=h;rw[Ax.1 h];exact ha
 |[],_::_,a,ha,x,h=>by
  have h:x∈([]:List Ff.Ad):=h;cases h
 |p::ps,ws,a,ha,x,h=>by
  unfold Ff.Er at h;obtain⟨i,_,h⟩:=Hs.1 h;rw[Ff.jR]at h;split at h
  ·rename_i b hb;split at hb
   ·rename_i Fj;obtain rfl:=Fy.inj hb;exact Zk ps _ _ (ZcV Fj ha) x h
   ·cases hb
  ·cases h
theorem Zl:∀(ls:List (List Ff.Pt)) (W:List (List Bs)) (a:Ff.Ad),(0<=a.nu/\a.nu<=9999)->∀x∈Ff.ER ls W a,0<=x.nu/\x.nu<=9999
 |[],[],a,ha,x,h=>by
  have h:x∈[a]:=h;rw[Ax.1 h];exact ha
 |[],_::_,a,ha,x,h=>by
  have h:x∈([]:List Ff.Ad):=h;cases h
 |_::_,[],a,ha,x,h=>by
  have h:x∈([]:List Ff.Ad):=h;cases h
 |l::ls,w::ws,a,ha,x,h=>by
  unfold Ff.ER at h;obtain⟨b,hb,h⟩:=Hs.1 h;exact Zl ls ws b (Zk l w a ha b hb) x h
theorem eC(F:List Ff.Fm)(ls:List Bs):∀a∈readAll F ls,0<=a.nu/\a.nu<=1000000:=λa ha=>by
 obtain⟨f,_,h0,b,hb,rfl⟩:=Ia.1 ha;unfold Ff.Br at hb;split at hb
 ·split at hb
  ·split at hb
   ·have:=Zl _ _ _ ⟨by decide,by decide⟩ b hb
    exact⟨this.1,Int.le_trans this.2 (by decide)⟩
   ·cases hb
  ·cases hb
 ·cases hb
def neE(q:Qn):List AV:=mk 55 [(0,.at_ (q.c Cc Cc 0)),(1,.ptr 0 0),(3,.ptr 2 0),(4,.ptr 12 0),(5,.ptr 14 0)]
def neH(q:Qn)(S:List St)(ps:List Pt)(m:Int):List HO:=[.cells [.at_ (q.c Cc Cc 0)],.map (ps.map Pt.v) (Eo ps.length),.cells [.om 1],.dead,.dead,.dead,.dead,.dead,.dead,.dead,.dead,.dead,.cells [.sl 8 (S.map St.v)],.dead,.cells [.int .i64 m]]
set_option maxHeartbeats 0 in
theorem XE(q:Qn)(hq:q.ok)(h0:0<=q.Ak)(h6:q.Ak<=6):AO Tryz.prog 106 [.at_ (q.c Cc Cc 0)] (ZbF λp=>p∈H7 q.Ak (Dt (E6 q.r q.day) (readAll q.F q.ls) q.Ak)):=by
 refine kB Tryz.func106 rfl ?_;refine Aa.draw [10] Ag mO (by kernel_rfl) ?_
 conv=>whnf
 refine⟨_,⟨Rr.mK q.r q.day,rfl⟩,?_⟩;conv=>whnf
 refine kW ?_;refine kC (IE q Cc Cc 0) ?_;have VE:=JK q hq 0;rw[DI _ _ (by unfold DJ Cr CL Cb BI;simp;omega)]
 obtain⟨hS,hSl⟩:=Rr.Pk q.r q.day;have hnu:=eC q.F q.ls;generalize readAll q.F q.ls=A at*;generalize E6 q.r q.day=S at*
 refine Aa.JM (E0:=neE q) (xs:=A.map λa=>[a.v]) (Yr ?_) rfl rfl VE rfl (λvs k (x:List Pt×Int)=>neH q S x.1 x.2++[.ghost (neE q) vs []])
  (λk x=>∃L,(∀c,c∈L↔c∈Dt S (A.take k) q.Ak)/\NS q.Ak L x.1 x.2) ([],q.Ak+1) ⟨[],λc=>Iff.rfl,NS.nil _⟩ (λ_ _ _=>False) (λvs=>rfl)
  (λvs k ps _=>⟨rfl,rfl,by(conv=>whnf);exact⟨rfl,rfl,rfl,rfl,rfl,trivial⟩⟩) (λvs k x y hp hx=>?_) (λh=>(h trivial).elim) (λvs x hp=>?_) (λ_ _ _ h=>h.elim)
 ·conv=>whnf
  repeat first|exact trivial|(refine⟨rfl,?_⟩;conv=>whnf)
 ·have hk:k<A.length:=by have:=(C2.1 hx).1;simpa using this
  obtain rfl:y=[A[k].v]:=by rw[C3,Bl hk]at hx;exact(Fy.inj hx).symm
  obtain⟨L,hL,hns⟩:=hp;generalize x.1=ps at*;generalize x.2=m at*;refine⟨rfl,?_⟩;refine kW ?_;refine Aa.Zd0 [([false,false,false,false,false,false,false,false,false],[0,1,2,8]),([true,false,false,false,false,false,false,false,false],[1,2,8]),([false,true,false,false,false,false,false,false,false],[0,2,8]),([false,false,true,false,false,false,false,false,false],[0,1,3,8]),([false,false,false,false,false,false,false,false,true],[0,1,2]),([true,true,false,false,false,false,false,false,false],[2,8]),([true,false,true,false,false,false,false,false,false],[1,3,8]),([true,false,false,false,false,false,false,false,true],[1,2]),([false,true,true,false,false,false,false,false,false],[0,3,8]),([false,true,false,false,false,false,false,false,true],[0,2]),([false,false,true,true,false,false,false,false,false],[0,1,4,8]),([false,false,true,false,false,false,false,false,true],[0,1,3]),([true,true,true,false,false,false,false,false,false],[3,8]),([true,true,false,false,false,false,false,false,true],[2]),([true,false,true,true,false,false,false,false,false],[1,4,8]),([true,false,true,false,false,false,false,false,true],[1,3]),([false,true,true,true,false,false,false,false,false],[0,4,8]),([false,true,true,false,false,false,false,false,true],[0,3]),([false,false,true,true,true,false,false,false,false],[0,1,5,8]),([false,false,true,true,false,false,false,false,true],[0,1,4]),([true,true,true,true,false,false,false,false,false],[4,8]),([true,true,true,false,false,false,false,false,true],[3]),([true,false,true,true,true,false,false,false,false],[1,5,8]),([true,false,true,true,false,false,false,false,true],[1,4]),([false,true,true,true,true,false,false,false,false],[0,5,8]),([false,true,true,true,false,false,false,false,true],[0,4]),([false,false,true,true,true,true,false,false,false],[0,1,8]),([false,false,true,true,true,false,false,false,true],[0,1,5]),([true,true,true,true,true,false,false,false,false],[5,8]),([true,true,true,true,false,false,false,false,true],[4]),([true,false,true,true,true,true,false,false,false],[1,8]),([true,false,true,true,true,false,false,false,true],[1,5]),([false,true,true,true,true,true,false,false,false],[0,8]),([false,true,true,true,true,false,false,false,true],[0,5]),([false,false,true,true,true,true,false,false,true],[0,1]),([true,true,true,true,true,true,false,false,false],[6,8]),([true,true,true,true,true,false,false,false,true],[5]),([true,false,true,true,true,true,false,false,true],[1]),([false,true,true,true,true,true,false,false,true],[0]),([true,true,true,true,true,true,true,false,false],[7,8]),([true,true,true,true,true,true,false,false,true],[6]),([true,true,true,true,true,true,true,true,false],[8]),([true,true,true,true,true,true,true,false,true],[7]),([true,true,true,true,true,true,true,true,true],[])] (λc=>[(0,27,.sl 8 (S.map St.v)),(1,28,A[k].v),(2,29,.at_ (q.c Cc Cc 0)),(3,30,.at_ (q.c Cc Cc 0)),(4,31,.at_ [.int .i64 q.Ak,Cc,Cc,.int .i64 0]),(5,32,.int .i64 q.Ak),(6,33,.sl 3 (KH c)),(7,34,.int .i64 (KH c).length),(8,35,.int .i64 0)]) (λl:List Cd=>l.Perm (Ec S A[k] q.Ak)) (Ec S A[k] q.Ak) (List.Perm.refl _) Ag (by kernel_rfl) (by kernel_rfl) rfl (λc hc=>?_)
  conv=>whnf
  repeat' (first|exact True.intro|(refine GNI.mk ?_;conv=>whnf)|exact⟨c,hc,rfl,rfl⟩|(refine Bm ?_ ?_<;>conv=>whnf)|(refine Aj.Dk (Sl S A[k] q.Ak hS (by omega) (hnu _ (Bh _)) h0 h6) rfl λr hr=>?_;(obtain⟨d,rfl,hd⟩:=hr);(conv=>whnf);exact⟨d,hd,rfl,rfl⟩))
  have HC:c.length<=60:=by
   rw[hc.length_eq];unfold Ec;refine G2 (C4 ..) ?_;rw[GW];exact hSl
  refine kW ?_;refine Aa.Aw (λy:Nat×List Pt×Int=>mk 55 [(0,.at_ (q.c Cc Cc 0)),(1,.ptr 0 0),(3,.ptr 2 0),(4,.ptr 12 0),(5,.ptr 14 0),(6,.ptr 16 0),(33,.sl 3 (KH c)),(34,.int .i64 c.length),(35,.int .i64 y.1)]) (λy=>neH q S y.2.1 y.2.2++[.ghost (neE q) vs [],.cells [.str A[k].pe,.str A[k].st,.int .i64 A[k].nu,.str A[k].co,.str A[k].tw]]) (λy=>y.1<=c.length/\NS q.Ak (L++c.take y.1) y.2.1 y.2.2) (λy=>c.length-y.1) (λ_ _=>?_) ⟨(0,ps,m),?_⟩ (λ_=>rfl) λy hy=>?_
  ·exact⟨rfl,by(conv=>whnf);exact⟨rfl,rfl,rfl,rfl,rfl,rfl,trivial⟩⟩
  ·conv=>whnf
   repeat(refine Bm ?_ ?_;(focus (first|rfl|(simp;done)|(rw[Af];done)));conv=>whnf)
   show NS q.Ak (L++c.take 0) ps m
   rw[DE,F0];exact hns
  ·obtain⟨hj,hn⟩:=hy;generalize y.1=j at*;generalize y.2.1=qV at*;generalize y.2.2=m1 at*;refine kR ?_;refine⟨λh=>?_,λh=>?_⟩
   ·have h:j<c.length:=by have:=of_decide_eq_true h;omega
    refine kW ?_;refine⟨by omega,c[j].v,by simp[h],?_⟩
    refine kW ?_;have Yu:L++c.take (j+1)=L++c.take j++[c[j]]:=by rw[A0 h,GZ]
    generalize c[j]=d at*;refine⟨λh1=>?_,λh1=>?_⟩
    ·have h1:=of_decide_eq_true h1;conv=>whnf
     iterate 1 (refine sT rfl ?_;conv=>whnf)
     refine Aa.FP [1] Ag ?_;conv=>whnf
     refine kR ?_;refine⟨λ_=>?_,λh=>absurd rfl (of_decide_eq_false h)⟩
     conv=>whnf
     refine Aa.FP [3] Ag ?_;conv=>whnf
     refine⟨Zs,WB,⟨⟨d.p,rfl⟩,rfl⟩,⟨λa h=>(by cases h),GK⟩,λ_=>?_,λj hj=>by simp at hj⟩
     refine kW ?_;refine⟨(j+1,[d.p],d.c),?_⟩;have FZ:=hn.less h1;rw[<-Yu]at FZ;conv=>whnf
     repeat(refine Bm ?_ ?_;(focus (first|rfl|(simp;done)|(rw[DI _ _ (by unfold DJ Cr CL Cb BI;simp;omega)];rfl;done)));conv=>whnf)
     exact⟨⟨h,FZ⟩,by show c.length-(j+1)<c.length-j;omega⟩
    ·have h1:=of_decide_eq_false h1;refine kW ?_;refine⟨λh2=>?_,λh2=>?_⟩
     ·have h2:=of_decide_eq_true h2;conv=>whnf
      refine Aa.FP [3] Ag ?_;conv=>whnf
      refine⟨Zs,WB,⟨⟨d.p,rfl⟩,rfl⟩,⟨OR _,Jb hn.n⟩,λSf=>?_,λi hi=>?_⟩
      ·have Sf:d.p∉qV:=λh=>Sf (Ib.2 h)
       have FZ:=hn.Zea h2 Sf
       rw[<-Yu]at FZ
       refine kW ?_
       refine⟨(j+1,qV++[d.p],m1),?_⟩
       conv=>whnf
       repeat(refine Bm ?_ ?_;(focus (first|rfl|(simp;done)|(rw[DI _ _ (by unfold DJ Cr CL Cb BI;simp;omega)];rfl;done)));conv=>whnf)
       refine⟨?_,?_⟩
       ·show HO.map (qV.map Pt.v++[d.p.v]) (Eo qV.length++[.lit true])=HO.map ((qV++[d.p]).map Pt.v) (Eo (qV++[d.p]).length)
        rw[S0,DG,C1]
       refine kQ ?_
       exact⟨⟨h,FZ⟩,by show c.length-(j+1)<c.length-j;omega⟩
      ·have hi:d.p∈qV:=Ib.1 (EI hi)
       have FZ:=hn.Zhh h2 hi
       rw[<-Yu]at FZ
       refine kW ?_
       refine⟨(j+1,qV,m1),?_⟩
       conv=>whnf
       repeat(refine Bm ?_ ?_;(focus (first|rfl|(simp;done)|(rw[DI _ _ (by unfold DJ Cr CL Cb BI;simp;omega)];rfl;done)));conv=>whnf)
       refine⟨?_,?_⟩
       ·show HO.map (qV.map Pt.v) ((Eo qV.length).set i (.lit true))=_
        rw[VY]
       refine kQ ?_
       exact⟨⟨h,FZ⟩,by show c.length-(j+1)<c.length-j;omega⟩
     ·have h2:=of_decide_eq_false h2;have FZ:=hn.more (c:=d) (by omega)
      rw[<-Yu]at FZ;refine kW ?_;refine⟨(j+1,qV,m1),?_⟩;conv=>whnf
      repeat(refine Bm ?_ ?_;(focus (first|rfl|(simp;done)|(rw[DI _ _ (by unfold DJ Cr CL Cb BI;simp;omega)];rfl;done)));conv=>whnf)
      exact⟨⟨h,FZ⟩,by show c.length-(j+1)<c.length-j;omega⟩
   ·have h:j=c.length:=by have:=of_decide_eq_false h;omega
    refine kW ?_;rw[h,BW]at hn;refine⟨(qV,m1),⟨L++c,λd=>?_,hn⟩,?_⟩
    ·rw[BY,hL,hc.mem_iff];unfold Dt;rw[A0 hk,E2,BY,FY]
    ·refine kQ ?_;trivial
 ·obtain⟨L,hL,hns⟩:=hp;rw[Af,BW]at hL;refine kW ?_;exact⟨x.1,rfl,hns.n,λp=>by rw[hns.p p,kL hL p]⟩
def orI(a b:Int):Int:=if a=0 then b else a
theorem Zad(a b:Int):AO Tryz.prog 109 [.sl 1 (ia [a,b])] (λr=>r=.int .i64 (orI a b)):=by
 have CM:∀i,i<2->(ia [a,b])[i]?=some (.int .i64 (if i=0 then a else b)):=λi h=>by
  match i,h with
  |0,_|1,_=>rfl
 have hlen:(ia [a,b]).length=2:=rfl;generalize ia [a,b]=L at*;refine kB Tryz.func109 rfl ?_;refine Aa.Aw (λi:Nat=>mk 18 [(0,.sl 1 L),(2,.int .i64 0),(3,.int .i64 0),(6,.sl 1 L),(7,.int .i64 2),(8,.int .i64 i)]) (λi=>[]) (λi=>i<=2/\(1<=i->a=0)/\(2<=i->b=0)) (λi=>2-i) (λ_ _=>⟨rfl,trivial⟩) ⟨0,?_⟩ (λ_=>rfl) λi hi=>?_
 ·conv=>whnf
  repeat(refine Bm ?_ ?_;(focus (first|rfl|(simp;done)|(rw[hlen];rfl;done)));conv=>whnf)
  first|exact⟨⟨by omega,by omega⟩,by omega⟩|exact⟨by omega,by omega,by omega⟩|exact⟨by omega,by omega⟩|(intro h;omega)
 ·obtain⟨hi,h1,h2⟩:=hi;refine kR ?_;refine⟨λh=>?_,λh=>?_⟩
  ·have h:i<2:=by have:=of_decide_eq_true h;omega
   refine kW ?_;refine⟨by omega,_,CM i h,?_⟩
   refine kW ?_;refine⟨λg=>?_,λg=>?_⟩
   ·refine kW ?_;have g:¬(if i=0 then a else b)=0:=by simpa using g
    show AV.int _ _=AV.int _ _
    congr 1;unfold orI;by_cases h0:i=0
    ·rw[if_pos h0]at g ⊢;rw[if_neg g]
    ·rw[if_neg h0,if_pos (h1 (by omega))]
   ·have g:(if i=0 then a else b)=0:=by simpa using g
    refine kW ?_;refine⟨i+1,?_⟩;conv=>whnf
    repeat(refine Bm ?_ ?_;(focus (first|rfl|(simp;done)|(rw[DI _ _ (by unfold DJ Cr CL Cb BI;simp;omega)];rfl;done)));conv=>whnf)
    have k1:1<=i+1->a=0:=λ_=>by
     by_cases h0:i=0;·rw[if_pos h0]at g;exact g
     ·exact h1 (by omega)
    have k2:2<=i+1->b=0:=λh'=>by rw[if_neg (by omega)]at g;exact g
    first|exact⟨⟨by omega,k1,k2⟩,by omega⟩|exact⟨by omega,k1,k2,by omega⟩
  ·have h:i=2:=by have:=of_decide_eq_false h;omega
   refine kW ?_;show AV.int _ _=AV.int _ _
   rw[h1 (by omega),h2 (by omega)]
   rfl
def iP(p q:Pt):Int:=orI (Yh p.s q.s) (Yh p.n q.n)
theorem eK(p q:Pt):AO Tryz.prog 108 [p.v,q.v] (λr=>r=.int .i64 (iP p q)):=by
 refine kB Tryz.func108 rfl ?_;refine Aa.Ry [10] [] Ag mO (by kernel_rfl) ?_
 conv=>whnf
 refine⟨_,⟨Lx p.s q.s,rfl⟩,?_⟩;conv=>whnf
 refine⟨_,⟨Lx p.n q.n,rfl⟩,?_⟩;conv=>whnf
 refine⟨_,⟨Zad (Yh p.s q.s) (Yh p.n q.n),rfl⟩,?_⟩;conv=>whnf
 refine kW ?_;rfl
theorem SH{p q:Pt}:iP p q<0↔ltP p q=true:=by
 unfold iP orI Yh;rw[D9];repeat' split
 all_goals omega
theorem Xg(l:List Pt)(hl:l.length<=1000000):Ed Tryz.prog 107 [.own 0 2 0 l.length,.fn 108 []] 34 2 (l.map Pt.v)
  (λr es=>r=.tuple []/\∃l':List Pt,es=l'.map Pt.v/\l'.Perm l/\l'.Pairwise λp q=>¬iP q p<0):=
 ZfD Tryz.ZcF 2 Tryz.isAgg34 Tryz.sizeOf34 (by kernel_rfl) 108 (enters_of Tryz.func108 (by kernel_rfl) rfl) Pt.v (λ_=>True) iP
  (λx=>by rw[SH,D9];omega)
  (λx y z h1 h2=>by rw[SH,D9]at *;omega)
  (λx y z h1 h2=>by rw[SH,D9]at *;omega)
  (λx=>⟨_,rfl,rfl,rfl⟩) (λx y _ _=>eK x y) l (by omega) (λ_ _=>trivial) 34
theorem V3{l m:List Pt}(h:l.Perm m)(hn:m.Nodup)(hs:l.Pairwise λp q=>¬iP q p<0):Fv l:=by
 have hn':l.Nodup:=h.nodup_iff.2 hn;unfold Fv;refine(hs.and hn').imp λ{p q} ⟨h1,h2⟩=>?_
 rw[SH,D9]at h1;rw[D9];have:¬(p.s=q.s/\p.n=q.n):=λh=>h2 (Xr h.1 h.2)
 omega
def Sa(e:Int):AV:=.fn 103 [.at_ [.int .i64 e]]
theorem E9(e:Int):AO Tryz.prog 65 [.int .i64 e] (λr=>r=Sa e):=by
 refine kB Tryz.func65 rfl ?_;rfl
def zV:List AV:=[.agg [.fn 64 [],Sa 1],.agg [.fn 66 [],Sa 1],.agg [.fn 67 [],Sa 80],.agg [.fn 68 [],.fn 69 []],.agg [.fn 70 [],.fn 71 []],.agg [.fn 72 [],Sa 3]]
theorem dS:AO Tryz.prog 36 [] (λr=>r=.sl 2 zV):=by
 refine kB Tryz.func36 rfl ?_;refine kC (E9 1) ?_;refine kC (E9 1) ?_;refine kC (E9 80) ?_;refine kC (E9 3) ?_;refine⟨⟨rfl,λe he=>?_⟩,rfl⟩
 simp only[FB,Hx,or_false]at he;rcases he with rfl|rfl|rfl|rfl|rfl|rfl<;>rfl
def Qn.at_(q:Qn)(M c:List Pt)(i:Nat):List AV:=if i<=2 then q.c Cc Cc 0 else if i<=4 then q.c (Tv M) Cc 0 else q.c (Tv M) (Tv c) 0
structure ZkX(q:Qn)(M:List Pt)(c:List Pt×Int)(i:Nat):Prop where
 le:i<=6
 a1:1<=i->IA q.F q.r q.l q.day q.Ak=false
 a2:2<=i->readAll q.F q.ls≠[]
 a3:3<=i->M≠[]
 a4:4<=i->M.length=1
 a5:5<=i->c.2=0
 a6:6<=i->(AW q.r q.day (Gr c.1)).2=0
def rsZ:List AV:=[.int .i64 0,Cc,Cc,.int .i64 0]
theorem Gp{α:Type} [DecidableEq α]:∀{l m:List α},l.Nodup->(∀x∈l,x∈m)->l.length<=m.length
 |[],_,_,_=>BM _
 |x::l,m,hn,h=>by
  obtain⟨h1,h2⟩:=HB.1 hn;have hx:=h x (by simp)
  have:=Gp (m:=m.erase x) h2 λy hy=>(List.mem_erase_of_ne λe=>h1 (by rw[<-e];exact hy)).2 (h y (by simp[hy]))
  rw[List.length_erase_of_mem hx]at this;have:=List.length_pos_of_mem hx;rw[Ds];omega
theorem QY(F:List Ff.Fm)(ls:List Bs):(readAll F ls).length<=16*F.length:=by
 unfold readAll;induction F with
 |nil=>simp
 |cons f F ih=>
  rw[G0,Bv,Ds];have:=P9 f ls;split;·rw[Af];omega
  ·rw[List.length_nil];omega
theorem Qe{S:List St}(hS:S.length<=60)(Ak:Int):∀(A:List Ad),(Dt S A Ak).length<=60*A.length
 |[]=>BM _
 |a::A=>by
  have ih:=Qe hS Ak A;unfold Dt at ih⊢;rw[G0,Bv,Ds]
  have:(Ec S a Ak).length<=60:=by
   unfold Ec;refine G2 (C4 ..) ?_;rw[GW];exact hS
  omega
theorem kG(q:Qn)(hq:q.ok){ps:List Pt}(hn:ps.Nodup)(h:(∀p,p∈ps↔p∈DA q.r q.day (readAll q.F q.ls))\/(∀p,p∈ps↔p∈H7 q.Ak (Dt (E6 q.r q.day) (readAll q.F q.ls) q.Ak))):ps.length<=960000/\True:=by
 have h1:=QY q.F q.ls;have h2:=hq.n;rcases h with h|h
 ·have:=Gp hn λx hx=>(h x).1 hx
  have h3:(DA q.r q.day (readAll q.F q.ls)).length<=(readAll q.F q.ls).length:=C4 ..;exact⟨by omega,trivial⟩
 ·have:=Gp hn λx hx=>(h x).1 hx
  have h3:=Qe (Rr.Pk q.r q.day).2 q.Ak (readAll q.F q.ls)
  have h4:(H7 q.Ak (Dt (E6 q.r q.day) (readAll q.F q.ls) q.Ak)).length<=(Dt (E6 q.r q.day) (readAll q.F q.ls) q.Ak).length:=by
   unfold H7;rw[Af];exact Gs ..
  exact⟨by omega,trivial⟩
def EZ(ps:List Pt)(d:List Nat):List Pt:=d.map λi=>ps.getD i Mv
theorem Wq{ps:List Pt}{d:List Nat}(hn:ps.Nodup)(hd:d.Nodup)(hl:∀i∈d,i<ps.length)(he:d.length=ps.length):(EZ ps d).Perm ps:=by
 have Qp:(EZ ps d).Nodup:=by
  unfold EZ;unfold List.Nodup;rw[List.pairwise_map];refine hd.imp_of_mem λ{a b} ha hb Bq h=>?_
  rw[C0,C0,Bl (hl a ha),Bl (hl b hb)]at h;simp only[Option.getD_some]at h;rcases Nat.lt_trichotomy a b with h1|h1|h1;·exact absurd h (E4.1 hn a b (hl a ha) (hl b hb) h1)
  ·exact Bq h1
  ·exact absurd h.symm (E4.1 hn b a (hl b hb) (hl a ha) h1)
 have XY:∀p∈EZ ps d,p∈ps:=λp hp=>by
  obtain⟨i,hi,rfl⟩:=List.mem_map.1 hp;rw[C0,Bl (hl i hi)];exact Bh _
 have hlen:(EZ ps d).length=ps.length:=by unfold EZ;rw[Af,he]
 refine(List.perm_ext_iff_of_nodup Qp hn).2 λp=>⟨XY p,λhp=>?_⟩
 refine Classical.byContradiction λhnp=>?_
 have:=Gp (l:=p::EZ ps d) (m:=ps) (HB.2 ⟨hnp,Qp⟩) λx hx=>by
  rcases FB.1 hx with rfl|hx;·exact hp
  ·exact XY x hx
 rw[Ds]at this;omega
theorem MH(l:List Pt)(n:Nat)(hn:n=l.length)(hl:l.length<=1000000):Ed Tryz.prog 107 [.own 0 2 0 n,.fn 108 []] 34 2 (l.map Pt.v)
  (λr es=>r=.tuple []/\∃l':List Pt,es=l'.map Pt.v/\l'.Perm l/\l'.Pairwise λp q=>¬iP q p<0):=by
 subst hn;exact Xg l hl
theorem cO{F:List Ff.Fm}{r:List Ch}{l:List Od}{day Ak:Int}(h:IA F r l day Ak=false):0<=Ak/\Ak<=6:=by
 unfold IA at h;simp at h;omega
theorem TT:∀(l:List Pt),CJ (l.map Pt.v)=true
 |[]=>rfl
 |p::l=>by
  show(BN p.v&&CJ (l.map Pt.v))=true
  rw[TT l];rfl
theorem Lf:∀(k:Nat),CJ (Eo k)=true
 |0=>rfl
 |k+1=>by
  show(BN (.lit true)&&CJ (Eo k))=true
  rw[Lf k];rfl
def ZiF(R:List AV):List AV:=mk 57 [(12,.ptr 1 0),(13,.ptr 2 0),(15,.ptr 3 0),(24,.sl 2 R),(25,.int .i64 6),(26,.int .i64 ((2:Nat):Int)),(27,.bool (decide (((2:Nat):Int)<6))),(28,.at_ [.fn 67 [],Sa 80]),(29,.agg [.fn 67 [],Sa 80]),(30,.ptr 3 (0+0)),(31,.fn 67 []),(32,.ptr 2 0)]
def Zfz(q:Qn)(R:List AV)(us:List Value)(ms:List Nat)(ps:List Pt)(rr:Nat)(d:List Nat):List HO:=
 [.inv (yU (ps.map Pt.v) (Eo ps.length) rr d),.cells rsZ,.cells (q.c (.own 5 2 0 d.length) Cc 0),.cells [.fn 67 [],Sa 80],.ghost (ZiF R) us ms,.arr 34 2 ((EZ ps d).map Pt.v)]
theorem Fw(q:Qn)(hq:q.ok):AO Tryz.prog 14 [Vc q.F,D5 q.r,Hr q.l,.int .i64 q.day,Ff.AQ q.ls,.int .i64 q.Ak] (λr=>r=(Ai q.F q.r q.l q.day q.ls q.Ak).v):=by
 refine AO.A3 Tryz.func14 rfl Ag (by kernel_rfl) ?_
 conv=>whnf
 refine Aa.Zc1 ?_;refine kR ?_;refine kC (dS) ?_;obtain⟨M,hM⟩:∃M,M=Bw q.r q.day (readAll q.F q.ls) q.Ak:=⟨_,rfl⟩;obtain⟨c,hc⟩:∃c,c=AN q.l q.day (M.headD Mv):=⟨_,rfl⟩;have w1:∀k:Nat,k<6->Wr .i64 ((k:Int)+1)=((k+1:Nat):Int):=λk hk=>by rw[DI _ _ (by unfold DJ Cr CL Cb BI;simp;omega)];rfl
 have hL:zV.length=6:=rfl;have g0:zV[0]?=some (.agg [.fn 64 [],Sa 1]):=rfl;have g1:zV[1]?=some (.agg [.fn 66 [],Sa 1]):=rfl;have g2:zV[2]?=some (.agg [.fn 67 [],Sa 80]):=rfl;have g3:zV[3]?=some (.agg [.fn 68 [],.fn 69 []]):=rfl;have g4:zV[4]?=some (.agg [.fn 70 [],.fn 71 []]):=rfl;have g5:zV[5]?=some (.agg [.fn 72 [],Sa 3]):=rfl;generalize zV=R at*;refine Aa.Aw (λi:Nat=>mk 57 [(12,.ptr 1 0),(13,.ptr 2 0),(24,.sl 2 R),(25,.int .i64 6),(26,.int .i64 i)]) (λi=>[.inv tZ,.cells rsZ,.cells (q.at_ M c.1 i)]) (ZkX q M c) (λi=>6-i) (λ_ _=>?_) ⟨0,?_⟩ (λ_=>rfl) λi hi=>?_
 ·refine⟨rfl,?_⟩;conv=>whnf
  refine⟨rfl,?_,trivial⟩;unfold Qn.at_;split;·rfl
  ·split<;>rfl
 ·conv=>whnf
  repeat(refine Bm ?_ ?_;(focus (first|rfl|(simp;done)|(rw[hL];rfl;done)));conv=>whnf)
  exact⟨by omega,λh=>by omega,λh=>by omega,λh=>by omega,λh=>by omega,λh=>by omega,λh=>by omega⟩
 ·have hle:=hi.le;refine kR ?_;refine⟨λh=>?_,λh=>?_⟩
  ·have h:i<6:=by have:=of_decide_eq_true h;omega
   rcases (show i=0\/i=1\/i=2\/i=3\/i=4\/i=5 by omega)with rfl|rfl|rfl|rfl|rfl|rfl
   ·refine kW ?_;refine⟨by omega,_,g0,?_⟩
    refine kW ?_;refine Aj.LW (cN q hq) (Kc.ptr (l:=2) rfl rfl trivial) λr hr=>?_
    subst hr;refine⟨.inl rfl,?_⟩;refine kW ?_;refine⟨λhb=>?_,λhb=>?_⟩
    ·have e:Ai q.F q.r q.l q.day q.ls q.Ak=ID 1:=by unfold Ai;rw[hb];rfl
     rw[e];refine kW ?_;refine Aj.inline Tryz.func103 rfl Ag (by kernel_rfl) λus ms=>?_
     refine kW ?_;refine⟨⟨rfl,rfl⟩,?_⟩;refine kW ?_;refine⟨2,?_⟩;conv=>whnf
     refine⟨2,?_⟩;rfl
    ·have hb:=hb;refine kW ?_;refine⟨1,?_⟩;conv=>whnf
     repeat(refine Bm ?_ ?_;(focus (first|rfl|(simp;done)|(exact w1 _ (by decide);done)));conv=>whnf)
     exact⟨⟨by omega,λ_=>hb,λh=>by omega,λh=>by omega,λh=>by omega,λh=>by omega,λh=>by omega⟩,by omega⟩
   ·refine kW ?_;refine⟨by omega,_,g1,?_⟩
    refine kW ?_;refine Aj.LW (YL q hq) (Kc.ptr (l:=2) rfl rfl trivial) λr hr=>?_
    subst hr;refine⟨.inl rfl,?_⟩;refine kW ?_;refine⟨λhb=>?_,λhb=>?_⟩
    ·have hb:=of_decide_eq_true hb;have e:Ai q.F q.r q.l q.day q.ls q.Ak=ID 1:=by unfold Ai;rw[hi.a1 (by omega),hb];rfl
     rw[e];refine kW ?_;refine Aj.inline Tryz.func103 rfl Ag (by kernel_rfl) λus ms=>?_
     refine kW ?_;refine⟨⟨rfl,rfl⟩,?_⟩;refine kW ?_;refine⟨2,?_⟩;conv=>whnf
     refine⟨2,?_⟩;rfl
    ·have hb:=of_decide_eq_false hb;refine kW ?_;refine⟨2,?_⟩;conv=>whnf
     repeat(refine Bm ?_ ?_;(focus (first|rfl|(simp;done)|(exact w1 _ (by decide);done)));conv=>whnf)
     exact⟨⟨by omega,λ_=>hi.a1 (by omega),λ_=>hb,λh=>by omega,λh=>by omega,λh=>by omega,λh=>by omega⟩,by omega⟩
   ·have hR:Ai q.F q.r q.l q.day q.ls q.Ak=Dv q.r q.l q.day M:=by unfold Ai;rw[hi.a1 (by omega),if_neg (hi.a2 (by omega)),hM];rfl
    refine kW ?_;refine⟨by omega,_,g2,?_⟩
    refine kW ?_;refine Aj.inline Tryz.func67 rfl Ag (by kernel_rfl) λus ms=>?_
    refine kW ?_;have hR0:=hi.a1 (by omega)
    have Zb9:0<=q.Ak/\q.Ak<=6:=cO hR0;refine Aj.LW (iB q hq) (Kc.ptr (l:=2) rfl rfl trivial) λr hr=>?_
    obtain⟨ps,rfl,hn,hp⟩:=hr;refine⟨.inr ⟨_,_,rfl,TT ps,Lf _⟩,?_⟩;conv=>whnf
    iterate 2 (refine sT rfl ?_;conv=>whnf)
    refine Aa.ZcK [1] Ag ?_;conv=>whnf
    obtain⟨k1,k2⟩:=kG q hq hn (.inl hp);refine⟨by rw[Af];omega,?_⟩
    refine kW ?_;refine⟨λhe=>?_,λhe=>?_⟩
    ·have he:ps=[]:=by simpa using he
     have hex:DA q.r q.day (readAll q.F q.ls)=[]:=Eg.2 λp hp'=>by have:=(hp p).2 hp';rw[he]at this;cases this
     subst he;clear hn hp k1 k2;refine kW ?_;refine Aj.LW (XE q hq Zb9.1 Zb9.2) (Kc.ptr (l:=2) rfl rfl trivial) λr hr=>?_
     obtain⟨ps,rfl,hn,hp⟩:=hr;obtain⟨k1,k2⟩:=kG q hq hn (.inr hp);refine⟨.inr ⟨_,_,rfl,TT ps,Lf _⟩,?_⟩;have hp:∀p,p∈ps↔p∈M:=λp=>by rw[hp,hM];unfold Bw;rw[Hu,if_pos hex]
     conv=>whnf
     refine Aa.GX 2 6 34 2 rfl rfl ?_;conv=>whnf
     iterate 2 (refine sT rfl ?_;conv=>whnf)
     refine Aa.FP [1] Ag ?_;conv=>whnf
     refine⟨⟨TT _,Lf _⟩,rfl,λrr=>?_⟩
     refine kW ?_;refine Aa.Aw (λd:List Nat=>mk 39 [(0,.ptr 2 0),(2,.lit false),(13,.raw (wrP rr))]) (Zfz q R us ms ps rr) (λd=>d.Nodup/\∀i∈d,i<ps.length) (λd=>ps.length-d.length) (λ_ _=>?_) ⟨[],?_⟩ (λ_=>rfl) λd hd=>?_
     ·refine⟨rfl,?_⟩;conv=>whnf
      exact⟨rfl,rfl,rfl,rfl,DT _,trivial⟩
     ·refine kQ ?_;exact λi hi=>(by cases hi)
     ·obtain⟨Qt,X1⟩:=hd;iterate 1 (refine sT rfl ?_;conv=>whnf)
      refine Aa.FP [0] Ag ?_;conv=>whnf
      refine⟨_,_,rr,d,rfl,rfl,λhe=>?_,λi k v hi hk hv=>?_⟩
      ·have he:d.length=ps.length:=by rw[he,Af]
       refine kW ?_
       refine Aj.fA 5 (MH (EZ ps d) d.length (by unfold EZ;rw[Af]) (by unfold EZ;rw[Af];omega)) rfl rfl (DT _) λr Cg hr _=>?_
       obtain⟨rfl,l',rfl,vL,hso⟩:=hr
       have vL:=vL.trans (Wq hn Qt X1 he)
       obtain rfl:l'=M:=LI (V3 vL hn hso) (by rw[hM];exact JQ _ _ _ _) λp=>by rw[vL.mem_iff,hp]
       refine⟨rfl,?_⟩
       refine kW ?_
       refine⟨⟨rfl,rfl⟩,?_⟩
       refine kW ?_
       have hlM:l'.length=d.length:=by rw[vL.length_eq,he]
       refine⟨λhb=>?_,λhb=>?_⟩
       ·have hb:l'=[]:=by
         have:=of_decide_eq_true hb
         exact Ef.1 (by omega)
        have e:Dv q.r q.l q.day l'=ID 80:=by rw[hb];rfl
        rw[hR,e]
        refine kW ?_
        refine Aj.inline Tryz.func103 rfl Ag (by kernel_rfl) λus2 U8=>?_
        refine kW ?_
        refine⟨⟨rfl,rfl⟩,?_⟩
        refine kW ?_
        refine⟨2,?_⟩
        conv=>whnf
        refine⟨2,?_⟩
        rfl
       ·have hb:l'≠[]:=λh=>by
         have:=of_decide_eq_false hb;rw[h]at hlM
         exact this (by simpa using hlM.symm)
        conv=>whnf
        rw[<-hlM]
        refine Aa.OV rfl ?_
        conv=>whnf
        refine Aa.freeze 5 ?_
        conv=>whnf
        refine⟨DT _,?_⟩
        conv=>whnf
        repeat(refine⟨(by first|rfl|(simp;done):(_:Nat)=_),?_⟩;conv=>whnf)
        refine kW ?_
        refine⟨3,?_⟩
        conv=>whnf
        repeat(refine Bm ?_ ?_;(focus (first|rfl|(simp;done)|(exact w1 _ (by decide);done)));conv=>whnf)
        exact⟨⟨by omega,λ_=>hi.a1 (by omega),λ_=>hi.a2 (by omega),λ_=>hb,λh=>by omega,λh=>by omega,λh=>by omega⟩,by omega⟩
      ·have aF:i<ps.length:=by have:=(C2.1 hk).1;simpa using this
       obtain rfl:k=ps[i].v:=by rw[C3,Bl aF]at hk;exact(Fy.inj hk).symm
       obtain rfl:=PE hv
       conv=>whnf
       iterate 5 (refine sT rfl ?_;conv=>whnf)
       refine Aa.FP [0] Ag ?_
       conv=>whnf
       refine⟨_,_,rr,d,i,_,_,rfl,rfl,hk,hv,?_⟩
       refine kW ?_
       refine Aa.Ry [] [7,10] Ag mO (by kernel_rfl) ?_
       conv=>whnf
       refine⟨rfl,?_⟩
       conv=>whnf
       have Zdz:d.length<=ps.length:=by
        have:=Gp Qt (m:=G1 ps.length) λx hx=>E5.2 (X1 x hx)
        simpa using this
       refine⟨⟨by unfold EZ;simp,by rw[Bv,Af];unfold EZ;rw[Af];show(d.length+1)*16<=_;omega⟩,?_⟩
       refine kW ?_
       refine⟨d++[i],?_⟩
       have qZ:(EZ ps (d++[i])).map Pt.v=(EZ ps d).map Pt.v++[ps[i].v]:=by
        unfold EZ;rw[DG,DG,C1,C1,C0,Bl aF]
        rfl
       have hln:((EZ ps d).map Pt.v++[ps[i].v]).length=(d++[i]).length:=by rw[Bv,Bv,Af];unfold EZ;rw[Af];rfl
       refine kQ ?_
       refine⟨?_,?_⟩
       ·show HO.cells (q.c (.own 5 2 0 ((EZ ps d).map Pt.v++[ps[i].v]).length) Cc 0)=_
        rw[hln]
       refine kQ ?_
       refine⟨?_,?_⟩
       ·rw[qZ]
        rfl
       conv=>whnf
       have yQ:(d++[i]).Nodup:=Fk.2 ⟨Qt,by simp,λx hx y hy=>by rw[Ax.1 hy];exact λe=>hi (e▸hx)⟩
       have hd4:∀x∈d++[i],x<ps.length:=λx hx=>by
        rcases BY.1 hx with hx|hx;·exact X1 x hx
        ·rw[Ax.1 hx];exact aF
       have Zdy:(d++[i]).length<=ps.length:=by
        have:=Gp yQ (m:=G1 ps.length) λx hx=>E5.2 (hd4 x hx)
        simpa using this
       rw[Bv,D0]at Zdy
       first|exact⟨⟨yQ,hd4⟩,by rw[Bv,D0];omega⟩
    ·have he:ps≠[]:=by simpa using he
     have hex:DA q.r q.day (readAll q.F q.ls)≠[]:=λh=>he (Eg.2 λp hp'=>by have:=(hp p).1 hp';rw[h]at this;cases this)
     have hp:∀p,p∈ps↔p∈M:=λp=>by rw[hp,hM];unfold Bw;rw[Hu,if_neg hex]
     conv=>whnf
     refine Aa.GX 2 6 34 2 rfl rfl ?_;conv=>whnf
     iterate 3 (refine sT rfl ?_;conv=>whnf)
     refine Aa.FP [1] Ag ?_;conv=>whnf
     refine⟨⟨TT _,Lf _⟩,rfl,λrr=>?_⟩
     refine kW ?_;refine Aa.Aw (λd:List Nat=>mk 39 [(0,.ptr 2 0),(2,.lit false),(13,.raw (wrP rr))]) (Zfz q R us ms ps rr) (λd=>d.Nodup/\∀i∈d,i<ps.length) (λd=>ps.length-d.length) (λ_ _=>?_) ⟨[],?_⟩ (λ_=>rfl) λd hd=>?_
     ·refine⟨rfl,?_⟩;conv=>whnf
      exact⟨rfl,rfl,rfl,rfl,DT _,trivial⟩
     ·refine kQ ?_;exact λi hi=>(by cases hi)
     ·obtain⟨Qt,X1⟩:=hd;iterate 1 (refine sT rfl ?_;conv=>whnf)
      refine Aa.FP [0] Ag ?_;conv=>whnf
      refine⟨_,_,rr,d,rfl,rfl,λhe=>?_,λi k v hi hk hv=>?_⟩
      ·have he:d.length=ps.length:=by rw[he,Af]
       refine kW ?_
       refine Aj.fA 5 (MH (EZ ps d) d.length (by unfold EZ;rw[Af]) (by unfold EZ;rw[Af];omega)) rfl rfl (DT _) λr Cg hr _=>?_
       obtain⟨rfl,l',rfl,vL,hso⟩:=hr
       have vL:=vL.trans (Wq hn Qt X1 he)
       obtain rfl:l'=M:=LI (V3 vL hn hso) (by rw[hM];exact JQ _ _ _ _) λp=>by rw[vL.mem_iff,hp]
       refine⟨rfl,?_⟩
       refine kW ?_
       refine⟨⟨rfl,rfl⟩,?_⟩
       refine kW ?_
       have hlM:l'.length=d.length:=by rw[vL.length_eq,he]
       refine⟨λhb=>?_,λhb=>?_⟩
       ·have hb:l'=[]:=by
         have:=of_decide_eq_true hb
         exact Ef.1 (by omega)
        have e:Dv q.r q.l q.day l'=ID 80:=by rw[hb];rfl
        rw[hR,e]
        refine kW ?_
        refine Aj.inline Tryz.func103 rfl Ag (by kernel_rfl) λus2 U8=>?_
        refine kW ?_
        refine⟨⟨rfl,rfl⟩,?_⟩
        refine kW ?_
        refine⟨2,?_⟩
        conv=>whnf
        refine⟨2,?_⟩
        rfl
       ·have hb:l'≠[]:=λh=>by
         have:=of_decide_eq_false hb;rw[h]at hlM
         exact this (by simpa using hlM.symm)
        conv=>whnf
        rw[<-hlM]
        refine Aa.OV rfl ?_
        conv=>whnf
        refine Aa.freeze 5 ?_
        conv=>whnf
        refine⟨DT _,?_⟩
        conv=>whnf
        repeat(refine⟨(by first|rfl|(simp;done):(_:Nat)=_),?_⟩;conv=>whnf)
        refine kW ?_
        refine⟨3,?_⟩
        conv=>whnf
        repeat(refine Bm ?_ ?_;(focus (first|rfl|(simp;done)|(exact w1 _ (by decide);done)));conv=>whnf)
        exact⟨⟨by omega,λ_=>hi.a1 (by omega),λ_=>hi.a2 (by omega),λ_=>hb,λh=>by omega,λh=>by omega,λh=>by omega⟩,by omega⟩
      ·have aF:i<ps.length:=by have:=(C2.1 hk).1;simpa using this
       obtain rfl:k=ps[i].v:=by rw[C3,Bl aF]at hk;exact(Fy.inj hk).symm
       obtain rfl:=PE hv
       conv=>whnf
       iterate 5 (refine sT rfl ?_;conv=>whnf)
       refine Aa.FP [0] Ag ?_
       conv=>whnf
       refine⟨_,_,rr,d,i,_,_,rfl,rfl,hk,hv,?_⟩
       refine kW ?_
       refine Aa.Ry [] [7,10] Ag mO (by kernel_rfl) ?_
       conv=>whnf
       refine⟨rfl,?_⟩
       conv=>whnf
       have Zdz:d.length<=ps.length:=by
        have:=Gp Qt (m:=G1 ps.length) λx hx=>E5.2 (X1 x hx)
        simpa using this
       refine⟨⟨by unfold EZ;simp,by rw[Bv,Af];unfold EZ;rw[Af];show(d.length+1)*16<=_;omega⟩,?_⟩
       refine kW ?_
       refine⟨d++[i],?_⟩
       have qZ:(EZ ps (d++[i])).map Pt.v=(EZ ps d).map Pt.v++[ps[i].v]:=by
        unfold EZ;rw[DG,DG,C1,C1,C0,Bl aF]
        rfl
       have hln:((EZ ps d).map Pt.v++[ps[i].v]).length=(d++[i]).length:=by rw[Bv,Bv,Af];unfold EZ;rw[Af];rfl
       refine kQ ?_
       refine⟨?_,?_⟩
       ·show HO.cells (q.c (.own 5 2 0 ((EZ ps d).map Pt.v++[ps[i].v]).length) Cc 0)=_
        rw[hln]
       refine kQ ?_
       refine⟨?_,?_⟩
       ·rw[qZ]
        rfl
       conv=>whnf
       have yQ:(d++[i]).Nodup:=Fk.2 ⟨Qt,by simp,λx hx y hy=>by rw[Ax.1 hy];exact λe=>hi (e▸hx)⟩
       have hd4:∀x∈d++[i],x<ps.length:=λx hx=>by
        rcases BY.1 hx with hx|hx;·exact X1 x hx
        ·rw[Ax.1 hx];exact aF
       have Zdy:(d++[i]).length<=ps.length:=by
        have:=Gp yQ (m:=G1 ps.length) λx hx=>E5.2 (hd4 x hx)
        simpa using this
       rw[Bv,D0]at Zdy
       first|exact⟨⟨yQ,hd4⟩,by rw[Bv,D0];omega⟩
   ·have hR:Ai q.F q.r q.l q.day q.ls q.Ak=Dv q.r q.l q.day M:=by unfold Ai;rw[hi.a1 (by omega),if_neg (hi.a2 (by omega)),hM];rfl
    refine kW ?_;refine⟨by omega,_,g3,?_⟩
    refine kW ?_;refine Aj.LW (Xi q M) (Kc.ptr (l:=2) rfl rfl trivial) λr hr=>?_
    subst hr;refine⟨.inl rfl,?_⟩;refine kW ?_;refine⟨λhb=>?_,λhb=>?_⟩
    ·have hb:=of_decide_eq_true hb;have e:Dv q.r q.l q.day M=⟨2,M,[],81⟩:=by unfold Dv;rw[if_neg (hi.a3 (by omega)),if_pos hb]
     rw[hR,e];refine kW ?_;refine Aj.inline Tryz.func69 rfl Ag (by kernel_rfl) λus ms=>?_
     refine kW ?_;refine⟨⟨rfl,rfl⟩,?_⟩;refine kW ?_;refine⟨2,?_⟩;rfl
    ·have hb:=of_decide_eq_false hb;have hm:=List.length_pos_iff.2 (hi.a3 (by omega))
     refine kW ?_;refine⟨4,?_⟩;conv=>whnf
     repeat(refine Bm ?_ ?_;(focus (first|rfl|(simp;done)|(exact w1 _ (by decide);done)));conv=>whnf)
     exact⟨⟨by omega,λ_=>hi.a1 (by omega),λ_=>hi.a2 (by omega),λ_=>hi.a3 (by omega),λ_=>by omega,λh=>by omega,λh=>by omega⟩,by omega⟩
   ·have hR:Ai q.F q.r q.l q.day q.ls q.Ak=Dv q.r q.l q.day M:=by unfold Ai;rw[hi.a1 (by omega),if_neg (hi.a2 (by omega)),hM];rfl
    refine kW ?_;refine⟨by omega,_,g4,?_⟩
    refine kW ?_;refine Aj.inline Tryz.func70 rfl Ag (by kernel_rfl) λus ms=>?_
    refine kW ?_;refine Aa.Pe [22,25] Ag mO (by kernel_rfl) ?_
    conv=>whnf
    have hm:=hi.a4 (by omega)
    have hm3:=hi.a3 (by omega)
    refine⟨by omega,(M.headD Mv).v,(by cases M with|nil=>exact absurd rfl hm3|cons x r=>rfl),?_⟩
    conv=>whnf
    refine⟨_,⟨Lp q.l q.day (M.headD Mv) hq.l,rfl⟩,?_⟩;conv=>whnf
    rw[<-hc];refine kW ?_;refine⟨⟨rfl,rfl⟩,?_⟩;refine kW ?_;refine⟨λhb=>?_,λhb=>?_⟩
    ·have hb:c.2≠0:=by simpa using hb
     have e:Dv q.r q.l q.day M=ID c.2:=by
      unfold Dv;rw[if_neg hm3,if_neg (by omega),<-hc]
      simp only[hb,ne_eq,not_true_eq_false,not_false_eq_true,if_true,if_false]
     rw[hR,e];refine kW ?_;refine Aj.inline Tryz.func71 rfl Ag (by kernel_rfl) λus2 U8=>?_
     refine kW ?_;refine kC (E9 c.2) ?_;refine Aj.inline Tryz.func103 rfl Ag (by kernel_rfl) λus3 ms3=>?_
     refine kW ?_;refine⟨⟨rfl,rfl⟩,?_⟩;refine kW ?_;refine⟨⟨rfl,rfl⟩,?_⟩;refine kW ?_;refine⟨2,?_⟩;conv=>whnf
     refine⟨2,?_⟩;rfl
    ·have hb:c.2=0:=by simpa using hb
     refine kW ?_;refine⟨5,?_⟩;conv=>whnf
     repeat(refine Bm ?_ ?_;(focus (first|rfl|(simp;done)|(exact w1 _ (by decide);done)));conv=>whnf)
     refine⟨?_,?_⟩;·rw[hb];rfl
     refine kQ ?_;exact⟨⟨by omega,λ_=>hi.a1 (by omega),λ_=>hi.a2 (by omega),λ_=>hi.a3 (by omega),λ_=>hi.a4 (by omega),λ_=>hb,λh=>by omega⟩,by omega⟩
   ·have hR:Ai q.F q.r q.l q.day q.ls q.Ak=Dv q.r q.l q.day M:=by unfold Ai;rw[hi.a1 (by omega),if_neg (hi.a2 (by omega)),hM];rfl
    have gO:=hi.a5 (by omega)
    rw[hc]at gO;have hlen:=Io gO;rw[<-hc]at gO hlen;refine kW ?_;refine⟨by omega,_,g5,?_⟩
    refine kW ?_;refine Aj.LW (pL q M c.1 0 hlen.1 hlen.2) (Kc.ptr (l:=2) rfl rfl trivial) λr hr=>?_
    subst hr;refine⟨.inl rfl,?_⟩;refine kW ?_;refine⟨λhb=>?_,λhb=>?_⟩
    ·have hb:(AW q.r q.day (Gr c.1)).2≠0:=by simpa using hb
     have e:Dv q.r q.l q.day M=ID 3:=by
      unfold Dv;rw[if_neg (hi.a3 (by omega)),if_neg (by have:=hi.a4 (by omega);omega),<-hc]
      simp only[gO,hb,ne_eq,not_true_eq_false,not_false_eq_true,if_true,if_false]
     rw[hR,e];refine kW ?_;refine Aj.inline Tryz.func103 rfl Ag (by kernel_rfl) λus ms=>?_
     refine kW ?_;refine⟨⟨rfl,rfl⟩,?_⟩;refine kW ?_;refine⟨2,?_⟩;conv=>whnf
     refine⟨2,?_⟩;rfl
    ·have hb:(AW q.r q.day (Gr c.1)).2=0:=by simpa using hb
     refine kW ?_;refine⟨6,?_⟩;conv=>whnf
     repeat(refine Bm ?_ ?_;(focus (first|rfl|(simp;done)|(exact w1 _ (by decide);done)));conv=>whnf)
     exact⟨⟨by omega,λ_=>hi.a1 (by omega),λ_=>hi.a2 (by omega),λ_=>hi.a3 (by omega),λ_=>hi.a4 (by omega),λ_=>hi.a5 (by omega),λ_=>hb⟩,by omega⟩
  ·have h:i=6:=by have:=of_decide_eq_false h;omega
   subst h;refine kW ?_;have gO:=hi.a5 (by omega)
   rw[hc]at gO;have hlen:=Io gO;rw[<-hc]at gO hlen
   have e:Ai q.F q.r q.l q.day q.ls q.Ak=⟨1,[Gr c.1],c.1,0⟩:=by
    unfold Ai;rw[hi.a1 (by omega),if_neg (hi.a2 (by omega)),<-hM]
    show Dv q.r q.l q.day M=_
    unfold Dv;rw[if_neg (hi.a3 (by omega)),if_neg (by have:=hi.a4 (by omega);omega),<-hc]
    simp only[gO,hi.a6 (by omega),ne_eq,not_true_eq_false,not_false_eq_true,if_true,if_false]
   rw[e]
   have hw:Wr .i64 (((c.1.map Pt.v).length:Int)-1)=((c.1.length-1:Nat):Int):=by
    rw[Af,DI _ _ (by unfold DJ Cr CL Cb BI;simp;omega)]
    omega
   refine Aa.Ry [12] [18] Ag mO (by kernel_rfl) ?_
   conv=>whnf
   rw[hw];refine⟨by omega,(Gr c.1).v,by unfold Gr;simp[show c.1.length-1<c.1.length by omega],?_⟩
   refine kW ?_;rfl
structure Of where
 na:Bs
 x1:Int
 x2:Int
 x3:Int
 x4:Int
 x5:Int
 co:List Bs
def Of.v(o:Of):AV:=.agg [.str o.na,.int .i64 o.x1,.int .i64 o.x2,.int .i64 o.x3,.int .i64 o.x4,.int .i64 o.x5,Ff.AQ o.co]
def OY{α:Type}(p:α->Bool)(l:List α):Int:=match l.findIdx? p with|some i=>i|none=>-1
theorem lB{α:Type}{p:α->Bool}{l:List α}{k:Nat}(h:k<l.length)(hk:p l[k]=true)(hb:(l.take k).any p=false):OY p l=k:=by
 have:l.findIdx? p=some k:=by
  rw[List.findIdx?_eq_some_iff_getElem];refine⟨h,hk,λj hj hp=>?_⟩
  have:(l.take k).any p=true:=El.2 ⟨l[j],List.mem_iff_getElem.2 ⟨j,by rw[List.length_take];omega,by rw[List.getElem_take]⟩,hp⟩
  rw[hb]at this;cases this
 unfold OY;rw[this]
theorem Qk{α:Type}{p:α->Bool}{l:List α}(hb:l.any p=false):OY p l=-1:=by
 have:l.findIdx? p=none:=by
  rw[Fi];exact λx hx=>by rw[List.any_eq_false]at hb;simpa using hb x hx
 unfold OY;rw[this]
theorem ZaI{α:Type}(p:α->Bool)(l:List α):decide (0<=OY p l)=l.any p:=by
 cases hb:l.any p with
 |false=>rw[Qk hb];rfl
 |true=>
  unfold OY;cases hi:l.findIdx? p with
  |none=>
   rw[Fi]at hi;obtain⟨x,hx,hp⟩:=El.1 hb;rw[hi x hx]at hp;cases hp
  |some i=>simp
theorem S4{α:Type}{p:α->Bool}{l:List α}{k:Nat}(h:k<l.length)(hb:(l.take k).any p=false)(hk:p l[k]=false):(l.take (k+1)).any p=false:=by
 rw[A0 h,Hz,hb];simpa using hk
theorem index_spec(l:List Bs)(t:Bs)(hl:l.length<=100000):AO Tryz.prog 75 [Ff.AQ l,.str t] (λr=>r=.int .i64 (OY (λx=>decide (x=t)) l)):=by
 refine kB Tryz.func75 rfl ?_;refine Aa.Aw (λk:Nat=>mk 19 [(0,Ff.AQ l),(1,.str t),(6,Ff.AQ l),(7,.int .i64 l.length),(8,.int .i64 k)]) (λ_=>[]) (λk=>k<=l.length/\(l.take k).any (λx=>decide (x=t))=false) (λk=>l.length-k) (λ_ _=>⟨rfl,trivial⟩) ⟨0,?_⟩ (λ_=>rfl) λk hk=>?_
 ·conv=>whnf
  repeat(refine Bm ?_ ?_;(focus (first|rfl|(simp;done)|(rw[Af];done)));conv=>whnf)
  rfl
 ·obtain⟨hk,ha⟩:=hk;refine kR ?_;refine⟨λh=>?_,λh=>?_⟩
  ·have h:k<l.length:=by simpa using h
   have A7:=D4 k (by omega)
   refine kW ?_;refine⟨by omega,.str l[k],by simp[h],?_⟩
   refine kW ?_;refine⟨λg=>?_,λg=>?_⟩
   ·rw[lB h (by simpa using (by simpa using g:t=l[k]).symm) ha]
    exact GA
   ·have g:decide (l[k]=t)=false:=by
     have:¬t=l[k]:=by simpa using g
     exact decide_eq_false λe=>this e.symm
    refine kW ?_;refine⟨k+1,?_⟩;refine CV A7 ?_;exact⟨⟨by omega,S4 h ha g⟩,by omega⟩
  ·have h:k=l.length:=by simp at h;omega
   rw[h,BW]at ha;rw[Qk ha];exact GA
theorem VJ(l:List Bs)(t:Bs)(hl:l.length<=100000):AO Tryz.prog 42 [Ff.AQ l,.str t] (λr=>r=.bool (l.any λx=>decide (x=t))):=by
 refine kB Tryz.func42 rfl ?_;refine kC (index_spec l t hl) ?_;rw[ZaI]
theorem VI(o:Of)(a:Ad)(hl:o.co.length<=100000):AO Tryz.prog 41 [o.v,.at_ [.str a.pe,.str a.st,.int .i64 a.nu,.str a.co,.str a.tw]] (λr=>r=.bool (o.co.any λx=>decide (x=a.co))):=by
 refine kB Tryz.func41 rfl ?_;exact kCe (VJ o.co a.co hl)
theorem Z1(l:List Of)(a:Ad)(hl:l.length<=100000)(ho:∀o∈l,o.co.length<=100000):AO Tryz.prog 40 [.sl 7 (l.map Of.v),.fn 41 [.at_ [.str a.pe,.str a.st,.int .i64 a.nu,.str a.co,.str a.tw]]] (λr=>r=.int .i64 (OY (λo:Of=>o.co.any λx=>decide (x=a.co)) l)):=by
 refine kB Tryz.func40 rfl ?_;refine Aa.Aw (λk:Nat=>mk 19 [(0,.sl 7 (l.map Of.v)),(1,.fn 41 [.at_ [.str a.pe,.str a.st,.int .i64 a.nu,.str a.co,.str a.tw]]),(6,.sl 7 (l.map Of.v)),(7,.int .i64 l.length),(8,.int .i64 k)]) (λ_=>[]) (λk=>k<=l.length/\(l.take k).any (λo:Of=>o.co.any λx=>decide (x=a.co))=false) (λk=>l.length-k) (λ_ _=>⟨rfl,trivial⟩) ⟨0,?_⟩ (λ_=>rfl) λk hk=>?_
 ·conv=>whnf
  repeat(refine Bm ?_ ?_;(focus (first|rfl|(simp;done)|(rw[Af];done)));conv=>whnf)
  rfl
 ·obtain⟨hk,ha⟩:=hk;refine kR ?_;refine⟨λh=>?_,λh=>?_⟩
  ·have h:k<l.length:=by simpa using h
   have A7:=D4 k (by omega)
   refine kW ?_;refine⟨by omega,l[k].v,by simp[h],?_⟩
   refine kW ?_;refine kC (VI l[k] a (ho _ (Bh _))) ?_;refine⟨λg=>?_,λg=>?_⟩
   ·rw[lB h g ha];exact GA
   ·refine kW ?_;refine⟨k+1,?_⟩;refine CV A7 ?_;exact⟨⟨by omega,S4 h ha g⟩,by omega⟩
  ·have h:k=l.length:=by simp at h;omega
   rw[h,BW]at ha;rw[Qk ha];exact GA
structure Nt where
 x1:List AV
 x2:List AV
 x3:List AV
 O:List Of
 x5:List AV
 x6:List AV
def Nt.v(n:Nt):AV:=.agg [.sl 3 n.x1,.sl 1 n.x2,.sl 1 n.x3,.sl 7 (n.O.map Of.v),.sl 6 n.x5,.sl 3 n.x6]
def Yc(O:List Of)(r:List Ch)(day:Int)(p:Pt):Int:=if (AW r day p).2≠0 then -1 else OY (λo:Of=>o.co.any λx=>decide (x=(AW r day p).1.co)) O
theorem G5(n:Nt)(r:List Ch)(day:Int)(p:Pt)(hl:n.O.length<=100000)(ho:∀o∈n.O,o.co.length<=100000):AO Tryz.prog 21 [n.v,D5 r,.int .i64 day,p.v] (λx=>x=.int .i64 (Yc n.O r day p)):=by
 refine kB Tryz.func21 rfl ?_;refine kC (Rr.Dx r day p) ?_;unfold Yc;refine⟨λh=>?_,λh=>?_⟩
 ·rw[if_pos (by simpa using h)]
  exact GA
 ·rw[if_neg (by simpa using h)]
  refine kW ?_;generalize (AW r day p).1=a;refine Aj.SA (as':=[.sl 7 (n.O.map Of.v),.fn 41 [.at_ [.str a.pe,.str a.st,.int .i64 a.nu,.str a.co,.str a.tw]]]) ⟨mQ rfl,Zcv ⟨rQ rfl (CN _ rfl),trivial⟩,trivial⟩ (Z1 n.O a hl ho) rfl ?_;exact GA
theorem ZcQ{a b:Rs}:a=b↔a.k=b.k/\a.re=b.re/\a.ps=b.ps/\a.ch=b.ch:=by
 constructor;·rintro rfl;exact⟨rfl,rfl,rfl,rfl⟩
 ·rintro⟨h1,h2,h3,h4⟩;cases a;cases b
  simp only at h1 h2 h3 h4;subst h1 h2 h3 h4;rfl
theorem EP(a b:Rs)(h1:a.ps.length<=100000)(h2:b.ps.length<=100000)(h3:a.ch.length<=100000)(h4:b.ch.length<=100000):AO Tryz.prog 27 [a.v,b.v] (λr=>r=.bool (decide (a=b))):=by
 refine kB Tryz.func27 rfl ?_;repeat' (first|(refine Bm (λ_=>?_) (λ_=>?_)<;>conv=>whnf)|(refine kC (Hm a.ps b.ps h1 h2) ?_)|(refine kC (Hm a.ch b.ch h3 h4) ?_)|refine Dd ?_|fail)
 all_goals (simp_all[ZcQ])
def G4(F:List Ff.Fm)(r:List Ch)(l:List Od)(ls:List Bs):Bool:=decide (F.length<=10)&&Rr.Pl.Ca r&&decide (l.length<=50)&&F.all λf=>Ff.NI f ls
theorem Pb(F:List Ff.Fm)(r:List Ch)(l:List Od)(ls:List Bs):AO Tryz.prog 33 [Vc F,D5 r,Hr l,Ff.AQ ls] (λx=>x=.bool (G4 F r l ls)):=by
 refine kB Tryz.func33 rfl ?_;rw[Af];repeat' (first|(refine Bm (λ_=>?_) (λ_=>?_)<;>conv=>whnf)|(refine kC (Rr.U1 r) ?_)|refine Dd ?_|fail)
 any_goals (unfold G4;simp_all;done)
 ·rename_i h1 h2 h3;have h3:=of_decide_eq_true h3;rw[Af]at h3;exact congrArg AV.bool (by unfold G4;rw[decide_eq_false (show ¬l.length<=50 by omega),HM,Bool.false_and])
 ·rename_i h1 h2 h3;have h1:=of_decide_eq_false h1;have h2:Rr.Pl.Ca r=true:=by simpa using h2
  have h3:=of_decide_eq_false h3;rw[Af]at h3;have e:G4 F r l ls=F.all λf=>Ff.NI f ls:=by unfold G4;rw[decide_eq_true (show F.length<=10 by omega),h2,decide_eq_true (show l.length<=50 by omega)];rfl
  rw[e];refine Aa.Aw (λk:Nat=>mk 36 [(0,.sl 2 (F.map Ff.Fm.v)),(3,Ff.AQ ls),(9,.int .i64 k)]) (λ_=>[]) (λk=>k<=F.length/\((F.take k).all λf=>Ff.NI f ls)=true) (λk=>F.length-k) (λ_ _=>⟨rfl,trivial⟩) ⟨0,?_⟩ (λ_=>rfl) λk hk=>?_
  ·refine kQ ?_;rw[DE];rfl
  ·obtain⟨hk,ha⟩:=hk;refine kR ?_;refine⟨λg=>?_,λg=>?_⟩
   ·have g:k<F.length:=by simpa using g
    have A7:=D4 k (by omega)
    refine kW ?_;refine⟨by omega,F[k].v,by simp[g],?_⟩
    refine kW ?_;refine kC (Ff.Pb F[k] ls) ?_;refine⟨λh1=>?_,λh1=>?_⟩
    ·have h1:Ff.NI F[k] ls=false:=by simpa using h1
     rw[Fl.2 ⟨F[k],Bh _,by simp[h1]⟩]
     exact GA
    ·have h1:Ff.NI F[k] ls=true:=by simpa using h1
     refine kW ?_;refine⟨k+1,?_⟩;refine CV A7 ?_;exact⟨⟨by omega,by rw[A0 g,Gt,ha];simp[h1]⟩,by omega⟩
   ·have g:k=F.length:=by simp at g;omega
    rw[g,BW]at ha;rw[ha];exact GA
 ·rename_i h1;have h1:=of_decide_eq_true h1;exact congrArg AV.bool (by unfold G4;rw[decide_eq_false (show ¬F.length<=10 by omega)];rfl)
def Ja(O:List Of):Bool:=decide (O.length<=20)&&O.all λo=>decide (o.co.length<=20)
theorem XA(n:Nt)(h:n.O.length<=9223372036854775807):AO Tryz.prog 19 [n.v] (λx=>x=.bool (Ja n.O)):=by
 refine kB Tryz.func19 rfl ?_;refine Aa.Aw (λk:Nat=>mk 23 [(0,n.v),(1,.ptr 0 0),(3,.int .i64 k)]) (λ_=>[.cells [.sl 3 n.x1,.sl 1 n.x2,.sl 1 n.x3,.sl 7 (n.O.map Of.v),.sl 6 n.x5,.sl 3 n.x6]]) (λk=>k<=n.O.length/\(n.O.take k).all (λo=>decide (o.co.length<=20))=true) (λk=>n.O.length-k) (λ_ _=>⟨rfl,rfl,trivial⟩) ⟨0,?_⟩ (λ_=>rfl) λk hk=>?_
 ·refine kQ ?_;rw[DE];rfl
 ·obtain⟨hk,ha⟩:=hk;refine kR ?_;refine⟨λg=>?_,λg=>?_⟩
  ·have g:k<n.O.length:=by simpa using g
   have A7:=D4 k (by omega)
   refine kW ?_;refine⟨by omega,n.O[k].v,by simp[g],?_⟩
   refine kW ?_;rw[Af];refine⟨λh1=>?_,λh1=>?_⟩
   ·have h1:=of_decide_eq_true h1
    have e:Ja n.O=false:=by
     unfold Ja;rw[Fl.2 ⟨n.O[k],Bh _,by simp;omega⟩,HM]
    rw[e];exact GA
   ·have h1:=of_decide_eq_false h1;refine kW ?_;refine⟨k+1,?_⟩;refine CV A7 ?_;exact⟨⟨by omega,by rw[A0 g,Gt,ha];simp;omega⟩,by omega⟩
  ·have g:k=n.O.length:=by simp at g;omega
   rw[g,BW]at ha;refine kW ?_;unfold Ja;rw[ha,Bool.and_true,Af];exact congrArg AV.bool (decide_eq_decide.2 (by omega))
def YA:List Ch:=[⟨0,1,0,[49,48,48,48],[84,111,119,110],[77,97,105,110,32,83,116,114,101,101,116],1,20,0⟩,⟨0,1,0,[49,48,48,48],[84,111,119,110],[77,97,105,108,32,83,116,114,101,101,116],1,20,0⟩]
def Vd:Ff.Fm:=⟨[112,108,97,105,110],[[⟨4,[]⟩,⟨2,[]⟩],[⟨3,[57,57,57,57]⟩,⟨5,[]⟩]]⟩
def X7:Bs:=[49,48,48,48,32,84,111,119,110]
def exN:Nt:=⟨[],[],[],[⟨[],0,0,0,0,0,[[50,48,48,48]]⟩,⟨[],0,0,0,0,0,[[51,48,48,48],[49,48,48,48]]⟩,⟨[],0,0,0,0,0,[[49,48,48,48]]⟩],[],[]⟩
def yT(a b c d:Int):Od:=⟨⟨a,b⟩,⟨c,d⟩,0,9⟩
theorem ZkK:Ai [Vd] YA [] 0 [[77,97,105,110,32,83,116,114,101,101,116,32,55],X7] 2=⟨1,[⟨0,7⟩],[⟨0,7⟩],0⟩:=by kernel_rfl
theorem ZkJ:Ai [Vd] YA [] 0 [[109,97,105,110,32,115,116,46,32,55],X7] 2=⟨1,[⟨0,7⟩],[⟨0,7⟩],0⟩:=by kernel_rfl
theorem ZkE:Ai [Vd] YA [] 0 [[77,97,105,110,115,32,83,116,114,101,101,116,32,55],X7] 2=⟨1,[⟨0,7⟩],[⟨0,7⟩],0⟩:=by kernel_rfl
theorem ZkI:Ai [Vd] YA [] 0 [[77,97,105,120,32,83,116,114,101,101,116,32,55],X7] 2=⟨2,[⟨0,7⟩,⟨1,7⟩],[],81⟩:=by kernel_rfl
theorem ZkH:Ai [Vd] YA [yT 0 7 1 3,yT 1 3 0 7] 0 [[77,97,105,110,32,83,116,114,101,101,116,32,55],X7] 2=⟨3,[],[],70⟩:=by kernel_rfl
theorem ZkG:Ai [Vd] YA [yT 0 7 1 3] 0 [[77,97,105,110,32,83,116,114,101,101,116,32,55],X7] 2=⟨1,[⟨1,3⟩],[⟨0,7⟩,⟨1,3⟩],0⟩:=by kernel_rfl
theorem ZkF:Ai [Vd] YA [yT 0 7 1 30] 0 [[77,97,105,110,32,83,116,114,101,101,116,32,55],X7] 2=⟨3,[],[],3⟩:=by kernel_rfl
theorem Zhg:Ai [Vd] YA [] 0 [[77,97,105,120,32,83,116,114,101,101,116,32,55],X7] 0=⟨3,[],[],80⟩:=by kernel_rfl
theorem Zhf:Ai [Vd] YA [] 0 [[77,97,105,110,32,83,116,114,101,101,116,32,50,49],X7] 2=⟨3,[],[],80⟩:=by kernel_rfl
theorem Zhe:Ai [Vd] YA [] 0 [[77,97,105,110,32,83,116,114,101,101,116],X7] 2=⟨3,[],[],1⟩:=by kernel_rfl
theorem Zhd:Ai [Vd] YA [] 0 [[77,97,105,110,32,83,116,114,101,101,116,32,55],X7] 7=⟨3,[],[],1⟩:=by kernel_rfl
theorem GP:AO Tryz.prog 45 [] (λr=>r=D5 YA):=by
 refine kB Tryz.func45 rfl ?_;refine⟨⟨rfl,by simp[closed,An]⟩,?_⟩
 refine kW ?_;rfl
theorem WO:AO Tryz.prog 47 [] (λr=>r=Vd.v):=by
 refine kB Tryz.func47 rfl ?_;refine⟨by simp[closed,An],?_⟩
 conv=>whnf
 repeat(refine⟨(by first|rfl|(simp;done):(_:Nat)=_),?_⟩;conv=>whnf)
 refine⟨by simp[closed,An],?_⟩
 conv=>whnf
 repeat(refine⟨(by first|rfl|(simp;done):(_:Nat)=_),?_⟩;conv=>whnf)
 refine kR ?_;refine⟨⟨rfl,by simp[closed,An]⟩,?_⟩
 rfl
theorem JP(p q:Pt):AO Tryz.prog 44 [p.v,q.v] (λr=>r=(yT p.s p.n q.s q.n).v):=by
 refine kB Tryz.func44 rfl ?_;rfl
theorem X6(t:Bs)(Ak:Int)(l:List Od)(ht:t.length<=1000)(hl:l.length<=100000):AO Tryz.prog 43 [.str t,.int .i64 Ak,Hr l] (λr=>r=(Ai [Vd] YA l 0 [t,X7] Ak).v):=by
 refine kB Tryz.func43 rfl ?_;refine kC (WO) ?_;refine kC (GP) ?_;refine Aj.freeze 1 ?_ (by kernel_rfl)
 conv=>whnf
 refine⟨by intro e he;cases Ax.1 he;rfl,?_⟩
 conv=>whnf
 repeat(refine⟨(by first|rfl|(simp;done):(_:Nat)=_),?_⟩;conv=>whnf)
 refine Aj.freeze 2 ?_ (by kernel_rfl)
 conv=>whnf
 refine⟨by simp[closed,An],?_⟩
 conv=>whnf
 repeat(refine⟨(by first|rfl|(simp;done):(_:Nat)=_),?_⟩;conv=>whnf)
 refine Aj.Dk (Fw ⟨[Vd],YA,l,0,[t,X7],Ak⟩ ⟨λf hf=>?_,by show 1<=1000;decide,hl,λ_ _=>by show 2<=1000;decide,λ_ _ x hx=>?_⟩) rfl λr hr=>?_
 ·rw[Ax.1 hf];exact⟨by decide,by decide,by decide,by decide⟩
 ·rcases FB.1 hx with rfl|hx;·exact ht
  ·rw[Ax.1 hx];decide
 subst hr;refine kW ?_;rfl
theorem UJ{t:Bs}{Ak:Int}{l:List Od}{x:Rs}(h:Ai [Vd] YA l 0 [t,X7] Ak=x)(ht:t.length<=1000)(hl:l.length<=100000):AO Tryz.prog 43 [.str t,.int .i64 Ak,Hr l] (λr=>r=x.v):=by
 have:=X6 t Ak l ht hl;rwa [h]at this
theorem F1:AO Tryz.prog 22 [] (λr=>r=.bool true):=by
 refine kB Tryz.func22 rfl ?_;refine Aj.args (args':=[.str _,.int .i64 2,Hr []]) ⟨rfl,rfl,trivial,trivial⟩ ?_;refine kC (UJ ZkK (by decide) (by decide)) ?_
 refine Aj.args (args':=[.str _,.int .i64 2,Hr []]) ⟨rfl,rfl,trivial,trivial⟩ ?_;refine kC (UJ ZkJ (by decide) (by decide)) ?_
 refine Aj.args (args':=[.str _,.int .i64 2,Hr []]) ⟨rfl,rfl,trivial,trivial⟩ ?_;refine kC (UJ ZkI (by decide) (by decide)) ?_
 refine Aa.Ry [6] [9] Ag mO (by kernel_rfl) ?_
 conv=>whnf
 refine⟨_,⟨JP ⟨0,7⟩ ⟨1,3⟩,rfl⟩,?_⟩;conv=>whnf
 refine⟨_,⟨JP ⟨1,3⟩ ⟨0,7⟩,rfl⟩,?_⟩;conv=>whnf
 refine⟨_,⟨UJ ZkH (by decide) (by decide),rfl⟩,?_⟩
 conv=>whnf
 refine kW ?_;refine kC (JP ⟨0,7⟩ ⟨1,3⟩) ?_;refine Aj.freeze 15 ?_ (by kernel_rfl)
 conv=>whnf
 refine⟨by intro e he;cases Ax.1 he;rfl,?_⟩
 conv=>whnf
 repeat(refine⟨(by first|rfl|(simp;done):(_:Nat)=_),?_⟩;conv=>whnf)
 refine kC (UJ ZkG (by decide) (by decide)) ?_
 refine kC (JP ⟨0,7⟩ ⟨1,30⟩) ?_;refine Aj.freeze 17 ?_ (by kernel_rfl)
 conv=>whnf
 refine⟨by intro e he;cases Ax.1 he;rfl,?_⟩
 conv=>whnf
 repeat(refine⟨(by first|rfl|(simp;done):(_:Nat)=_),?_⟩;conv=>whnf)
 refine kC (UJ ZkF (by decide) (by decide)) ?_
 refine Aa.freeze 19 ?_;conv=>whnf
 refine⟨by simp[closed,An],?_⟩
 conv=>whnf
 repeat(refine⟨(by first|rfl|(simp;done):(_:Nat)=_),?_⟩;conv=>whnf)
 refine Aa.freeze 20 ?_;conv=>whnf
 refine⟨by simp[closed,An],?_⟩
 conv=>whnf
 repeat(refine⟨(by first|rfl|(simp;done):(_:Nat)=_),?_⟩;conv=>whnf)
 refine Aa.freeze 22 ?_;conv=>whnf
 refine⟨by simp[closed,An],?_⟩
 conv=>whnf
 repeat(refine⟨(by first|rfl|(simp;done):(_:Nat)=_),?_⟩;conv=>whnf)
 refine Aa.draw [] Ag mO (by kernel_rfl) ?_
 conv=>whnf
 refine⟨_,⟨EP ⟨1,[⟨0,7⟩],[⟨0,7⟩],0⟩ ⟨1,[⟨0,7⟩],[⟨0,7⟩],0⟩ (by decide) (by decide) (by decide) (by decide),rfl⟩,?_⟩
 conv=>whnf
 refine Bm (λh=>?_) (λh=>absurd h (by decide +kernel))
 conv=>whnf
 refine⟨_,⟨EP ⟨1,[⟨0,7⟩],[⟨0,7⟩],0⟩ ⟨1,[⟨0,7⟩],[⟨0,7⟩],0⟩ (by decide) (by decide) (by decide) (by decide),rfl⟩,?_⟩
 conv=>whnf
 refine Bm (λh=>?_) (λh=>absurd h (by decide +kernel))
 conv=>whnf
 refine⟨6,?_⟩;conv=>whnf
 refine⟨_,⟨UJ ZkE (by decide) (by decide),rfl⟩,?_⟩
 conv=>whnf
 refine⟨_,⟨EP ⟨1,[⟨0,7⟩],[⟨0,7⟩],0⟩ ⟨1,[⟨0,7⟩],[⟨0,7⟩],0⟩ (by decide) (by decide) (by decide) (by decide),rfl⟩,?_⟩
 conv=>whnf
 refine Bm (λh=>?_) (λh=>absurd h (by decide +kernel))
 conv=>whnf
 refine⟨_,⟨AO.Yn (.cons (Le.refl _) (.cons (Le.agg (.cons (Le.refl _) (.cons (Le.refl _) (.cons (Le.nil 2) (.cons (Le.refl _) .nil))))) .nil)) (EP ⟨2,[⟨0,7⟩,⟨1,7⟩],[],81⟩ ⟨2,[⟨0,7⟩,⟨1,7⟩],[],81⟩ (by decide) (by decide) (by decide) (by decide)),rfl⟩,?_⟩
 conv=>whnf
 refine Bm (λh=>?_) (λh=>absurd h (by decide +kernel))
 conv=>whnf
 refine kD ?_;refine Aj.freeze 53 ?_ (by kernel_rfl)
 conv=>whnf
 refine⟨by simp[closed,An],?_⟩
 conv=>whnf
 repeat(refine⟨(by first|rfl|(simp;done):(_:Nat)=_),?_⟩;conv=>whnf)
 refine kC (Hm [⟨1,3⟩] [⟨1,3⟩] (by decide) (by decide)) ?_
 refine kD ?_;refine Aj.freeze 54 ?_ (by kernel_rfl)
 conv=>whnf
 refine⟨by simp[closed,An],?_⟩
 conv=>whnf
 repeat(refine⟨(by first|rfl|(simp;done):(_:Nat)=_),?_⟩;conv=>whnf)
 refine kC (Hm [⟨0,7⟩,⟨1,3⟩] [⟨0,7⟩,⟨1,3⟩] (by decide) (by decide)) ?_
 refine kD ?_;refine Aj.args (args':=[.str _,.int .i64 0,Hr []]) ⟨rfl,rfl,trivial,trivial⟩ ?_;refine kC (UJ Zhg (by decide) (by decide)) ?_
 refine kD ?_;refine Aj.args (args':=[.str _,.int .i64 2,Hr []]) ⟨rfl,rfl,trivial,trivial⟩ ?_;refine kC (UJ Zhf (by decide) (by decide)) ?_
 refine kD ?_;refine Aj.args (args':=[.str _,.int .i64 2,Hr []]) ⟨rfl,rfl,trivial,trivial⟩ ?_;refine kC (UJ Zhe (by decide) (by decide)) ?_
 refine kD ?_;refine Aj.args (args':=[.str _,.int .i64 7,Hr []]) ⟨rfl,rfl,trivial,trivial⟩ ?_;refine kC (UJ Zhd (by decide) (by decide)) ?_
 refine kD ?_;refine⟨by simp[closed,An],?_⟩
 conv=>whnf
 repeat(refine⟨(by first|rfl|(simp;done):(_:Nat)=_),?_⟩;conv=>whnf)
 refine kR ?_;refine⟨by simp[closed,An],?_⟩
 conv=>whnf
 repeat(refine⟨(by first|rfl|(simp;done):(_:Nat)=_),?_⟩;conv=>whnf)
 refine kR ?_;refine⟨by simp[closed,An],?_⟩
 conv=>whnf
 repeat(refine⟨(by first|rfl|(simp;done):(_:Nat)=_),?_⟩;conv=>whnf)
 refine kR ?_;refine Aa.freeze 58 ?_;conv=>whnf
 refine⟨by intro e he;simp only[FB,Hx,or_false]at he;rcases he with rfl|rfl|rfl<;>rfl,?_⟩
 conv=>whnf
 repeat(refine⟨(by first|rfl|(simp;done):(_:Nat)=_),?_⟩;conv=>whnf)
 refine Aa.draw [] Ag mO (by kernel_rfl) ?_
 conv=>whnf
 refine kD ?_;refine⟨_,⟨GP,rfl⟩,?_⟩;conv=>whnf
 refine⟨_,⟨AO.Yn (.cons (Le.agg (.cons (Le.nil 3) (.cons (Le.nil 1) (.cons (Le.nil 1) (.cons (Le.refl _) (.cons (Le.nil 6) (.cons (Le.nil 3) .nil))))))) (.cons (Le.refl _) (.cons (Le.refl _) (.cons (Le.refl _) .nil)))) (G5 exN YA 0 ⟨0,7⟩ (by decide) (by decide)),rfl⟩,?_⟩
 conv=>whnf
 refine Bm (λh=>?_) (λh=>absurd h (by decide +kernel))
 conv=>whnf
 refine⟨_,⟨GP,rfl⟩,?_⟩;conv=>whnf
 refine⟨_,⟨AO.Yn (.cons (Le.agg (.cons (Le.nil 3) (.cons (Le.nil 1) (.cons (Le.nil 1) (.cons (Le.refl _) (.cons (Le.nil 6) (.cons (Le.nil 3) .nil))))))) (.cons (Le.refl _) (.cons (Le.refl _) (.cons (Le.refl _) .nil)))) (G5 exN YA 0 ⟨0,21⟩ (by decide) (by decide)),rfl⟩,?_⟩
 conv=>whnf
 refine Bm (λh=>?_) (λh=>absurd h (by decide +kernel))
 conv=>whnf
 refine⟨_,⟨WO,rfl⟩,?_⟩;conv=>whnf
 refine⟨_,⟨Ff.Ct Vd (by decide) (by decide) (by decide) (by decide),rfl⟩,?_⟩
 conv=>whnf
 refine Bm (λh=>?_) (λh=>absurd h (by decide +kernel))
 conv=>whnf
 refine⟨6,?_⟩;conv=>whnf
 refine⟨_,⟨KN [],rfl⟩,?_⟩;conv=>whnf
 refine Bm (λh=>?_) (λh=>absurd h (by decide +kernel))
 conv=>whnf
 refine⟨_,⟨GP,rfl⟩,?_⟩;conv=>whnf
 refine⟨_,⟨Rr.mK YA 0,rfl⟩,?_⟩;conv=>whnf
 exact kDe
theorem ZaH(l:List Pt)(p:Pt)(hl:l.length<=9223372036854775806):AO Tryz.prog 31 [Tv l,p.v] (λr=>r=.bool (decide (p∈l))):=by
 refine kB Tryz.func31 rfl ?_;refine Aa.Aw (λk:Nat=>mk 18 [(0,Tv l),(1,p.v),(3,.ptr 0 0),(5,.int .i64 k)]) (λ_=>[.cells [.int .i64 p.s,.int .i64 p.n]]) (λk=>k<=l.length/\p∉l.take k) (λk=>l.length-k) (λ_ _=>⟨rfl,rfl,trivial⟩) ⟨0,?_⟩ (λ_=>rfl) λk hk=>?_
 ·refine kQ ?_;exact λh=>(by cases h)
 ·obtain⟨hk,ha⟩:=hk;refine kR ?_;refine⟨λg=>?_,λg=>?_⟩
  ·have g:k<l.length:=by simpa using g
   have A7:=D4 k (by omega)
   refine kW ?_;refine Aa.draw [] Ag mO (by kernel_rfl) ?_
   conv=>whnf
   refine⟨by omega,l[k].v,by simp[g],?_⟩
   refine kW ?_;refine⟨λh1=>?_,λh1=>?_⟩
   ·have e:l[k]=p:=by simp at h1;exact Xr h1.1 h1.2
    rw[decide_eq_true (show p∈l by rw[<-e];exact Bh _)]
    exact GA
   ·have e:¬l[k]=p:=λe=>by rw[e]at h1;simp at h1
    refine kW ?_;refine⟨k+1,?_⟩;refine CV A7 ?_
    have ha':p∉l.take (k+1):=λh=>by
     rw[A0 g]at h;rcases BY.1 h with h|h;·exact ha h
     ·exact e (Ax.1 h).symm
    exact⟨⟨by omega,ha'⟩,by omega⟩
  ·have g:k=l.length:=by simp at g;omega
   rw[g,BW]at ha;rw[decide_eq_false ha];exact GA
theorem aJ(o:Of)(t:Bs)(hl:o.co.length<=100000):AO Tryz.prog 28 [o.v,.str t] (λr=>r=.bool (o.co.any λx=>decide (x=t))):=by
 refine kB Tryz.func28 rfl ?_;refine Aa.Aw (λk:Nat=>mk 20 [(0,o.v),(1,.str t),(2,.ptr 0 0),(5,.int .i64 k)]) (λ_=>[.cells [.str o.na,.int .i64 o.x1,.int .i64 o.x2,.int .i64 o.x3,.int .i64 o.x4,.int .i64 o.x5,Ff.AQ o.co]]) (λk=>k<=o.co.length/\((o.co.take k).any λx=>decide (x=t))=false) (λk=>o.co.length-k) (λ_ _=>⟨rfl,rfl,trivial⟩) ⟨0,?_⟩ (λ_=>rfl) λk hk=>?_
 ·refine kQ ?_;rw[DE];rfl
 ·obtain⟨hk,ha⟩:=hk;refine kR ?_;refine⟨λg=>?_,λg=>?_⟩
  ·have g:k<o.co.length:=by simpa using g
   have A7:=D4 k (by omega)
   refine kW ?_;refine⟨by omega,.str o.co[k],by simp[g],?_⟩
   refine kW ?_;refine⟨λh1=>?_,λh1=>?_⟩
   ·have h1:decide (o.co[k]=t)=true:=by simpa using h1
    rw[El.2 ⟨o.co[k],Bh _,h1⟩];exact GA
   ·have h1:decide (o.co[k]=t)=false:=by simpa using h1
    refine kW ?_;refine⟨k+1,?_⟩;refine CV A7 ?_;exact⟨⟨by omega,S4 g ha h1⟩,by omega⟩
  ·have g:k=o.co.length:=by simp at g;omega
   rw[g,BW]at ha;rw[ha];exact GA
theorem Da{f:Ff.Fm}{ls:List Bs}(h:Ff.NI f ls=true):Ff.QO f/\ls.length<=8/\(∀l∈ls,l.length<=200)/\f.lines.length<=10/\(∀l∈f.lines,l.length<=10):=by
 unfold Ff.NI at h;simp only[FX,decide_eq_true_eq,Eu]at h;obtain⟨⟨⟨⟨⟨h1,h2⟩,h3⟩,h4⟩,h5⟩,h6⟩:=h;refine⟨⟨by omega,by omega,λl hl=>by have:=h4 l hl;omega,λl hl p hp=>by have:=h5 p (List.mem_flatten.2 ⟨l,hl,hp⟩);omega⟩,h1,h6,h2,h4⟩
def FH(F:List Ff.Fm)(r:List Ch)(l:List Od)(ls:List Bs):Bool:=G4 F r l ls&&decide (F.length<=8)&&(Rr.Pl.Ca r&&Ar r)&&B1 l&&F.all Ff.A1
theorem A5{F:List Ff.Fm}{r:List Ch}{l:List Od}{ls:List Bs}(h:G4 F r l ls=true):F.length<=10/\Rr.Pl.Ca r=true/\l.length<=50/\∀f∈F,Ff.NI f ls=true:=by
 unfold G4 at h;simp only[FX,decide_eq_true_eq,Eu]at h;exact⟨h.1.1.1,h.1.1.2,h.1.2,h.2⟩
theorem FG{F:List Ff.Fm}{r:List Ch}{l:List Od}{ls:List Bs}(h:FH F r l ls=true):G4 F r l ls=true/\Good F r l/\Rr.Pl.Ca r=true:=by
 unfold FH at h;simp only[FX,decide_eq_true_eq,Eu]at h;obtain⟨⟨⟨⟨h1,h2⟩,h3,h4⟩,h5⟩,h6⟩:=h;exact⟨h1,⟨h6,h2,h4,h5⟩,h3⟩
theorem Ct(F:List Ff.Fm)(r:List Ch)(l:List Od)(ls:List Bs):AO Tryz.prog 23 [Vc F,D5 r,Hr l,Ff.AQ ls] (λx=>x=.bool (FH F r l ls)):=by
 refine kB Tryz.func23 rfl ?_;refine kC (Pb F r l ls) ?_;refine⟨λh=>?_,λh=>?_⟩;rotate_left
 ·have h:G4 F r l ls=false:=by simpa using h
  have e:FH F r l ls=false:=by unfold FH;rw[h];rfl
  rw[e];exact GA
 ·have h:G4 F r l ls=true:=by simpa using h
  obtain⟨h1,h2,h3,h4⟩:=A5 h;have e:FH F r l ls=(decide (F.length<=8)&&(Rr.Pl.Ca r&&Ar r)&&B1 l&&F.all Ff.A1):=by unfold FH;rw[h];rfl
  rw[e];refine kW ?_;rw[Af];repeat' (first|(refine Bm (λ_=>?_) (λ_=>?_)<;>conv=>whnf)|(refine kC (Rr.J5 r) ?_)|(refine kC (Ob l (by omega)) ?_)|refine Dd ?_|fail)
  any_goals (simp_all;done)
  ·rename_i g1 g2 g3;have g1:=of_decide_eq_false g1;have g2:(Rr.Pl.Ca r&&Ar r)=true:=by simpa using g2
   have g3:B1 l=true:=by simpa using g3
   have e:(decide (F.length<=8)&&(Rr.Pl.Ca r&&Ar r)&&B1 l&&F.all Ff.A1)=F.all Ff.A1:=by rw[decide_eq_true (show F.length<=8 by omega),g2,g3];rfl
   rw[e];refine Aa.Aw (λk:Nat=>mk 45 [(0,.sl 2 (F.map Ff.Fm.v)),(9,.int .i64 k)]) (λ_=>[]) (λk=>k<=F.length/\(F.take k).all Ff.A1=true) (λk=>F.length-k) (λ_ _=>⟨rfl,trivial⟩) ⟨0,?_⟩ (λ_=>rfl) λk hk=>?_
   ·refine kQ ?_;rw[DE];rfl
   ·obtain⟨hk,ha⟩:=hk;refine kR ?_;refine⟨λg=>?_,λg=>?_⟩
    ·have g:k<F.length:=by simpa using g
     have A7:=D4 k (by omega)
     refine kW ?_;refine⟨by omega,F[k].v,by simp[g],?_⟩
     refine kW ?_;refine kC (Ff.QV F[k] (Da (h4 _ (Bh g))).1) ?_;refine⟨λh1=>?_,λh1=>?_⟩
     ·have h1:Ff.A1 F[k]=false:=by simpa using h1
      rw[Fl.2 ⟨F[k],Bh _,by simp[h1]⟩]
      exact GA
     ·have h1:Ff.A1 F[k]=true:=by simpa using h1
      refine kW ?_;refine⟨k+1,?_⟩;refine CV A7 ?_;exact⟨⟨by omega,by rw[A0 g,Gt,ha];simp[h1]⟩,by omega⟩
    ·have g:k=F.length:=by simp at g;omega
     rw[g,BW]at ha;rw[ha];exact GA
  ·rename_i g1;have g1:=of_decide_eq_true g1;rw[decide_eq_false (show ¬F.length<=8 by omega)]
   rfl
theorem ZfP{F:List Ff.Fm}{r:List Ch}{l:List Od}{ls:List Bs}(h:G4 F r l ls=true)(day Ak:Int):Qn.ok ⟨F,r,l,day,ls,Ak⟩:=by
 obtain⟨h1,h2,h3,h4⟩:=A5 h;refine⟨λf hf=>(Da (h4 f hf)).1,by show F.length<=1000;omega,by show l.length<=100000;omega,λf hf=>?_,λf hf x hx=>?_⟩
 ·have:=(Da (h4 f hf)).2.1;show ls.length<=1000
  omega
 ·have:=(Da (h4 f hf)).2.2.1 x hx;omega
theorem DR{F:List Ff.Fm}{r:List Ch}{l:List Od}{ls:List Bs}(h:G4 F r l ls=true)(day Ak:Int):AO Tryz.prog 14 [Vc F,D5 r,Hr l,.int .i64 day,Ff.AQ ls,.int .i64 Ak] (λx=>x=(Ai F r l day ls Ak).v):=Fw ⟨F,r,l,day,ls,Ak⟩ (ZfP h day Ak)
theorem lA(p:Pt):∀(l:List Pt),(Sc p l).length<=l.length+1
 |[]=>by simp[Sc]
 |q::r=>by
  unfold Sc;split;·simp
  ·split;·simp
   ·have:=lA p r;simp only[Ds];omega
theorem Zw:∀(l:List Pt),(MM l).length<=l.length
 |[]=>Nat.le_refl _
 |p::l=>by
  show(Sc p (MM l)).length<=_
  have:=lA p (MM l);have:=Zw l;rw[Ds];omega
theorem GU{F:List Ff.Fm}(hF:F.length<=10)(r:List Ch)(l:List Od)(day:Int)(ls:List Bs)(Ak:Int):(Ai F r l day ls Ak).ps.length<=100000/\(Ai F r l day ls Ak).ch.length<=100000:=by
 unfold Ai;split;·exact⟨BM _,BM _⟩
 ·split;·exact⟨BM _,BM _⟩
  ·have hM:(Bw r day (readAll F ls) Ak).length<=100000:=by
    unfold Bw;refine G2 (Zw _) ?_;have h1:=QY F ls;split
    ·have h3:=Qe (Rr.Pk r day).2 Ak (readAll F ls)
     have h4:(H7 Ak (Dt (E6 r day) (readAll F ls) Ak)).length<=(Dt (E6 r day) (readAll F ls) Ak).length:=by
      unfold H7;rw[Af];exact Gs ..
     omega
    ·have h3:(DA r day (readAll F ls)).length<=(readAll F ls).length:=C4 ..;omega
   generalize Bw r day (readAll F ls) Ak=M at*;unfold Dv;split;·exact⟨BM _,BM _⟩
   ·split;·exact⟨hM,BM _⟩
    ·simp only;split;·exact⟨BM _,BM _⟩
     ·rename_i hc;split;·exact⟨BM _,BM _⟩
      ·have:=(Io (Classical.not_not.1 hc)).2
       refine⟨by show 1<=100000;decide,?_⟩
       show(AN l day (M.headD Mv)).1.length<=100000
       omega
theorem Hl{F G:List Ff.Fm}(hF:F.length<=10)(hG:G.length<=10)(r:List Ch)(l l':List Od)(day:Int)(ls:List Bs)(m n:Int):AO Tryz.prog 27 [(Ai F r l day ls m).v,(Ai G r l' day ls n).v] (λx=>x=.bool (decide (Ai F r l day ls m=Ai G r l' day ls n))):=
 EP _ _ (GU hF ..).1 (GU hG ..).1 (GU hF ..).2 (GU hG ..).2
theorem XL{F:List Ff.Fm}{r:List Ch}{l:List Od}(h:Good F r l)(day:Int)(ls:List Bs){m n:Int}(h0:0<=m)(hmn:m<=n)(h6:n<=6):
  ((Ai F r l day ls m).re=80\/Ai F r l day ls m=Ai F r l day ls n)/\((Ai F r l day ls n).re=80->(Ai F r l day ls m).re=80):=by
 rw[Cv h day ls h0 (by omega),Cv h day ls (by omega) h6]
 split;·exact⟨.inr rfl,λh=>h⟩
 ·constructor
  ·rcases Rc (r:=r) (day:=day) (A:=readAll F ls) hmn with e|e;·left;rw[e];rfl
   ·right;rw[e]
  ·intro e;have hn:=F4 h.r h.o day (Bw r day (readAll F ls) n)
   have hM:Bw r day (readAll F ls) n=[]:=by
    generalize hx:Dv r l day (Bw r day (readAll F ls) n)=x at hn e;cases hn with
    |none h=>exact h
    |E8 h=>exact absurd e (show ¬(81:Int)=80 by decide)
    |LA p e' h1 h2 h3=>rcases h2 with rfl|rfl<;>exact absurd e (by decide)
    |gone p q i h1 h2 h3=>exact absurd e (show ¬(3:Int)=80 by decide)
    |found p q i t h1 h2 h3 h4 h5 h6=>exact absurd e (show ¬(0:Int)=80 by decide)
   rw[fK hmn hM];rfl
theorem aP{F:List Ff.Fm}{r:List Ch}{l:List Od}(h:Good F r l):Good F r []:=⟨h.f,h.n,h.r,by decide⟩
theorem bB{r:List Ch}{l:List Od}(hr:Ar r=true)(hl:B1 l=true)(day:Int)(M:List Pt)(hk:(Dv r l day M).k=2):1<M.length/\Dv r l day M=⟨2,M,[],81⟩:=by
 have hn:=F4 hr hl day M;generalize Dv r l day M=x at hn hk;cases hn with
 |none h=>exact absurd hk (by decide)
 |LA p e' h1 h2 h3|gone p q i h1 h2 h3=>exact absurd hk (show ¬(3:Int)=2 by decide)
 |found p q i t h1 h2 h3 h4 h5 h6=>exact absurd hk (show ¬(1:Int)=2 by decide)
 |E8 AP=>exact⟨AP,rfl⟩
theorem Rb{r:List Ch}(hr:Ar r=true){day m:Int}{A:List Ad}:∀p∈Bw r day A m,(AW r day p).2=0:=λp hp=>by
 obtain⟨a,_,s,hs,_⟩:=Qh hr hp;rw[H8 hr hs]
theorem Vk{F:List Ff.Fm}{r:List Ch}{l:List Od}(h:Good F r l)(day:Int)(ls:List Bs){m:Int}(h0:0<=m)(h6:m<=6)(hk:(Ai F r l day ls m).k=2):
  (∀p∈(Ai F r l day ls m).ps,(AW r day p).2=0)/\Fv (Ai F r l day ls m).ps/\1<(Ai F r l day ls m).ps.length/\(Ai F r l day ls m).re=81/\Ai F r l day ls m=Ai F r [] day ls m:=by
 rw[Cv h day ls h0 h6]at hk ⊢;rw[Cv (aP h) day ls h0 h6];by_cases hb:J3 F day ls=true
 ·rw[if_pos hb]at hk;exact absurd hk (by decide)
 ·rw[if_neg hb]at hk ⊢;rw[if_neg hb];obtain⟨AP,he⟩:=bB h.r h.o day _ hk;rw[he];refine⟨Rb h.r,JQ _ _ _ _,AP,rfl,?_⟩;unfold Dv;rw[if_neg (by intro e;rw[e]at AP;simp at AP),if_pos AP]
theorem kK{F:List Ff.Fm}{r:List Ch}{l:List Od}{ls:List Bs}(h:G4 F r l ls=true):G4 F r [] ls=true:=by
 obtain⟨h1,h2,h3,h4⟩:=A5 h;unfold G4;rw[decide_eq_true h1,h2,Eu.2 h4];rfl
theorem Ie{a:Int}(ha:DJ .u8 a):0<=a/\a<=255/\Wr .i64 a=a/\0<=Int.tmod a 7/\Int.tmod a 7<=6:=by
 obtain⟨a0,a1⟩:0<=a/\a<=255:=by unfold DJ Cr CL Cb BI at ha;simp at ha;omega
 refine⟨a0,a1,DI _ _ (by unfold DJ Cr CL Cb BI;simp;omega),?_⟩
 rw[Int.tmod_eq_emod_of_nonneg a0];omega
end Go.Proofs.YtdadkhcdoaeabaaGreatDoor