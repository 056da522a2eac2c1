/- Bytes. -/
import Derived.Test.YtdadkhcdoaeabaaGreatDoorQx
import Derived.Test.YtdadkhcdoaeabaaGreatDoorQp
import Derived.Test.YtdadkhcdoaeabaaGreatDoorKg2
import Derived.Test.YtdadkhcdoaeabaaGreatDoorQs
set_option linter.unusedVariables false
set_option maxRecDepth 100000
set_option linter.unusedSectionVars false
set_option linter.unusedSimpArgs false
open List renaming getElem?_eq_getElem → Ak, getElem_mem → Bl, take_succ_eq_append_getElem → Bm, getElem?_eq_some_iff → Bv, drop_eq_getElem_cons → BI, take_length → BM, getElem?_eq_none → BY, mem_singleton → Cb, replicate → Cg, mem_append → Cr, any_eq_true → C0, mem_map → C1, mem_or_eq_of_mem_set → C2, map_set → DE, findIdx?_eq_some_iff_getElem → D0, drop_length → Eu, length_cons → EI, mem_of_getElem? → E0, mem_cons → E1, takeWhile_append_of_pos → E2, any_append → E4, map_append → E8, takeWhile_cons → Fi, getElem_of_mem → Fk, nil_append → Fl, all_eq_false → FB, getElem?_set_self → FY, all_append → FZ, set_append_right → F0, length_map → Gs, range → GK, count_le_length → GW, mem_range → G1, getD → Hs, cons → Hz, all_cons → HB, map_map → HR, getElem_map → HU, all_eq_true → H0, length_nil → H4, map_take → It
open And renaming intro → Ax
open Bool renaming and_eq_true → Bh, eq_iff_iff → Bq, not_eq_true' → CL, eq_false_iff → Ef, or_eq_true → Gt, not_eq_false' → Hx, not_eq_false → HM, and_false → Is, true_and → Ix
open Prod renaming fst → BW
open Nat renaming le_refl → C3, le_succ → C4, zero_add → Ds, lt_or_ge → El, add_sub_cancel → Fy, zero_le → G2, le_succ_of_le → HC
open Option renaming some → Ff
open Int renaming toNat_natCast → FX, toNat → H2
open Go.IntKind renaming signed → GZ, bits → HQ, min → II, max → I0, i64 → Jg, u8 → Jh
namespace Go.Proofs.YtdadkhcdoaeabaaGreatDoor.Rr
open Go.Av Go.Shelf Pl Go.RowKit
theorem Fh(b:UInt8):AO Tryz.prog 192 [.int .u8 b.toNat] (λr=>r=.bool (BJ b)):=by
 refine AO.A3 Tryz.func192 rfl Ag (by kernel_rfl) ?_
 conv=>whnf
 refine BR Ag _ ?_;conv=>whnf
 repeat' (refine Ax (λ_=>?_) (λ_=>?_)<;>conv=>whnf)
 all_goals (refine congrArg AV.bool ?_;rw[Bq];simp_all[BJ]<;>omega)
theorem Hy(b:UInt8):AO Tryz.prog 189 [.int .u8 b.toNat] (λr=>r=.bool (F6 b)):=by
 refine AO.A3 Tryz.func189 rfl Ag (by kernel_rfl) ?_
 conv=>whnf
 refine BR Ag _ ?_;conv=>whnf
 repeat' (refine Ax (λ_=>?_) (λ_=>?_)<;>conv=>whnf)
 all_goals (refine congrArg AV.bool ?_;rw[Bq];simp_all[F6]<;>omega)
theorem Dn(b:UInt8):AO Tryz.prog 191 [.int .u8 b.toNat] (λr=>r=.bool (Dg b)):=by
 refine AO.A3 Tryz.func191 rfl Ag (by kernel_rfl) ?_
 conv=>whnf
 refine BR Ag _ ?_;conv=>whnf
 repeat' (refine Ax (λ_=>?_) (λ_=>?_)<;>conv=>whnf)
 all_goals (refine congrArg AV.bool ?_;rw[Bq];simp_all[Dg]<;>omega)
theorem Ga(n:Int):AO Tryz.prog 144 [.int .i64 n] (λr=>r=.bool (Fc n)):=by
 refine AO.A3 Tryz.func144 rfl Ag (by kernel_rfl) ?_
 conv=>whnf
 refine BR Ag _ ?_;conv=>whnf
 repeat' (refine Ax (λ_=>?_) (λ_=>?_)<;>conv=>whnf)
 all_goals (refine congrArg AV.bool ?_;rw[Bq];simp_all[Fc]<;>omega)
theorem fU(n:Int):AO Tryz.prog 114 [.int .i64 n] (λr=>r=.bool (E3 n)):=by
 refine AO.A3 Tryz.func114 rfl Ag (by kernel_rfl) ?_
 conv=>whnf
 refine BR Ag _ ?_;conv=>whnf
 repeat' (refine Ax (λ_=>?_) (λ_=>?_)<;>conv=>whnf)
 all_goals (refine congrArg AV.bool ?_;rw[Bq];simp_all[E3]<;>omega)
abbrev IN(w:Bs):List AV:=w.map λb=>AV.int .u8 b.toNat
theorem EY(w:Bs)(k:Nat)(h:k<w.length):(IN w)[k]?=some (.int .u8 w[k].toNat):=by simp[h]
theorem Cu(l:List Bs):(strs l).length=l.length:=by simp
theorem Ep(l:List Bs)(k:Nat)(h:k<l.length):(strs l)[k]?=some (.str l[k]):=by simp[h]
theorem Ez(p:UInt8->Bool)(w:Bs)(k:Nat)(h:k<w.length):(w.take (k+1)).all p=((w.take k).all p&&p w[k]):=by
 rw[Bm h,FZ];simp
theorem all_false(p:UInt8->Bool)(w:Bs)(k:Nat)(h:k<w.length)(hp:p w[k]=false):w.all p=false:=FB.2 ⟨w[k],Bl h,by simp[hp]⟩
theorem ZW(w:Bs):AO Tryz.prog 148 [.str w] (λr=>r=.bool (Jp w)):=by
 refine kB Tryz.func148 rfl ?_;repeat' (first|(refine Ax (λ_=>?_) (λ_=>?_)<;>conv=>whnf)|refine Dd ?_|fail)
 ·exact congrArg AV.bool (by rename_i h1 h2;simp at h2;unfold Jp;rw[decide_eq_false (show ¬w.length<=8 by omega)];simp)
 ·rename_i h1 h2;have h1:1<=w.length:=by simp at h1;omega
  have h2:w.length<=8:=by simp at h2;omega
  have hf:Jp w=w.all Gw:=by unfold Jp;simp[h1,h2]
  refine Aa.Aw (λk:Nat=>mk 29 [(0,.str w),(2,.lit false),(14,.sl 1 (IN w)),(15,.int .i64 w.length),(16,.int .i64 k)]) (λ_=>[]) (λk=>k<=w.length/\(w.take k).all Gw=true) (λk=>w.length-k) (λ_ _=>⟨rfl,trivial⟩) ⟨0,?_⟩ (λ_=>rfl) λk hk=>?_
  ·refine kQ ?_;simp
  ·obtain⟨hk,ha⟩:=hk;refine kR ?_;refine⟨λh=>?_,λh=>?_⟩
   ·have h:k<w.length:=by simpa using h
    have A7:=D4 k (by omega)
    have ht:=Ez Gw w k h;have Ll:=all_false Gw w k h;refine kW ?_;refine⟨by omega,_,EY w k h,?_⟩
    refine kW ?_;repeat' (first|(refine Ax (λ_=>?_) (λ_=>?_)<;>conv=>whnf)|(refine kC (Hy w[k]) ?_)|(refine kC (Dn w[k]) ?_)|refine Dd ?_|fail)
    all_goals first
     |(refine congrArg AV.bool ?_
       have hn:Gw w[k]=false:=by unfold Gw;simp_all
       rw[hf,Ll hn])
     |(have hy:Gw w[k]=true:=by unfold Gw;simp_all
       refine⟨k+1,?_⟩
       refine CV A7 ?_
       exact⟨⟨by omega,by rw[ht,ha,hy];rfl⟩,by omega⟩)
   ·have h:k=w.length:=by simp at h;omega
    rw[h,BM]at ha;refine kW ?_;exact congrArg AV.bool (by rw[hf,ha])
 ·exact congrArg AV.bool (by rename_i h1;simp at h1;unfold Jp;rw[decide_eq_false (show ¬1<=w.length by omega)];simp)
theorem NK(s:Bs):AO Tryz.prog 209 [.str s,.str [32]] (λr=>r=.int .i64 (Lib.countByte s 32)):=by
 refine⟨by kernel_rfl,λC w vs AP hr=>?_⟩
 unfold Ab at hr;obtain⟨v1,_,rfl,h2,hr⟩:=hr;unfold Ab at hr;obtain⟨v2,_,rfl,h3,hr⟩:=hr;unfold Ab at hr;subst hr;unfold Ah at h2 h3;obtain⟨rfl,hs⟩:=h2;obtain⟨rfl,_⟩:=h3;refine(Tryz.strings_Count_one ⟨s.toArray⟩ 32 w).mono λe w' ⟨h3,h4⟩=>?_
 subst h4;have hc:Lib.countByte s 32<=s.length:=GW;exact⟨_,_,h3,rfl,Below.refl _ _,by unfold Ah;exact⟨rfl,by constructor<;>simp[II,I0,HQ,GZ]<;>omega⟩⟩
theorem index_spec(s:Bs):AO Tryz.prog 210 [.str s,.str [32]] (λr=>r=.int .i64 (Lib.indexByte s 32)):=by
 refine⟨by kernel_rfl,λC w vs AP hr=>?_⟩
 unfold Ab at hr;obtain⟨v1,_,rfl,h2,hr⟩:=hr;unfold Ab at hr;obtain⟨v2,_,rfl,h3,hr⟩:=hr;unfold Ab at hr;subst hr;unfold Ah at h2 h3;obtain⟨rfl,hs⟩:=h2;obtain⟨rfl,_⟩:=h3;refine(Tryz.strings_Index_one ⟨s.toArray⟩ 32 w).mono λe w' ⟨h3,h4⟩=>?_
 subst h4;have hc:-1<=Lib.indexByte s 32:=Lib.indexByte_ge s 32
 have hd:Lib.indexByte s 32<=s.length:=by
  by_cases h:Lib.indexByte s 32=-1;·omega
  ·obtain⟨o,ho⟩:∃o:Nat,Lib.indexByte s 32=o:=⟨(Lib.indexByte s 32).toNat,by omega⟩
   have:=(Bv.1 (Lib.indexByte_some ho).1).1;omega
 exact⟨_,_,h3,rfl,Below.refl _ _,by unfold Ah;exact⟨rfl,by constructor<;>simp[II,I0,HQ,GZ]<;>omega⟩⟩
theorem NM(d:List Bs)(n:Nat):∀a∈strs d++Cg n (AV.str []),closed a=true:=by
 intro a ha;rcases Cr.1 ha with ha|ha;·obtain⟨x,_,rfl⟩:=C1.1 ha;rfl
 ·rw[List.eq_of_mem_replicate ha];rfl
theorem Pn(d:List Bs)(N:Nat)(h:d.length<N):(strs d++Cg (N-d.length) (AV.str []))[0+((d.length:Nat):Int).toNat]?=some (AV.str []):=by
 obtain⟨k,hk⟩:∃k,N-d.length=k+1:=⟨N-d.length-1,by omega⟩
 rw[Ds,FX,List.getElem?_append_right (by simp[strs]),hk]
 simp[strs]
theorem Pm(d:List Bs)(N:Nat)(t:Bs)(h:d.length<N):(strs d++Cg (N-d.length) (AV.str [])).set (0+((d.length:Nat):Int).toNat) (.str t)=strs (d++[t])++Cg (N-(d++[t]).length) (AV.str []):=by
 obtain⟨k,hk⟩:∃k,N-d.length=k+1:=⟨N-d.length-1,by omega⟩
 have lG:N-(d++[t]).length=k:=by simp;omega
 rw[Ds,FX,F0 (h:=by simp[strs]),hk,lG]
 simp[strs,List.replicate_succ]
theorem IJ(s:Bs)(hs:s.length<=100000):AO Tryz.prog 171 [.str s,.str [32],.int .i64 0,.int .i64 (-1)] (λr=>r=.sl 1 (strs (splitB s))):=by
 refine kB Tryz.func171 rfl ?_;refine⟨λh=>absurd h (by decide),λ_=>?_⟩
 refine kW ?_;refine⟨λh=>absurd h (by decide),λ_=>?_⟩
 refine kW ?_;refine⟨λ_=>?_,λh=>absurd h (by decide)⟩
 refine kW ?_;refine kC (NK s) ?_;have hc:Lib.countByte s 32<=s.length:=GW;have hn:(splitB s).length=Lib.countByte s 32+1:=EC s
 have hm:min (Wr Jg ((Lib.countByte s 32:Nat)+1)) (Wr Jg ((s.length:Nat)+1))=(((splitB s).length:Nat):Int):=by
  rw[Em (by omega),Em (by omega)];omega
 rw[hm,FX];refine⟨by omega,?_⟩
 refine kW ?_;generalize hN:(splitB s).length=N at*;have hN1:1<=N:=by omega
 refine Aa.Aw (λd:List Bs×Bs=>mk 66 [(0,.str d.2),(1,.str [32]),(2,.int .i64 0),(3,.int .i64 ((N:Int)-1)),(8,.raw (Value.slice none 0 0)),(9,.own 0 1 0 N),(10,.int .i64 d.1.length)]) (λd=>[.arr 9 1 (strs d.1++Cg (N-d.1.length) (AV.str []))])
  (λd=>splitB s=d.1++splitB d.2/\d.2.length<=s.length) (λd=>N-d.1.length) (λ_ _=>⟨rfl,NM _ _,trivial⟩) ⟨([],s),?_⟩ (λ_=>rfl) λ⟨d,t⟩ hd=>?_
 ·conv=>whnf
  repeat(refine Ax ?_ ?_;(focus (first|rfl|(simp;done)|(first|(rw[Em (by omega)];done)|(simp[strs];done);done)));conv=>whnf)
  exact C3 _
 ·obtain⟨hd,ht⟩:=hd;simp only at hd ht;have SE:d.length+(splitB t).length=N:=by rw[<-hN,hd];simp
  have htp:=FN t;refine kR ?_;refine⟨λh=>?_,λh=>?_⟩
  ·have h:d.length<N-1:=by simp at h;omega
   refine kW ?_;refine kC (index_spec t) ?_;refine⟨λh2=>?_,λh2=>?_⟩
   ·exfalso;have h2:Lib.indexByte t 32=-1:=by have:=Lib.indexByte_ge t 32;simp at h2;omega
    have:=Gi (Lib.indexByte_none h2);rw[this]at SE;simp at SE;omega
   ·obtain⟨m,hm2⟩:∃m:Nat,Lib.indexByte t 32=m:=⟨(Lib.indexByte t 32).toNat,by simp at h2;omega⟩
    rw[hm2];obtain⟨i1,i2⟩:=Lib.indexByte_some hm2;have yM:m<t.length:=(Bv.1 i1).1;have yL:(m:Int)+0=m:=by omega
    refine kW ?_;rw[yL,Em (by omega)]
    refine⟨by simp only;omega,?_⟩
    refine kW ?_;refine⟨by simp only;omega,?_⟩
    refine kW ?_;refine⟨_,Pn d N (by omega),?_⟩
    refine kW ?_;have gT:(m:Int)+((([32]:List UInt8).length:Nat):Int)=((m+1:Nat):Int):=rfl;rw[gT,Em (by omega)]
    refine⟨by simp only;omega,?_⟩
    refine kW ?_;refine⟨(d++[t.take m],t.drop (m+1)),?_⟩;have lD:=PH i1 i2;conv=>whnf
    repeat(refine Ax ?_ ?_;(focus (first|rfl|(simp;done)|(first|(rw[Pr _ (by simp only;omega) (by simp only;omega)];simp;done)|(simp;omega);done)));conv=>whnf)
    refine⟨congrArg (HO.arr _ 1) (Pm d N (t.take m) (by omega)),⟨?_,by simp;omega⟩,by simp;omega⟩
    rw[hd,lD];simp
  ·have h:d.length=N-1:=by simp at h;omega
   have h1:(splitB t).length=1:=by omega
   have ht1:splitB t=[t]:=by
    refine Gi λk hk=>?_
    have h2:=EC t;have h3:0<List.count 32 t:=List.count_pos_iff.2 (E0 hk);omega
   refine kW ?_;refine⟨by simp only;omega,?_⟩
   refine kW ?_;refine⟨_,Pn d N (by omega),?_⟩
   refine kW ?_;rw[Pr _ (by simp only;omega) (by simp only;omega)]
   refine⟨by simp only;omega,?_⟩
   refine kW ?_
   have e:(strs d++Cg (N-d.length) (AV.str [])).set (0+((d.length:Nat):Int).toNat) (.str t)=strs (splitB s):=by
    have h2:N-(d++[t]).length=0:=by simp;omega
    rw[Pm d N t (by omega),h2,hd,ht1]
    simp
   refine⟨⟨?_,?_⟩,?_⟩
   ·show _=((strs d++Cg (N-d.length) (AV.str [])).set (0+((d.length:Nat):Int).toNat) (.str t)).length
    rw[e,Cu,hN];simp only;omega
   ·show ∀a∈(strs d++Cg (N-d.length) (AV.str [])).set (0+((d.length:Nat):Int).toNat) (.str t),closed a=true
    rw[e];intro a ha;obtain⟨x,_,rfl⟩:=C1.1 ha;rfl
   ·exact congrArg (AV.sl 1) e
theorem M1(s:Bs)(hs:s.length<=100000):AO Tryz.prog 129 [.str s,.str [32]] (λr=>r=.sl 1 (strs (splitB s))):=by
 refine kB Tryz.func129 rfl ?_;repeat(first|(refine cS (IJ s hs) rfl ?_;conv=>whnf)|(refine sT rfl ?_;conv=>whnf))
theorem Cn(l:List Bs):∀x∈strs l,closed x=true:=by
 intro x hx;obtain⟨y,_,rfl⟩:=C1.1 hx;rfl
theorem Ig(s:Bs):AO Tryz.prog 149 [.str s] (λr=>r=.bool (ET s)):=by
 refine kB Tryz.func149 rfl ?_;refine⟨λh1=>?_,λh1=>?_⟩
 ·refine kW ?_;exact congrArg AV.bool (by unfold ET;rw[decide_eq_false (p:=s.length<=84) (by simp at h1;omega)];rfl)
 ·have h1:s.length<=84:=by simp at h1;omega
  refine kW ?_;refine kC (M1 s (by omega)) ?_
  refine⟨λh2=>?_,λh2=>?_⟩
  ·refine kW ?_;exact congrArg AV.bool (by unfold ET;rw[decide_eq_false (p:=(splitB s).length<=4) (by simp at h2;omega)];simp)
  ·have h2:(splitB s).length<=4:=by simp at h2;omega
   have hb:ET s=(splitB s).all HV:=by unfold ET;rw[decide_eq_true h1,decide_eq_true h2];rfl
   generalize splitB s=L at*;refine kW ?_;refine Aa.Aw (λk:Nat=>mk 60 [(2,.lit false),(16,.sl 1 (strs L)),(17,.int .i64 L.length),(18,.int .i64 k)]) (λ_=>[]) (λk=>k<=L.length/\(L.take k).all HV=true) (λk=>L.length-k) (λ_ _=>⟨rfl,trivial⟩) ⟨0,?_⟩ (λ_=>rfl) λk hk=>?_
   ·refine kQ ?_;simp
   ·obtain⟨hk,ha⟩:=hk;refine kR ?_;refine⟨λh=>?_,λh=>?_⟩
    ·have h:k<L.length:=by simpa using h
     have A7:=D4 k (by omega)
     have CM:=Ep L k h;have Ql:L.take (k+1)=L.take k++[L[k]]:=Bm h
     have Pz:HV L[k]=false->AV.bool false=.bool (ET s):=λhx=>by
      rw[hb,FB.2 ⟨L[k],Bl h,by simp[hx]⟩]
     have hgo:HV L[k]=true->(L.take (k+1)).all HV=true:=λhx=>by
      rw[Ql,FZ,ha];simpa using hx
     generalize L[k]=w at*;refine kW ?_;refine⟨by omega,_,CM,?_⟩
     refine kW ?_;repeat' (first|(refine Ax (λ_=>?_) (λ_=>?_)<;>conv=>whnf)|refine Dd ?_|fail)
     ·rename_i q1 q2;exact Pz (by unfold HV;rw[decide_eq_false (p:=w.length<=20) (by simp at q2;omega)];simp)
     ·rename_i q1 q2;have q1:1<=w.length:=by simp at q1;omega
      have q2:w.length<=20:=by simp at q2;omega
      have hf:HV w=w.all B5:=by unfold HV;simp[q1,q2]
      refine Aa.Aw (λj:Nat=>mk 60 [(2,.lit false),(16,.sl 1 (strs L)),(17,.int .i64 L.length),(18,.int .i64 k),(31,.sl 1 (IN w)),(32,.int .i64 w.length),(33,.int .i64 j)]) (λ_=>[]) (λj=>j<=w.length/\(w.take j).all B5=true) (λj=>w.length-j) (λ_ _=>⟨rfl,trivial⟩) ⟨0,?_⟩ (λ_=>rfl) λj hj=>?_
      ·refine kQ ?_
       simp
      ·obtain⟨hj,G0⟩:=hj
       refine kR ?_
       refine⟨λg=>?_,λg=>?_⟩
       ·have g:j<w.length:=by simpa using g
        have E5:=D4 j (by omega)
        have ht:=Ez B5 w j g
        have Ll:=all_false B5 w j g
        refine kW ?_
        refine⟨by omega,_,EY w j g,?_⟩
        refine kW ?_
        repeat' (first|(refine Ax (λ_=>?_) (λ_=>?_)<;>conv=>whnf)|(refine kC (Hy w[j]) ?_)|(refine kC (Fh w[j]) ?_)|(refine kC (Dn w[j]) ?_)|refine Dd ?_|fail)
        all_goals first
         |(refine Pz ?_
           have hn:B5 w[j]=false:=by unfold B5;simp_all<;>omega
           rw[hf,Ll hn])
         |(have hy:B5 w[j]=true:=by unfold B5;simp_all<;>omega
           refine⟨j+1,?_⟩
           refine CV E5 ?_
           exact⟨⟨by omega,by rw[ht,G0,hy];rfl⟩,by omega⟩)
       ·have g:j=w.length:=by simp at g;omega
        rw[g,BM]at G0
        refine kW ?_
        refine⟨k+1,?_⟩
        refine CV A7 ?_
        exact⟨⟨by omega,hgo (by rw[hf,G0])⟩,by omega⟩
     ·rename_i q1;exact Pz (by unfold HV;rw[decide_eq_false (p:=1<=w.length) (by simp at q1;omega)];simp)
    ·have h:k=L.length:=by simp at h;omega
     rw[h,BM]at ha;refine kW ?_;exact congrArg AV.bool (by rw[hb,ha])
theorem Dw(b:UInt8):AO Tryz.prog 188 [.int .u8 b.toNat] (λr=>r=.int .u8 (CU b).toNat):=by
 refine kB Tryz.func188 rfl ?_;repeat' (first|(refine Ax (λ_=>?_) (λ_=>?_)<;>conv=>whnf)|(refine kC (Hy b) ?_)|refine Dd ?_|fail)
 ·rename_i h;have h2:65<=b.toNat/\b.toNat<=90:=by simpa[F6]using h
  refine congrArg (AV.int Jh) ?_;unfold CU;rw[if_pos h,UInt8.toNat_add];have e1:Wr .u8 ((b.toNat:Int)-65)=(b.toNat:Int)-65:=xR _ (by omega) (by omega)
  rw[e1,xR _ (by omega) (by omega)]
  have:(32:UInt8).toNat=32:=rfl;omega
 ·rename_i h;unfold CU;rw[if_neg (by simp[h])]
theorem kT{a b:Bs}(hl:a.length=b.length):cJ a b=true↔∀(i:Nat)(h:i<a.length),CU a[i]=CU (b[i]'(by omega)):=by
 unfold cJ;rw[decide_eq_true_eq];constructor
 ·intro h i hi;have:=congrArg (·[i]?) h;simpa[CF,hi,show i<b.length by omega]using this
 ·intro h;refine List.ext_getElem (by simp[CF,hl]) λi h1 h2=>?_
  simpa[CF]using h i (by simpa[CF]using h1)
theorem mB{a b:Bs}(h:a.length≠b.length):cJ a b=false:=by
 unfold cJ;refine decide_eq_false λe=>h ?_
 have:=congrArg List.length e;simpa[CF]using this
theorem EP(n t:Bs)(hn:n.length<=1000000):AO Tryz.prog 190 [.str n,.at_ [.str t],.at_ [.fn 188 []]] (λr=>r=.bool (cJ n t)):=by
 refine kB Tryz.func190 rfl ?_;refine⟨λh=>?_,λh=>?_⟩
 ·have h:n.length≠t.length:=by simp at h;omega
  refine kW ?_;rw[mB h]
 ·have h:n.length=t.length:=by simp at h;omega
  have hlg:=kT h;refine kW ?_;refine Aa.Aw (λk:Nat=>mk 30 [(0,.str n),(1,.at_ [.str t]),(2,.at_ [.fn 188 []]),(4,.lit false),(13,.sl 1 (IN n)),(14,.int .i64 n.length),(15,.int .i64 k)]) (λ_=>[]) (λk=>k<=n.length/\∀(i:Nat)(hi:i<n.length),i<k->CU n[i]=CU (t[i]'(by omega))) (λk=>n.length-k) (λ_ _=>⟨rfl,trivial⟩) ⟨0,?_⟩ (λ_=>rfl) λk hk=>?_
  ·refine kQ ?_;exact λi hi h=>by omega
  ·obtain⟨hk,ha⟩:=hk;refine kR ?_;refine⟨λg=>?_,λg=>?_⟩
   ·have g:k<n.length:=by simpa using g
    have A7:=D4 k (by omega)
    refine kW ?_;refine⟨by omega,_,EY n k g,?_⟩
    refine kW ?_;have hgt:t.getD (k:Int).toNat 0=t[k]'(by omega):=by simp[Hs,show k<t.length by omega]
    refine Aa.draw [] Ag mO (by kernel_rfl) ?_
    conv=>whnf
    refine⟨_,⟨Dw n[k],rfl⟩,?_⟩;conv=>whnf
    refine⟨⟨by omega,by omega⟩,?_⟩
    rw[hgt];conv=>whnf
    refine⟨_,⟨Dw (t[k]'(by omega)),rfl⟩,?_⟩
    conv=>whnf
    refine⟨λg2=>?_,λg2=>?_⟩
    ·have g2:¬CU n[k]=CU (t[k]'(by omega)):=λe=>by rw[e]at g2;simp at g2
     refine kW ?_;repeat' (first|(refine Ax (λ_=>?_) (λ_=>?_)<;>conv=>whnf)|refine Dd ?_|fail)
     refine congrArg AV.bool ?_;cases hq:cJ n t with
     |false=>rfl
     |true=>exact absurd (hlg.1 hq k g) g2
    ·have g2:CU n[k]=CU (t[k]'(by omega)):=by
      have g3:((CU n[k]).toNat:Int)=(CU (t[k]'(by omega))).toNat:=by simpa using g2
      exact UInt8.toNat_inj.1 (by omega)
     refine kW ?_;repeat' (first|(refine Ax (λ_=>?_) (λ_=>?_)<;>conv=>whnf)|refine Dd ?_|fail)
     refine⟨k+1,?_⟩;refine CV A7 ?_;refine⟨⟨g,λi hi h2=>?_⟩,by omega⟩
     rcases El i k with h3|h3;·exact ha i hi h3
     ·obtain rfl:i=k:=by omega
      exact g2
   ·have g:k=n.length:=by simp at g;omega
    refine kW ?_;rw[hlg.2 λi hi=>ha i hi (by omega)]
theorem Ue(l:List Bs)(g:Nat)(cap:List AV)(p:Bs->Bool)(hl:l.length<=100000)(hc:An cap=true)(hw:Bo [] cap=true)(hp:∀x∈l,AO Tryz.prog g (.str x::cap) (λr=>r=.bool (p x))):
  AO Tryz.prog 193 [.sl 1 (strs l),.fn g cap] (λr=>∃i:Int,r=.int .i64 i/\decide (0<=i)=l.any p):=by
 refine kB Tryz.func193 rfl ?_;have fY:=Cu l;refine Aa.Aw (λk:Nat=>mk 19 [(0,.sl 1 (strs l)),(1,.fn g cap),(7,.int .i64 l.length),(8,.int .i64 k)]) (λ_=>[]) (λk=>k<=l.length/\(l.take k).any p=false) (λk=>l.length-k) (λ_ _=>⟨by show(Bo [] cap&&_)=true;rw[hw];rfl,trivial⟩) ⟨0,?_⟩ (λ_=>rfl) λk hk=>?_
 ·refine kQ ?_;rfl
 ·obtain⟨hk,ha⟩:=hk;refine kR ?_;refine⟨λh=>?_,λh=>?_⟩
  ·have h:k<l.length:=by simpa using h
   have A7:=D4 k (by omega)
   refine kW ?_;refine⟨by omega,_,Ep l k h,?_⟩
   refine kW ?_;refine Aj.Dk (hp l[k] (Bl h)) (by simp[An,closed,hc]) λr hr=>?_
   subst hr;refine kW ?_;repeat' (first|(refine Ax (λ_=>?_) (λ_=>?_)<;>conv=>whnf)|refine Dd ?_|fail)
   ·rename_i h5;exact⟨_,rfl,by rw[show l.any p=true from C0.2 ⟨l[k],Bl h,h5⟩];simp⟩
   ·rename_i h5;refine⟨k+1,?_⟩;refine CV A7 ?_;exact⟨⟨by omega,by rw[Bm h,E4,ha];simpa using h5⟩,by omega⟩
  ·have h:k=l.length:=by simp at h;omega
   rw[h,BM]at ha;refine kW ?_;exact⟨_,rfl,by rw[ha];decide⟩
theorem Fq(l:List Bs)(g:Nat)(cap:List AV)(p:Bs->Bool)(hl:l.length<=100000)(hc:An cap=true)(hw:Bo [] cap=true)(hp:∀x∈l,AO Tryz.prog g (.str x::cap) (λr=>r=.bool (p x))):
  AO Tryz.prog 150 [.sl 1 (strs l),.fn g cap] (λr=>r=.bool (l.any p)):=by
 refine kB Tryz.func150 rfl ?_;refine Aj.Dk (Ue l g cap p hl hc hw hp) (by simp[An,closed,hc]) λr hr=>?_
 obtain⟨i,rfl,hi⟩:=hr;refine kW ?_;rw[<-hi]
theorem G3(s:St)(t:Bs)(hs:s.al.length<=1000)(Yu:s.na.length<=1000)(hsa:∀x∈s.al,x.length<=1000):AO Tryz.prog 146 [s.v,.str t] (λr=>r=.bool (Be s t)):=by
 refine kB Tryz.func146 rfl ?_;refine Aj.SA (as':=[.str s.na,.at_ [.str t],.at_ [.fn 188 []]]) ⟨mQ rfl,Zfu rfl (CN _ rfl),Zfu rfl (CN _ rfl),trivial⟩ (EP s.na t (by omega)) rfl ?_
 conv=>whnf
 refine⟨λh=>?_,λh=>?_⟩
 ·refine kW ?_;refine Aj.SA (as':=[.sl 1 (strs s.al),.fn 190 [.at_ [.str t],.at_ [.fn 188 []]]]) ⟨mQ rfl,Zcv ⟨rQ rfl (CN _ rfl),rQ rfl (CN _ rfl),trivial⟩,trivial⟩ (Fq s.al _ _ (λa=>cJ a t) (by omega) rfl rfl λx hx=>EP x t (by have:=hsa x hx;omega)) rfl ?_
  refine kW ?_;unfold Be;rw[h];rfl
 ·refine kW ?_;unfold Be;rw[h];rfl
theorem mT(c:Ch):AO Tryz.prog 115 [c.v] (λr=>r=.bool (AY c)):=by
 refine kB Tryz.func115 rfl ?_;repeat' (first|(refine Ax (λ_=>?_) (λ_=>?_)<;>conv=>whnf)|(refine kC (ZW c.co) ?_)|(refine kC (Ig c.to) ?_)|(refine kC (Ig c.na) ?_)|(refine kC (Ga c.lo) ?_)|(refine kC (Ga c.hi) ?_)|refine Dd ?_|fail)
 all_goals (refine congrArg AV.bool ?_;simp only[decide_eq_false_iff_not,decide_eq_true_eq]at *;simp_all[AY])
 all_goals (intro h;omega)
def JS:AV:=.mp [.int .i64 1,.int .i64 2,.int .i64 3,.int .i64 4,.int .i64 5,.int .i64 6]
 [.fn 140 [],.fn 141 [],.fn 142 [],
  .fn 143 [],.fn 145 [],.fn 147 []]
theorem ZK:AO Tryz.prog 112 [] (λr=>r=JS):=by
 refine kB Tryz.func112 rfl ?_;repeat(refine⟨by intro a ha;(repeat(rcases E1.1 ha with rfl|ha;(first|exact rfl|skip)))<;>first|rfl|(cases ha;done),?_⟩;(conv=>whnf))
 refine kR ?_;rfl
abbrev Vt:AV:=.raw (.slice none 0 0)
def RH(n:AV)(e p:Int):List HO:=[.dead,.cells [n],.cells [.int .i64 e],.cells [.int .i64 p]]
theorem bN(e p:Int)(l:List AV):jG Tryz.prog 111 [.ptr 1 0,.ptr 2 0,.ptr 3 0] (RH (.sl 8 l) e p) none (λH=>H=RH (.sl 8 l) e p):=by
 refine jG.A3 Tryz.func111 rfl rfl Ag (by kernel_rfl) rfl ?_
 conv=>whnf
 refine⟨⟨by kernel_rfl,rfl⟩,?_⟩
 conv=>whnf
 refine Gj Ag _ ?_;conv=>whnf
 rfl
set_option maxHeartbeats 4000000 in
theorem bM(e p e' p':Int):jG Tryz.prog 111 [.ptr 1 0,.ptr 2 0,.ptr 3 0] (RH Vt e p) (some (.iface 170 (.agg [.int .i64 e',.int .i64 p']))) (λH=>H=RH Vt e' p'):=by
 refine jG.A3 Tryz.func111 rfl rfl Ag (by kernel_rfl) rfl ?_
 conv=>whnf
 refine⟨⟨by kernel_rfl,rfl⟩,?_⟩
 conv=>whnf
 refine Gj Ag _ ?_;conv=>whnf
 refine U4.Zbg (.one 0 (.one 1 (.one 2 (.one 3 (.one 4 (.one 5 (.one 6 .done .none) .none) .none) (.one 4 (.one 3 (.one 5 (.one 6 .done .none) .none) (.one 5 (.one 3 (.one 6 .done .none) .none) .none)) .none)) (.one 4 (.one 2 (.one 3 (.one 5 (.one 6 .done .none) .none) (.one 5 (.one 3 (.one 6 .done .none) .none) .none)) (.one 5 (.one 2 (.one 3 (.one 6 .done .none) .none) .none) .none)) .none)) (.one 2 (.one 1 (.one 3 (.one 4 (.one 5 (.one 6 .done .none) .none) .none) (.one 4 (.one 3 (.one 5 (.one 6 .done .none) .none) (.one 5 (.one 3 (.one 6 .done .none) .none) .none)) .none)) (.one 3 (.one 1 (.one 4 (.one 5 (.one 6 .done .none) .none) .none) (.one 4 (.one 1 (.one 5 (.one 6 .done .none) .none) .none) .none)) (.one 4 (.one 1 (.one 3 (.one 5 (.one 6 .done .none) .none) (.one 5 (.one 3 (.one 6 .done .none) .none) .none)) (.one 3 (.one 1 (.one 5 (.one 6 .done .none) .none) .none) .none)) .none))) (.one 4 (.one 1 (.one 2 (.one 3 (.one 5 (.one 6 .done .none) .none) (.one 5 (.one 3 (.one 6 .done .none) .none) .none)) (.one 5 (.one 2 (.one 3 (.one 6 .done .none) .none) .none) .none)) (.one 2 (.one 1 (.one 3 (.one 5 (.one 6 .done .none) .none) (.one 5 (.one 3 (.one 6 .done .none) .none) .none)) (.one 3 (.one 1 (.one 5 (.one 6 .done .none) .none) .none) .none)) .none)) .none))) (.one 2 (.one 0 (.one 1 (.one 3 (.one 4 (.one 5 (.one 6 .done .none) .none) .none) (.one 4 (.one 3 (.one 5 (.one 6 .done .none) .none) (.one 5 (.one 3 (.one 6 .done .none) .none) .none)) .none)) (.one 3 (.one 1 (.one 4 (.one 5 (.one 6 .done .none) .none) .none) (.one 4 (.one 1 (.one 5 (.one 6 .done .none) .none) .none) .none)) (.one 4 (.one 1 (.one 3 (.one 5 (.one 6 .done .none) .none) (.one 5 (.one 3 (.one 6 .done .none) .none) .none)) (.one 3 (.one 1 (.one 5 (.one 6 .done .none) .none) .none) .none)) .none))) (.one 3 (.one 0 (.one 1 (.one 4 (.one 5 (.one 6 .done .none) .none) .none) (.one 4 (.one 1 (.one 5 (.one 6 .done .none) .none) .none) .none)) (.one 4 (.one 0 (.one 1 (.one 5 (.one 6 .done .none) .none) .none) .none) .none)) (.one 4 (.one 0 (.one 1 (.one 3 (.one 5 (.one 6 .done .none) .none) (.one 5 (.one 3 (.one 6 .done .none) .none) .none)) (.one 3 (.one 1 (.one 5 (.one 6 .done .none) .none) .none) .none)) (.one 3 (.one 0 (.one 1 (.one 5 (.one 6 .done .none) .none) .none) .none) .none)) .none))) (.one 4 (.one 0 (.one 1 (.one 2 (.one 3 (.one 5 (.one 6 .done .none) .none) (.one 5 (.one 3 (.one 6 .done .none) .none) .none)) (.one 5 (.one 2 (.one 3 (.one 6 .done .none) .none) .none) .none)) (.one 2 (.one 1 (.one 3 (.one 5 (.one 6 .done .none) .none) (.one 5 (.one 3 (.one 6 .done .none) .none) .none)) (.one 3 (.one 1 (.one 5 (.one 6 .done .none) .none) .none) .none)) .none)) (.one 2 (.one 0 (.one 1 (.one 3 (.one 5 (.one 6 .done .none) .none) (.one 5 (.one 3 (.one 6 .done .none) .none) .none)) (.one 3 (.one 1 (.one 5 (.one 6 .done .none) .none) .none) .none)) (.one 3 (.one 0 (.one 1 (.one 5 (.one 6 .done .none) .none) .none) .none) .none)) .none)) .none))) Ag (by kernel_rfl) (by kernel_rfl) (by kernel_rfl) ?_
 repeat' (first|exact True.intro|(refine EnF.step ?_;conv=>whnf)|(refine Ax ?_ ?_<;>conv=>whnf))
 all_goals rfl
theorem TV(F:List HO):∀(rest:List HO)(K:List HO->Prop),BL F [] [] rest K↔K (rest.map (GR F))
 |[],K=>by simp[BL]
 |o::r,K=>by
  rw[BL,LM,TV F r];simp
theorem uJ(F:List HO)(a b c:List AV)(o0 o1 o2 o3 x0 x1 x2 x3:HO)(r:List HO)(K:List HO->Prop):BL F [.dead,.cells a,.cells b,.cells c] [o0,o1,o2,o3] (x0::x1::x2::x3::r) K↔K (GR F x0::o1::o2::o3::r.map (GR F)):=by
 simp only[BL,TV,LM]
theorem sX(n:AV)(e p:Int):∀i,Iw (RH n e p) i=false
 |0|1|2|3|i+4=>rfl
def Gg(L:List (St×Sv)):Tok:=L.map λx=>(x.2,x.1.al)
def Cf(L:List (St×Sv)):List AV:=L.map λx=>x.1.r x.2
def Yj(vs:List Value)(L:List (St×Sv)):List HO:=
 [.inv (GG 9 (Gg L)),.cells [Vt],.cells [.int .i64 0],.cells [.int .i64 0],.ghost [.ptr 1 0,.ptr 2 0,.ptr 3 0] vs [],.cells [.own 6 8 0 L.length],.arr 97 8 (Cf L)]
theorem ZkV{P:Program}{c:Code}{E:List AV}{H:List HO}{K:KK}{X:XX}(h:∀K' X',K'=K->X'=X->Aa P c E H K' X'):Aa P c E H K X:=h K X rfl rfl
theorem GS(L:List (St×Sv)):∀a∈Cf L,closed a=true:=by
 intro a ha;obtain⟨x,_,rfl⟩:=C1.1 ha;rfl
structure BX(s:St)(n:Nat):Prop where
 na:s.na.length<=84
 al:s.al.length<=n
 rF:∀a∈s.al,a.length<=84
 lo:1<=s.lo/\s.lo<=9999
 hi:1<=s.hi/\s.hi<=9999
 sh:1<=s.lo-s.sh/\s.lo-s.sh<=9999
def DU(r:List Ch)(i:Nat):Option Int:=if i=0 then none else (r[i-1]?).map Ch.da
structure Zk1(r:List Ch)(i:Nat)(L:List (St×Sv)):Prop where
 le:i<=r.length
 cnt:L.length<=i
 m:L.length<=60
 ok:∀x∈L,BX x.1 i
 run:IZ (r.drop i) i (DU r i) (L.map BW)=Dq r
def zX(x:List St×Int×Int):AV:=.tuple [KD x.1,.int .i64 x.2.1,.int .i64 x.2.2]
theorem ZkB(r:List Ch)(R:AV->Prop)(vs:List Value)(o:HO){E:List AV}(rest:List HO)(e p:Int)(hR:R (.tuple [.sl 8 [],.int .i64 e,.int .i64 p])):
  Ya Tryz.prog Jt Tryz.f73.results.toList R 111 4 (some (.iface 170 (.agg [.int .i64 e,.int .i64 p]))) (D5 r::.any::.ptr 1 0::.ptr 2 0::.ptr 3 0::E) (o::.cells [Vt]::.cells [.int .i64 0]::.cells [.int .i64 0]::.ghost [.ptr 1 0,.ptr 2 0,.ptr 3 0] vs []::rest):=by
 unfold Ya;refine AL.2 ⟨.ghost [.ptr 1 0,.ptr 2 0,.ptr 3 0] vs [],rfl,?_⟩;refine W4.ZfQ (bM 0 0 e p) rfl rfl ⟨rfl,rfl,rfl,rfl,rfl,rfl,trivial⟩ ?_;rintro H1 rfl;rw[Hj,GQ (sX _ _ _)];show BL (RH Vt 0 0) [.dead,.cells [Vt],.cells [.int .i64 0],.cells [.int .i64 0]] [.dead,.cells [Vt],.cells [.int .i64 e],.cells [.int .i64 p]] (o::.cells [Vt]::.cells [.int .i64 0]::.cells [.int .i64 0]::.ghost [.ptr 1 0,.ptr 2 0,.ptr 3 0] vs []::rest) _
 rw[uJ];generalize List.map (GR (RH Vt 0 0)) (HO.ghost [.ptr 1 0,.ptr 2 0,.ptr 3 0] vs []::rest)=r2;conv=>whnf
 refine⟨8,?_⟩;conv=>whnf
 exact hR
theorem ZkC(r:List Ch)(R:AV->Prop)(vs:List Value)(o:HO){E:List AV}(rest:List HO)(l:List AV)(e p:Int)(hR:R (.tuple [.sl 8 l,.int .i64 e,.int .i64 p])):
  Ya Tryz.prog Jt Tryz.f73.results.toList R 111 4 none (D5 r::.any::.ptr 1 0::.ptr 2 0::.ptr 3 0::E) (o::.cells [.sl 8 l]::.cells [.int .i64 e]::.cells [.int .i64 p]::.ghost [.ptr 1 0,.ptr 2 0,.ptr 3 0] vs []::rest):=by
 unfold Ya;refine AL.2 ⟨.ghost [.ptr 1 0,.ptr 2 0,.ptr 3 0] vs [],rfl,?_⟩;refine W4.ZfQ (bN e p l) rfl rfl ⟨rfl,rfl,rfl,rfl,rfl,rfl,trivial⟩ ?_;rintro H1 rfl;rw[Hj,GQ (sX _ _ _)];show BL (RH (.sl 8 l) e p) [.dead,.cells [.sl 8 l],.cells [.int .i64 e],.cells [.int .i64 p]] [.dead,.cells [.sl 8 l],.cells [.int .i64 e],.cells [.int .i64 p]] (o::.cells [.sl 8 l]::.cells [.int .i64 e]::.cells [.int .i64 p]::.ghost [.ptr 1 0,.ptr 2 0,.ptr 3 0] vs []::rest) _
 rw[uJ];generalize List.map _ (HO.ghost [.ptr 1 0,.ptr 2 0,.ptr 3 0] vs []::rest)=r2;conv=>whnf
 exact hR
def stC(s:St):List AV:=[.str s.co,.str s.to,.str s.na,.sl 1 (strs s.al),.int .i64 s.lo,.int .i64 s.hi,.int .i64 s.sh,.bool s.op]
theorem vR(s:St)(t:Bs)(hs:s.al.length<=1000)(Yu:s.na.length<=1000)(hsa:∀x∈s.al,x.length<=1000):AO Tryz.prog 151 [.str t,.at_ (stC s)] (λr=>r=.bool (Be s t)):=by
 refine kB Tryz.func151 rfl ?_;exact kCe (G3 s t hs Yu hsa)
theorem Po{f:Nat->Bool}{k:Nat}(h:(GK k).any f=false)(hk:f k=false):(GK (k+1)).any f=false:=by
 rw[List.range_succ,E4,h];simp[hk]
theorem Un{l:List St}{n k:Nat}(hn:n<l.length)(hk:k<l.length):O2 l n l[n] k=(decide (k≠n)&&Qr l[n] l[k]):=by
 unfold O2;rw[Ak hk]
theorem Ph{l:List St}{n:Nat}(hn:n<l.length):EL l n=(GK l.length).any (O2 l n l[n]):=by
 unfold EL;rw[Ak hn]
theorem Yi(l:List St)(n:Nat)(hn:n<l.length)(hl:l.length<=1000)(hb:∀s∈l,s.al.length<=1000/\s.na.length<=1000/\∀x∈s.al,x.length<=1000):
  AO Tryz.prog 117 [.at_ [KD l],.int .i64 n] (λr=>r=.bool (EL l n)):=by
 refine kB Tryz.func117 rfl ?_;refine⟨by omega,(l[n]).v,by simp[hn],?_⟩
 conv=>whnf
 refine kW ?_;obtain⟨b1,b2,b3⟩:=hb l[n] (Bl hn);refine Aa.Aw (λk:Nat=>mk 70 [(0,.at_ [KD l]),(1,.int .i64 n),(5,.ptr 0 0),(18,KD l),(19,.int .i64 l.length),(20,.int .i64 k)]) (λk=>[.cells (stC l[n])]) (λk=>k<=l.length/\(GK k).any (O2 l n l[n])=false) (λk=>l.length-k) (λ_ _=>⟨rfl,rfl,trivial⟩) ⟨0,?_⟩ (λ_=>rfl) λk hk=>?_
 ·conv=>whnf
  repeat(refine Ax ?_ ?_;(focus (first|rfl|(simp;done)|(simp;done)));conv=>whnf)
  rfl
 ·obtain⟨hk,ha⟩:=hk;have A7:=D4 k (by omega)
  refine kR ?_;refine⟨λh=>?_,λh=>?_⟩
  ·have h:k<l.length:=by simpa using h
   refine kR ?_;refine⟨by omega,(l[k]).v,by simp[h],?_⟩
   conv=>whnf
   refine kR ?_;repeat' (first|(refine Ax (λ_=>?_) (λ_=>?_)<;>conv=>whnf)|refine Dd ?_|fail)
   ·refine⟨k+1,?_⟩;refine CV A7 ?_;exact⟨⟨by omega,Po ha (by rw[Un hn h];unfold Qr;simp_all<;>omega)⟩,by omega⟩
   ·rename_i h1 h2 h3 h4 h5 h6
    have hit:∀b,(Be l[n] l[k].na||l[k].al.any (Be l[n]))=b->O2 l n l[n] k=b:=λb hb=>by
     have q1:k≠n:=λe=>by subst e;simp at h1
     have q2:l[n].op=true:=by simpa using h2
     have q3:l[k].op=true:=by simpa using h3
     have q4:l[n].co=l[k].co:=by simpa using h4
     have q5:l[n].lo<=l[k].hi:=by simp at h5;omega
     have q6:l[k].lo<=l[n].hi:=by simp at h6;omega
     rw[Un hn h];unfold Qr;rw[hb,decide_eq_true q1,q2,q3,decide_eq_true q4,decide_eq_true q5,decide_eq_true q6];rfl
    have yes:(Be l[n] l[k].na||l[k].al.any (Be l[n]))=true->EL l n=true:=λe=>by
     rw[Ph hn];exact C0.2 ⟨k,G1.2 h,hit true e⟩
    obtain⟨c1,c2,c3⟩:=hb l[k] (Bl h);refine cS (G3 l[n] l[k].na b1 b2 b3) rfl ?_;refine kW ?_;refine⟨λh7=>?_,λh7=>?_⟩
    ·refine kW ?_;refine Aj.SA (as':=[.sl 1 (strs l[k].al),.fn 151 [.at_ (stC l[n])]]) ⟨mQ rfl,Zcv ⟨rQ rfl (CN _ rfl),trivial⟩,trivial⟩ (Fq l[k].al _ _ (Be l[n]) (by omega) rfl rfl λx hx=>vR l[n] x b1 b2 b3) rfl ?_
     refine kW ?_;refine⟨λh8=>?_,λh8=>?_⟩
     ·refine kW ?_;rw[yes (by rw[h7,h8];rfl)]
     ·refine kW ?_;refine⟨k+1,?_⟩;refine CV A7 ?_;exact⟨⟨by omega,Po ha (hit false (by rw[h7,h8];rfl))⟩,by omega⟩
    ·refine kW ?_;rw[yes (by rw[h7];rfl)]
   all_goals first
    |(refine⟨k+1,?_⟩
      refine CV A7 ?_
      exact⟨⟨by omega,Po ha (by rw[Un hn h];unfold Qr;simp_all<;>omega)⟩,by omega⟩)
  ·have h:k=l.length:=by simp at h;omega
   refine kR ?_;rw[Ph hn,<-h,ha]
def chC(c:Ch):List AV:=[.int .i64 c.da,.int .i64 c.ki,.int .i64 c.sr,.str c.co,.str c.to,.str c.na,.int .i64 c.lo,.int .i64 c.hi,.int .i64 c.sh]
def Jn(p:Option Int)(d:Int):Bool:=match p with|some x=>decide (d<x)|none=>false
theorem step_eq(p:Option Int)(i:Nat)(l:List St)(c:Ch):EN p i l c=if 60<=i then .error 2 else if Jn p c.da then .error 50 else if !(E3 c.da&&AY c)then .error 1
  else match KE l c with
  |.error e=>.error e
  |.ok (l',n)=>if EL l' n then .error 51 else .ok l':=by cases p<;>rfl
theorem S7{p:Option Int}{i:Nat}{l:List St}{c:Ch}(h:60<=i):EN p i l c=.error 2:=by rw[step_eq,if_pos h]
theorem V1{p:Option Int}{i:Nat}{l:List St}{c:Ch}(h:¬60<=i)(hd:Jn p c.da=true):EN p i l c=.error 50:=by rw[step_eq,if_neg h,if_pos hd]
theorem N6{p:Option Int}{i:Nat}{l:List St}{c:Ch}(h:¬60<=i)(hd:Jn p c.da=false)(hu:(E3 c.da&&AY c)=false):EN p i l c=.error 1:=by
 rw[step_eq,if_neg h,if_neg (by simp[hd]),if_pos (by simp[hu])]
theorem step_mk{p:Option Int}{i:Nat}{l:List St}{c:Ch}(h:¬60<=i)(hd:Jn p c.da=false)(hu:(E3 c.da&&AY c)=true):EN p i l c=match KE l c with
  |.error e=>.error e
  |.ok (l',n)=>if EL l' n then .error 51 else .ok l':=by
 rw[step_eq,if_neg h,if_neg (by simp[hd]),if_neg (by simp[hu])]
theorem CD{l:List St}{c:Ch}(h:c.ki≠1)(ho:Eb l c.sr=false):KE l c=.error 3:=by
 unfold KE;rw[if_neg h,if_neg (by simp[ho])]
theorem LU{l:List St}{n:Int}(h:n<0):Eb l n=false:=by
 unfold Eb;rw[decide_eq_false (by omega)]
 rfl
theorem Zae{L:List (St×Sv)}{n:Int}(h0:0<=n)(h:(L.length:Int)<=n):Eb (L.map BW) n=false:=by
 unfold Eb;rw[BY (by simp;omega)]
 simp
theorem kJ{L:List (St×Sv)}{n:Int}(h0:0<=n)(h:n.toNat<L.length):Eb (L.map BW) n=L[n.toNat].1.op:=by
 unfold Eb;rw[Ak (by simpa using h),decide_eq_true h0]
 simp
theorem OG{L:List (St×Sv)}{n:Int}(h:Eb (L.map BW) n=true):(0<=n/\n<L.length)/\n.toNat<L.length:=by
 unfold Eb at h;simp only[Bh,decide_eq_true_eq]at h;obtain⟨h0,h1⟩:=h;split at h1
 ·rename_i s hs;have:=(Bv.1 hs).1;simp at this;omega
 ·cases h1
theorem sV(L:List (St×Sv))(c:Ch):(Cf L++[AV.agg [.str c.co,.str c.to,.str c.na,.raw (Value.slice none 0 0),.int .i64 c.lo,.int .i64 c.hi,.int .i64 0,.lit true]]).map Dj=Cf (L++[(Qd c,Sv.nil)]):=by
 unfold Cf;simp only[E8,HR,List.map_cons,List.map_nil];rfl
theorem eN(L:List (St×Sv)):(Cf L).map Dj=Cf L:=by
 unfold Cf;rw[HR];rfl
theorem I1(L:List (St×Sv))(n:Nat)(s:St)(x:Sv):(Cf L).set (0+n) (s.r x)=Cf (L.set n (s,x)):=by
 unfold Cf;rw[Ds,DE]
theorem nJ(L:List (St×Sv))(n:Nat)(s:St)(x:Sv):((Cf L).set (0+n) (AV.agg [.str s.co,.str s.to,.str s.na,.raw x.v,.int .i64 s.lo,.int .i64 s.hi,.int .i64 s.sh,.lit s.op])).map Dj=Cf (L.set n (s,x)):=by
 rw[DE,eN];exact I1 L n s x
theorem N1{L:List (St×Sv)}{n:Nat}(h:n<L.length){s:St}(hs:s.al=L[n].1.al):Gg (L.set n (s,L[n].2))=Gg L:=by
 unfold Gg;rw[DE];simp only[hs];apply List.ext_getElem?;intro k;rw[List.getElem?_set];split
 ·rename_i e;subst e;simp[h]
 ·rfl
theorem rY(L:List (St×Sv))(c:Ch):Gg L++[(Sv.nil,[])]=Gg (L++[(Qd c,Sv.nil)]):=by
 unfold Gg;rw[E8];rfl
theorem Zab(L:List (St×Sv))(x:AV)(y:St×Sv):HO.cells [AV.own 6 8 0 (Cf L++[x]).length]=.cells [.own 6 8 0 (L++[y]).length]:=by
 simp[Cf]
theorem Zcu(L:List (St×Sv))(x:AV)(h:L.length<=60):Wr .i64 (((Cf L++[x]).length:Int)-1)=(L.length:Int):=by
 have e:(Cf L++[x]).length=L.length+1:=by simp[Cf]
 rw[e,Em (by omega)]
 omega
theorem YO{L:List (St×Sv)}{n:Nat}(h:n<L.length):(Gg L)[n]?=some (L[n].2,L[n].1.al):=by
 unfold Gg;simp[h]
theorem dV{L:List (St×Sv)}{n:Nat}(h:n<L.length){a:AV}:((Cf L).set (0+n) a)[0+n]?=some a:=by
 rw[Ds,FY (by simpa[Cf]using h)]
theorem Zc{L:List (St×Sv)}{n:Nat}(h:n<L.length){a b:AV}:(((Cf L).set (0+n) b).set (0+n) a)[0+n]?=some a:=by
 rw[Ds,FY (by simpa[Cf]using h)]
theorem nK(L:List (St×Sv))(n:Nat)(s:St)(x:Sv){a b c:AV}(hc:c=s.r x):(((Cf L).set (0+n) a).set (0+n) b).set (0+n) c=Cf (L.set n (s,x)):=by
 rw[List.set_set,List.set_set,hc];exact I1 L n s x
theorem rX(L:List (St×Sv))(n:Nat)(s:St)(x:Sv):(Gg L).set n (x,s.al)=Gg (L.set n (s,x)):=by
 unfold Gg;rw[DE]
theorem CZ{L:List (St×Sv)}{n:Nat}(h:n<L.length):(Cf L)[0+n]?=some (L[n].1.r L[n].2):=by
 rw[Ds];simp[Cf,h]
theorem jX{r:List Ch}{i:Nat}{l:List St}{p:Option Int}(hi:i<r.length){e:Int}(h:EN p i l r[i]=.error e):IZ (r.drop i) i p l=([],e,(i:Int)):=by
 rw[BI hi];unfold IZ;rw[h]
theorem sS{r:List Ch}{i:Nat}{l l':List St}{p:Option Int}(hi:i<r.length)(h:EN p i l r[i]=.ok l'):IZ (r.drop i) i p l=IZ (r.drop (i+1)) (i+1) (some r[i].da) l':=by
 rw[BI hi];conv=>lhs;unfold IZ
 rw[h]
structure Zhx(r:List Ch)(i:Nat)(hi:i<r.length)(l:List St):Prop where
 step:EN (DU r i) i l r[i]=match KE l r[i]with
  |.error e=>.error e
  |.ok (l',n)=>if EL l' n then .error 51 else .ok l'
 rU:AY r[i]=true
 opn:r[i].ki=1\/Eb l r[i].sr=true
 lt:i<60
def mI(n:Nat)(l:List St)(c:Ch)(y:List (St×Sv)×Int×Int):Prop:=
 (y.2.2=0/\∃m:Nat,y.2.1=m/\m<y.1.length/\KE l c=.ok (y.1.map BW,m)/\y.1.length<=n/\∀x∈y.1,BX x.1 n)\/(y.2.2≠0/\KE l c=.error y.2.2)
def uS:List AV:=[.int .i64 1,.int .i64 2,.int .i64 3,.int .i64 4,.int .i64 5,.int .i64 6]
def uT:List AV:=[.fn 140 [],.fn 141 [],.fn 142 [],.fn 143 [],.fn 145 [],.fn 147 []]
theorem NA{c:Ch}(h:AY c=true):c.ki=1\/c.ki=2\/c.ki=3\/c.ki=4\/c.ki=5\/c.ki=6:=by
 rcases Decidable.em (c.ki=1\/c.ki=2\/c.ki=3\/c.ki=4\/c.ki=5\/c.ki=6)with k|k;·exact k
 ·simp only[not_or]at k;unfold AY at h;simp[k]at h
theorem oN{c:Ch}(h:AY c=true):Qg (.int .i64 c.ki) uS uT≠none:=by
 rcases NA h with k|k|k|k|k|k<;>rw[k]<;>exact λh=>nomatch h
theorem uU{c:Ch}(h:AY c=true){v:AV}(hv:Qg (.int .i64 c.ki) uS uT=some v):((c.ki=1/\v=.fn 140 [])\/(c.ki=2/\v=.fn 141 [])\/(c.ki=3/\v=.fn 142 [])\/
  (c.ki=4/\v=.fn 143 [])\/(c.ki=5/\v=.fn 145 [])\/(c.ki=6/\v=.fn 147 []))/\True:=by
 refine⟨?_,trivial⟩;rcases NA h with k|k|k|k|k|k;·exact .inl ⟨k,by rw[k]at hv;exact(Ff.inj hv).symm⟩
 ·exact .inr (.inl ⟨k,by rw[k]at hv;exact(Ff.inj hv).symm⟩)
 ·exact .inr (.inr (.inl ⟨k,by rw[k]at hv;exact(Ff.inj hv).symm⟩))
 ·exact .inr (.inr (.inr (.inl ⟨k,by rw[k]at hv;exact(Ff.inj hv).symm⟩)))
 ·exact .inr (.inr (.inr (.inr (.inl ⟨k,by rw[k]at hv;exact(Ff.inj hv).symm⟩))))
 ·exact .inr (.inr (.inr (.inr (.inr ⟨k,by rw[k]at hv;exact(Ff.inj hv).symm⟩))))
theorem BX.mono{s:St}{n m:Nat}(h:BX s n)(hn:n<=m):BX s m:={h with al:=Nat.le_trans h.al hn}
theorem BX.rO{s:St}{n:Nat}(h:BX s n){t:Bs}(ht:t.length<=84):BX {s with na:=t} n:=⟨ht,h.al,h.rF,h.lo,h.hi,h.sh⟩
theorem BX.rP{s:St}{n:Nat}(h:BX s n)(t:Bs):BX {s with co:=t} n:=⟨h.na,h.al,h.rF,h.lo,h.hi,h.sh⟩
theorem BX.rN{s:St}{n:Nat}(h:BX s n)(b:Bool):BX {s with op:=b} n:=⟨h.na,h.al,h.rF,h.lo,h.hi,h.sh⟩
theorem W8{a b:Int}(ha:1<=a/\a<=9999)(hb:DJ .i64 b):Fc (Wr .i64 (a+b))=Fc (a+b):=by
 rw[Ri]at hb;by_cases h:a+b<=9223372036854775807;·rw[Pr _ (by omega) h]
 ·have e:Wr .i64 (a+b)=a+b-18446744073709551616:=by
   unfold Wr IntKind.wrap;simp[GZ,HQ];split<;>omega
  rw[e];unfold Fc;rw[Bq];simp;omega
theorem jI{a b:Int}(ha:1<=a/\a<=9999)(h:Fc (a+b)=true):Wr .i64 (a+b)=a+b:=by
 have:=h;unfold Fc at this;simp only[Bh,decide_eq_true_eq]at this;rw[Em (by omega)]
theorem TN{s:Bs}(h:ET s=true):s.length<=84:=by
 unfold ET at h;simp only[Bh,decide_eq_true_eq]at h;exact h.1.1
theorem GC{n:Int}(h:Fc n=true):1<=n/\n<=9999:=by
 unfold Fc at h;simpa using h
theorem VX{c:Ch}(h:AY c=true)(hk:c.ki=1):ET c.na=true/\Fc c.lo=true/\Fc c.hi=true:=by
 unfold AY at h;rw[if_pos hk]at h;simp only[Bh]at h;exact⟨h.1.1.1.1.2,h.1.1.1.2,h.1.1.2⟩
theorem XF{c:Ch}(h:AY c=true)(hk:c.ki=2\/c.ki=5):c.na.length<=84:=by
 unfold AY at h;rw[if_neg (by omega),if_pos hk]at h
 simp only[Bh]at h;exact TN h.1
theorem oJ{L:List (St×Sv)}{c:Ch}{i:Nat}(hk:c.ki=1)(hu:AY c=true)(hn:L.length<=i)(ok:∀x∈L,BX x.1 i):mI (i+1) (L.map BW) c (L++[(Qd c,Sv.nil)],(L.length:Int),0):=by
 obtain⟨h1,h2,h3⟩:=VX hu hk;refine .inl ⟨rfl,L.length,rfl,by simp,by simp[KE,hk],by simpa using hn,λx hx=>?_⟩
 rcases Cr.1 hx with hx|hx;·exact(ok x hx).mono (C4 i)
 ·rw[Cb]at hx;subst hx;exact⟨TN h1,G2 _,λa ha=>by simp[Qd]at ha,GC h2,GC h3,by have:=GC h2;simp only[Qd];omega⟩
theorem Jd{L:List (St×Sv)}{c:Ch}{i n:Nat}{s':St}{x:Sv}(h:n<L.length)(hn:(n:Int)=c.sr)(ho:Eb (L.map BW) c.sr=true)(hk:c.ki≠1)(he:BC L[n].1 c=.ok s')(hs:BX s' (i+1))
  (hl:L.length<=i) (ok:∀x∈L,BX x.1 i):mI (i+1) (L.map BW) c (L.set n (s',x),c.sr,0):=by
 have yJ:c.sr.toNat=n:=by omega
 refine .inl ⟨rfl,n,hn.symm,by simpa using h,?_,by simp;omega,λy hy=>?_⟩
 ·unfold KE;rw[if_neg hk,if_pos ho,yJ,Ak (by simpa using h)]
  simp only[HU,he,DE]
 ·rcases C2 hy with hy|rfl;·exact(ok y hy).mono (C4 i)
  ·exact hs
theorem T0{L:List (St×Sv)}{c:Ch}{i n:Nat}{e k:Int}(h:n<L.length)(hn:(n:Int)=c.sr)(ho:Eb (L.map BW) c.sr=true)(hk:c.ki≠1)(he:BC L[n].1 c=.error e)(h0:e≠0):mI (i+1) (L.map BW) c (L,k,e):=by
 have yJ:c.sr.toNat=n:=by omega
 refine .inr ⟨h0,?_⟩;unfold KE;rw[if_neg hk,if_pos ho,yJ,Ak (by simpa using h)]
 simp only[HU,he]
theorem nM(L:List (St×Sv)):(Cf L).length=L.length:=by simp[Cf]
theorem Tg{ts:Tok}:∀M:List (St×Sv),(∀x∈M,(x.2,x.1.al)∈ts)->Hc ts (Cf M) ((M.map BW).map St.v)
 |[],_=>trivial
 |x::M,h=>by
  obtain⟨j,hj⟩:=List.mem_iff_getElem?.1 (h x (by simp))
  exact⟨⟨_,_,rfl,rfl,NY rfl,NY rfl,NY rfl,Zfw hj,NY rfl,NY rfl,NY rfl,NY rfl,trivial⟩,Tg M λy hy=>h y (by simp[hy])⟩
theorem Wa(L:List (St×Sv)):Hc (Gg L) (Cf L) ((L.map BW).map St.v):=Tg L λx hx=>C1.2 ⟨x,hx,rfl⟩
set_option maxHeartbeats 4000000 in
theorem J2(r:List Ch):AO Tryz.prog 73 [D5 r] (λx=>x=zX (Dq r)):=by
 refine AO.Vs Tryz.func73 rfl Ag (by kernel_rfl) ?_
 conv=>whnf
 refine LC.ZcC 9 ?_;refine LC.seq1 (BR Ag _ ?_);conv=>whnf
 refine LC.ZiI (LC.region Ag ?_);conv=>whnf
 refine⟨by kernel_rfl,?_⟩
 conv=>whnf
 intro vs;refine kR ?_;refine Aj.GX 5 0 97 8 rfl rfl ?_;refine kC (ZK) ?_
 refine Aa.Aw (λx:Nat×List (St×Sv)=>mk 95 [(0,D5 r),(2,.ptr 1 0),(3,.ptr 2 0),(4,.ptr 3 0),(5,.ptr 5 0),(6,JS),(16,D5 r),(17,.int .i64 r.length),(18,.int .i64 x.1)])
  (λx=>Yj vs x.2)
  (λx=>Zk1 r x.1 x.2) (λx=>r.length-x.1) (λx _=>⟨rfl,by(conv=>whnf);exact⟨rfl,rfl,rfl,rfl,rfl,GS _,trivial⟩⟩) ⟨(0,[]),?_⟩ (λ_=>rfl) λx hx=>?_
 ·conv=>whnf
  repeat(refine Ax ?_ ?_;(focus (first|rfl|(simp;done)|(simp[Gs];done)));conv=>whnf)
  exact⟨G2 _,C3 _,by simp,λx hx=>by simp at hx,rfl⟩
 ·obtain⟨i,L⟩:=x;simp only at hx;refine ZkV λK' X' hK hX=>?_
  have hP:∀(o:HO)(E:List AV)(rest:List HO)(e:Int)(hi:i<r.length),EN (DU r i) i (L.map BW) r[i]=.error e->X' (.panic (.iface 170 (.agg [.int .i64 e,.int .i64 i]))) (D5 r::.any::.ptr 1 0::.ptr 2 0::.ptr 3 0::E) (o::.cells [Vt]::.cells [.int .i64 0]::.cells [.int .i64 0]::.ghost [.ptr 1 0,.ptr 2 0,.ptr 3 0] vs []::rest):=λo E rest e hi h=>by
   rw[hX];exact⟨⟨_,rfl⟩,ZkB r _ vs _ rest e i (by rw[<-hx.run,jX hi h];rfl)⟩
  refine kR ?_;refine⟨λhi=>?_,λhi=>?_⟩
  ·have hi:i<r.length:=by simp at hi;omega
   clear hX;refine kR ?_;refine⟨by simp,(r[i]).v,by simp[hi],?_⟩
   conv=>whnf
   refine Aa.seq ?_;refine Aa.ZbC Ag ?_;conv=>whnf
   refine Aa.seq ?_
   refine Aa.iN (λ_:Unit=>mk 95 [(0,D5 r),(2,.ptr 1 0),(3,.ptr 2 0),(4,.ptr 3 0),(5,.ptr 5 0),(6,JS),(7,.ptr 7 0),(8,.ptr 8 0),(9,.fn 113 [.ptr 7 0]),(16,D5 r),(17,.int .i64 r.length),(18,.int .i64 i)])
    (λ_=>Yj vs L++[.cells [.int .i64 i],.cells (chC (r[i]'hi))]) (λ_=>Zhx r i hi (L.map BW)) (λ_ _=>⟨rfl,by(conv=>whnf);exact⟨rfl,rfl,rfl,rfl,rfl,GS _,rfl,by exact⟨rfl,trivial⟩⟩⟩) (λ_=>C3 _) ?_ λ_ hc=>?_
   ·clear hK;refine kR ?_;refine⟨λh6=>?_,λh6=>?_⟩
    ·refine kW ?_;refine Aj.inline rfl rfl Ag rfl (λus ms=>?_)
     refine kW ?_;refine⟨⟨rfl,rfl⟩,?_⟩;conv=>whnf
     exact hP _ _ _ _ hi (S7 (by simp at h6;omega))
    replace h6:¬60<=i:=by simp at h6;omega
    refine kR ?_
    refine Aa.iN (λ_:Unit=>mk 95 [(0,D5 r),(2,.ptr 1 0),(3,.ptr 2 0),(4,.ptr 3 0),(5,.ptr 5 0),(6,JS),(7,.ptr 7 0),(8,.ptr 8 0),(9,.fn 113 [.ptr 7 0]),(16,D5 r),(17,.int .i64 r.length),(18,.int .i64 i),(29,.bool (Jn (DU r i) (r[i]'hi).da))])
     (λ_=>Yj vs L++[.cells [.int .i64 i],.cells (chC (r[i]'hi))]) (λ_=>True) (λ_ _=>⟨rfl,by(conv=>whnf);exact⟨rfl,rfl,rfl,rfl,rfl,GS _,rfl,by exact⟨rfl,trivial⟩⟩⟩) (λ_=>C3 _) ?_ λ_ _=>?_
    ·refine Aa.draw [] Ag mO (by kernel_rfl) ?_
     conv=>whnf
     refine⟨λh0=>?_,λh0=>?_⟩
     ·have h0:0<i:=by simp at h0;omega
      have hp:DU r i=some (r[i-1]).da:=by unfold DU;rw[if_neg (by omega),Ak (by omega)];rfl
      have e1:Wr .i64 ((i:Int)-1)=((i-1:Nat):Int):=by rw[Em (by omega)];omega
      refine kW ?_;refine⟨(by rw[show(((i,L):Nat×List (St×Sv)).1:Int)=(i:Int)from rfl,e1];omega),(r[i-1]).v,by(rw[show(((i,L):Nat×List (St×Sv)).1:Int)=(i:Int)from rfl,e1];simp[show i-1<r.length by omega]),?_⟩
      conv=>whnf
      refine Ax (λh=>?_) (λh=>?_)
      all_goals (conv=>whnf)
      all_goals refine⟨(),?_⟩
      all_goals rw[hp,show Jn (some r[i-1].da) r[i].da=decide (r[i].da<r[i-1].da)from rfl,h]
      ·refine kQ ?_
       exact trivial
      ·refine kQ ?_
       exact trivial
     ·have h0:i=0:=by simp at h0;omega
      have hp:DU r i=none:=by unfold DU;rw[if_pos h0]
      refine kW ?_;refine⟨(),?_⟩;rw[hp];refine kQ ?_;exact trivial
    refine kR ?_;refine⟨λhd=>?_,λhd=>?_⟩
    ·refine kW ?_;refine Aj.inline rfl rfl Ag rfl (λus ms=>?_)
     refine kW ?_;refine⟨⟨rfl,rfl⟩,?_⟩;conv=>whnf
     exact hP _ _ _ _ hi (V1 h6 hd)
    repeat' (first|(refine Ax (λ_=>?_) (λ_=>?_)<;>conv=>whnf)|(refine kC (fU (r[i]).da) ?_)|(refine kC (mT r[i]) ?_)|refine Dd ?_|fail)
    ·rename_i h1 h2;refine Aj.inline rfl rfl Ag rfl (λus ms=>?_)
     refine kW ?_;refine⟨⟨rfl,rfl⟩,?_⟩;conv=>whnf
     exact hP _ _ _ _ hi (N6 h6 hd (by simp at h1 h2;simp[h1,h2]))
    ·rename_i h1 h2 h3;refine Aj.inline rfl rfl Ag rfl (λus ms=>?_)
     refine kW ?_;refine⟨λh4=>?_,λh4=>?_⟩
     ·refine kW ?_;refine⟨λh5=>?_,λh5=>?_⟩
      ·refine kW ?_
       simp only[decide_eq_true_eq]at h4 h5
       refine⟨⟨h4,h5⟩,?_⟩
       conv=>whnf
       have AP:(r[i]).sr.toNat<L.length:=by omega
       refine⟨_,CZ AP,?_⟩
       refine kW ?_
       refine⟨⟨rfl,rfl⟩,?_⟩
       refine kW ?_
       refine⟨λh7=>?_,λh7=>?_⟩
       ·refine kW ?_
        refine Aj.inline rfl rfl Ag rfl (λus ms=>?_)
        refine kW ?_
        refine⟨⟨rfl,rfl⟩,?_⟩
        conv=>whnf
        exact hP _ _ _ _ hi (by rw[step_mk h6 hd (by simp at h1 h2;simp[h1,h2]),CD (by simpa using h3) (by rw[kJ h4 AP];simpa using h7)])
       ·refine kW ?_
        refine⟨(),?_⟩
        refine kQ ?_
        exact⟨step_mk h6 hd (by simp at h1 h2;simp[h1,h2]),by simpa using h2,.inr (by rw[kJ h4 AP];simpa using h7),by omega⟩
      ·refine kW ?_
       refine⟨⟨rfl,rfl⟩,?_⟩
       refine kW ?_
       refine Aj.inline rfl rfl Ag rfl (λus ms=>?_)
       refine kW ?_
       refine⟨⟨rfl,rfl⟩,?_⟩
       conv=>whnf
       exact hP _ _ _ _ hi (by rw[step_mk h6 hd (by simp at h1 h2;simp[h1,h2]),CD (by simpa using h3) (Zae (by simpa using h4) (by simp at h5;simpa using h5))])
     ·refine kW ?_;refine⟨⟨rfl,rfl⟩,?_⟩;refine kW ?_;refine Aj.inline rfl rfl Ag rfl (λus ms=>?_)
      refine kW ?_;refine⟨⟨rfl,rfl⟩,?_⟩;conv=>whnf
      exact hP _ _ _ _ hi (by rw[step_mk h6 hd (by simp at h1 h2;simp[h1,h2]),CD (by simpa using h3) (LU (by simpa using h4))])
    ·rename_i h1 h2 h3;refine⟨(),?_⟩;refine kQ ?_;exact⟨step_mk h6 hd (by simp at h1 h2;simp[h1,h2]),by simpa using h2,.inl (by simpa using h3),by omega⟩
    ·rename_i h1;refine Aj.inline rfl rfl Ag rfl (λus ms=>?_)
     refine kW ?_;refine⟨⟨rfl,rfl⟩,?_⟩;conv=>whnf
     exact hP _ _ _ _ hi (N6 h6 hd (by simp at h1;simp[h1]))
   ·refine Aa.seq ?_
    refine Aa.iN (λy:List (St×Sv)×Int×Int=>mk 95 [(0,D5 r),(2,.ptr 1 0),(3,.ptr 2 0),(4,.ptr 3 0),(5,.ptr 5 0),(6,JS),(7,.ptr 7 0),(8,.ptr 8 0),(9,.fn 113 [.ptr 7 0]),(10,.int .i64 y.2.1),(11,.int .i64 y.2.2),(16,D5 r),(17,.int .i64 r.length),(18,.int .i64 i)])
     (λy=>Yj vs y.1++[.cells [.int .i64 i],.cells (chC (r[i]'hi))]) (mI (i+1) (L.map BW) (r[i]'hi)) (λ_ _=>⟨rfl,by(conv=>whnf);exact⟨rfl,rfl,rfl,rfl,rfl,GS _,rfl,by exact⟨rfl,trivial⟩⟩⟩) (λ_=>C3 _) ?_ λy hy=>?_
    ·clear hP hK;refine kR ?_;refine⟨by intro a ha;simp only[E1,List.not_mem_nil,or_false]at ha;rcases ha with rfl|rfl|rfl|rfl|rfl|rfl<;>rfl,λh=>absurd h (oN hc.rU),λv hv=>?_⟩
     conv=>whnf
     obtain⟨hv,hs⟩:=uU hc.rU hv;rcases hv with⟨hk,rfl⟩|⟨hk,rfl⟩|⟨hk,rfl⟩|⟨hk,rfl⟩|⟨hk,rfl⟩|⟨hk,rfl⟩;all_goals (conv=>whnf)
     all_goals refine Aj.inline rfl rfl Ag rfl (λus ms=>?_)
     all_goals (conv=>whnf)
     ·refine Aa.ZcB (e0:=9) (ts:=Gg L) rfl ?_;conv=>whnf
      refine kR ?_;refine Aa.Ry [16] [17,20] Ag mO (by kernel_rfl) ?_
      conv=>whnf
      refine⟨⟨by simp[Cf],by simp[Cf];have:=hx.m;omega⟩,?_⟩
      conv=>whnf
      refine Aa.Dj 6 rfl (sV L r[i]) ?_;conv=>whnf
      refine kR ?_;refine⟨⟨rfl,rfl⟩,?_⟩;refine kW ?_;refine⟨(L++[(Qd r[i],Sv.nil)],L.length,0),?_⟩;conv=>whnf
      repeat(refine Ax ?_ ?_;(focus (first|rfl|(simp;done)|(first|exact Zcu _ _ hx.m|exact congrArg (λx=>HO.inv (GG 9 x)) (rY _ _)|exact Zab _ _ _;done)));conv=>whnf)
      exact oJ hk hc.rU hx.cnt hx.ok
     ·refine kR ?_;refine Aa.draw [10] Ag mO (by kernel_rfl) ?_
      conv=>whnf
      have Py:=hc.opn.resolve_left (by rw[hk];decide)
      have DG:=OG Py;refine⟨DG.1,?_⟩;conv=>whnf
      refine⟨_,CZ DG.2,?_⟩;conv=>whnf
      refine kR ?_;refine⟨⟨rfl,rfl⟩,?_⟩;refine kW ?_;refine⟨(L.set (r[i]).sr.toNat ({L[(r[i]).sr.toNat].1 with na:=(r[i]).na},L[(r[i]).sr.toNat].2),(r[i]).sr,0),?_⟩
      conv=>whnf
      repeat(refine Ax ?_ ?_;(focus (first|rfl|(simp;done)|(first|exact congrArg (HO.arr 97 8) (I1 L _ {L[(r[i]).sr.toNat].1 with na:=(r[i]).na} L[(r[i]).sr.toNat].2)|exact congrArg (λx=>HO.inv (GG 9 x)) (N1 DG.2 (by rfl)).symm;done)));conv=>whnf)
      exact Jd (s':={L[(r[i]).sr.toNat].1 with na:=(r[i]).na}) DG.2 (by have:=DG.1.1;omega) Py (by rw[hk];decide) (by simp[BC,hk]) (((hx.ok _ (Bl DG.2)).mono (C4 i)).rO (XF hc.rU (.inl hk))) hx.cnt hx.ok
     ·refine kR ?_;refine Aa.draw [10] Ag mO (by kernel_rfl) ?_
      conv=>whnf
      have Py:=hc.opn.resolve_left (by rw[hk];decide)
      have DG:=OG Py;refine⟨DG.1,?_⟩;conv=>whnf
      refine⟨_,CZ DG.2,?_⟩;conv=>whnf
      refine kR ?_;refine⟨⟨rfl,rfl⟩,?_⟩;refine kW ?_;refine⟨(L.set (r[i]).sr.toNat ({L[(r[i]).sr.toNat].1 with co:=(r[i]).co},L[(r[i]).sr.toNat].2),(r[i]).sr,0),?_⟩
      conv=>whnf
      repeat(refine Ax ?_ ?_;(focus (first|rfl|(simp;done)|(first|exact congrArg (HO.arr 97 8) (I1 L _ {L[(r[i]).sr.toNat].1 with co:=(r[i]).co} L[(r[i]).sr.toNat].2)|exact congrArg (λx=>HO.inv (GG 9 x)) (N1 DG.2 (by rfl)).symm;done)));conv=>whnf)
      exact Jd (s':={L[(r[i]).sr.toNat].1 with co:=(r[i]).co}) DG.2 (by have:=DG.1.1;omega) Py (by rw[hk];decide) (by simp[BC,hk]) (((hx.ok _ (Bl DG.2)).mono (C4 i)).rP _) hx.cnt hx.ok
     ·refine Aa.Zbj (cs:=chC (r[i])) 8 8 (k:=.i64) (v:=(r[i]).sh) rfl rfl λhin=>?_
      refine kR ?_;refine Aa.draw [] Ag mO (by kernel_rfl) ?_
      conv=>whnf
      have Py:=hc.opn.resolve_left (by rw[hk];decide)
      have DG:=OG Py;refine⟨DG.1,?_⟩;refine kW ?_;refine Aa.draw [] Ag mO (by kernel_rfl) ?_
      conv=>whnf
      refine⟨_,CZ DG.2,?_⟩;conv=>whnf
      refine⟨_,⟨Ga _,rfl⟩,?_⟩;conv=>whnf
      refine⟨λh7=>?_,λh7=>?_⟩
      ·refine kW ?_
       refine⟨_,CZ DG.2,?_⟩
       conv=>whnf
       refine⟨_,⟨Ga _,rfl⟩,?_⟩
       conv=>whnf
       refine kR ?_
       refine⟨λh8=>?_,λh8=>?_⟩
       ·refine kW ?_
        refine Aa.Zcm (λ_=>6) [0,1,2,3,4,5,6,7,8,9,10,11,12,13,14,15,16,17,18,19,20,21,22,23,24,25,26,27,28,29,30,31,32] [] [26,29,32] [14,15,21,22] Ag (by kernel_rfl) (by kernel_rfl) rfl ?_
        conv=>whnf
        refine⟨_,CZ DG.2,?_⟩
        conv=>whnf
        refine⟨_,CZ DG.2,?_⟩
        conv=>whnf
        refine⟨rfl,?_⟩
        conv=>whnf
        refine⟨rfl,?_⟩
        conv=>whnf
        refine⟨_,CZ DG.2,?_⟩
        conv=>whnf
        refine⟨rfl,?_⟩
        conv=>whnf
        refine⟨rfl,?_⟩
        conv=>whnf
        refine⟨⟨rfl,rfl⟩,?_⟩
        conv=>whnf
        refine⟨_,CZ DG.2,?_⟩
        conv=>whnf
        refine⟨⟨rfl,rfl⟩,?_⟩
        conv=>whnf
        refine⟨_,dV DG.2,?_⟩
        conv=>whnf
        refine⟨⟨rfl,rfl⟩,?_⟩
        conv=>whnf
        refine⟨_,Zc DG.2,?_⟩
        conv=>whnf
        have Af:=hx.ok _ (Bl DG.2)
        rw[W8 Af.lo hin]at h7
        rw[W8 Af.hi hin]at h8
        have e1:=jI Af.lo h7
        have e2:=jI Af.hi h8
        have n1:=GC h7
        have n2:=GC h8
        have n3:=Af.sh
        have n4:=Af.lo
        have e3:Wr .i64 (L[(r[i]).sr.toNat].1.sh+(r[i]).sh)=L[(r[i]).sr.toNat].1.sh+(r[i]).sh:=Em (by omega)
        refine kR ?_
        refine⟨⟨rfl,rfl⟩,?_⟩
        refine kW ?_
        refine⟨(L.set (r[i]).sr.toNat ({L[(r[i]).sr.toNat].1 with lo:=L[(r[i]).sr.toNat].1.lo+(r[i]).sh,hi:=L[(r[i]).sr.toNat].1.hi+(r[i]).sh,sh:=L[(r[i]).sr.toNat].1.sh+(r[i]).sh},L[(r[i]).sr.toNat].2),(r[i]).sr,0),?_⟩
        conv=>whnf
        repeat(refine Ax ?_ ?_;(focus (first|rfl|(simp;done)|(first|exact congrArg (HO.arr 97 8) (nK L _ {L[(r[i]).sr.toNat].1 with lo:=L[(r[i]).sr.toNat].1.lo+(r[i]).sh,hi:=L[(r[i]).sr.toNat].1.hi+(r[i]).sh,sh:=L[(r[i]).sr.toNat].1.sh+(r[i]).sh} L[(r[i]).sr.toNat].2 (by rw[e1,e2,e3];rfl))|exact congrArg (λx=>HO.inv (GG 9 x)) (N1 DG.2 (by rfl)).symm;done)));conv=>whnf)
        exact Jd (s':={L[(r[i]).sr.toNat].1 with lo:=L[(r[i]).sr.toNat].1.lo+(r[i]).sh,hi:=L[(r[i]).sr.toNat].1.hi+(r[i]).sh,sh:=L[(r[i]).sr.toNat].1.sh+(r[i]).sh}) DG.2 (by have:=DG.1.1;omega) Py (by rw[hk];decide) (by simp[BC,hk,h7,h8])
         ⟨Af.na,HC Af.al,Af.rF,n1,n2,by simp only;omega⟩ hx.cnt hx.ok
       ·refine kW ?_
        refine⟨⟨rfl,rfl⟩,?_⟩
        refine kW ?_
        refine⟨(L,(r[i]).sr,1),?_⟩
        refine kQ ?_
        exact T0 DG.2 (by have:=DG.1.1;omega) Py (by rw[hk];decide) (by simp[BC,hk,<-W8 (hx.ok _ (Bl DG.2)).hi hin,h8]) (by decide)
      ·refine kW ?_
       refine⟨⟨rfl,rfl⟩,?_⟩
       refine kW ?_
       refine⟨(L,(r[i]).sr,1),?_⟩
       refine kQ ?_
       exact T0 DG.2 (by have:=DG.1.1;omega) Py (by rw[hk];decide) (by simp[BC,hk,<-W8 (hx.ok _ (Bl DG.2)).lo hin,h7]) (by decide)
     ·refine kR ?_;refine Aa.draw [] Ag mO (by kernel_rfl) ?_
      conv=>whnf
      have Py:=hc.opn.resolve_left (by rw[hk];decide)
      have DG:=OG Py;refine⟨DG.1,?_⟩;refine kW ?_;refine Aa.draw [5] Ag mO (by kernel_rfl) ?_
      conv=>whnf
      refine⟨_,CZ DG.2,?_⟩;conv=>whnf
      have Af:=hx.ok _ (Bl DG.2)
      refine Aj.ZcZ (e0:=9) (ts:=Gg L) (as':=[L[(r[i]).sr.toNat].1.v,.str (r[i]).na]) rfl ⟨ZiE ⟨NY rfl,NY rfl,NY rfl,Zfw (YO DG.2),NY rfl,NY rfl,NY rfl,NY rfl,trivial⟩,mQ rfl,trivial⟩
       (G3 L[(r[i]).sr.toNat].1 (r[i]).na (by have:=Af.al;have:=hc.lt;omega) (by have:=Af.na;omega) (λa ha=>by have:=Af.rF a ha;omega)) rfl ?_
      refine kW ?_;refine⟨λh7=>?_,λh7=>?_⟩
      ·refine kW ?_
       refine⟨⟨rfl,rfl⟩,?_⟩
       refine kW ?_
       refine⟨(L,(r[i]).sr,4),?_⟩
       refine kQ ?_
       exact T0 DG.2 (by have:=DG.1.1;omega) Py (by rw[hk];decide) (by simp[BC,hk,h7]) (by decide)
      ·refine kW ?_
       refine Aa.Zcm (λk=>match k with|8=>0|_=>6) [0,1,2,3,4,5,6,7,8,9,10,11] [7] [8,11] [] Ag (by kernel_rfl) (by kernel_rfl) rfl ?_
       conv=>whnf
       refine⟨_,CZ DG.2,?_⟩
       conv=>whnf
       refine⟨rfl,?_⟩
       conv=>whnf
       refine⟨Gg L,(r[i]).sr.toNat,L[(r[i]).sr.toNat].2,L[(r[i]).sr.toNat].1.al,[(r[i]).na],⟨rfl,rfl,YO DG.2,rfl,by simp,by have:=Af.al;have:=hc.lt;simp;omega⟩,λs'=>?_⟩
       conv=>whnf
       refine⟨⟨rfl,rfl⟩,?_⟩
       conv=>whnf
       refine⟨_,CZ DG.2,?_⟩
       conv=>whnf
       refine kR ?_
       refine⟨⟨rfl,rfl⟩,?_⟩
       refine kW ?_
       refine⟨(L.set (r[i]).sr.toNat ({L[(r[i]).sr.toNat].1 with al:=L[(r[i]).sr.toNat].1.al++[(r[i]).na]},s'),(r[i]).sr,0),?_⟩
       conv=>whnf
       repeat(refine Ax ?_ ?_;(focus (first|rfl|(simp;done)|(first|exact congrArg (HO.arr 97 8) (I1 L _ {L[(r[i]).sr.toNat].1 with al:=L[(r[i]).sr.toNat].1.al++[(r[i]).na]} s')|exact congrArg (λx=>HO.inv (GG 9 x)) (rX L _ {L[(r[i]).sr.toNat].1 with al:=L[(r[i]).sr.toNat].1.al++[(r[i]).na]} s');done)));conv=>whnf)
       exact Jd (s':={L[(r[i]).sr.toNat].1 with al:=L[(r[i]).sr.toNat].1.al++[(r[i]).na]}) DG.2 (by have:=DG.1.1;omega) Py (by rw[hk];decide) (by simp[BC,hk,h7])
        ⟨Af.na,by have:=Af.al;simp;omega,λa ha=>by(simp only[Cr,Cb]at ha;rcases ha with ha|rfl;exact Af.rF a ha;exact XF hc.rU (.inr hk)),Af.lo,Af.hi,Af.sh⟩ hx.cnt hx.ok
     ·refine kR ?_;refine Aa.draw [8] Ag mO (by kernel_rfl) ?_
      conv=>whnf
      have Py:=hc.opn.resolve_left (by rw[hk];decide)
      have DG:=OG Py;refine⟨DG.1,?_⟩;conv=>whnf
      refine⟨_,CZ DG.2,?_⟩;conv=>whnf
      refine Aa.Dj 6 rfl (nJ L _ {L[(r[i]).sr.toNat].1 with op:=false} _) ?_
      conv=>whnf
      refine kR ?_;refine⟨⟨rfl,rfl⟩,?_⟩;refine kW ?_;refine⟨(L.set (r[i]).sr.toNat ({L[(r[i]).sr.toNat].1 with op:=false},L[(r[i]).sr.toNat].2),(r[i]).sr,0),?_⟩
      conv=>whnf
      repeat(refine Ax ?_ ?_;(focus (first|rfl|(simp;done)|(first|exact congrArg (HO.arr 97 8) (I1 L _ {L[(r[i]).sr.toNat].1 with op:=false} L[(r[i]).sr.toNat].2)|exact congrArg (λx=>HO.inv (GG 9 x)) (N1 DG.2 (by rfl)).symm;done)));conv=>whnf)
      exact Jd (s':={L[(r[i]).sr.toNat].1 with op:=false}) DG.2 (by have:=DG.1.1;omega) Py (by rw[hk];decide) (by simp[BC,hk]) (((hx.ok _ (Bl DG.2)).mono (C4 i)).rN _) hx.cnt hx.ok
    ·refine kR ?_;refine⟨λhe=>?_,λhe=>?_⟩
     ·have he:y.2.2≠0:=by simpa using he
      have hm:KE (L.map BW) r[i]=.error y.2.2:=by
       rcases hy with hy|hy;·exact absurd hy.1 he
       ·exact hy.2
      refine kW ?_;refine Aj.inline rfl rfl Ag rfl (λus ms=>?_)
      refine kW ?_;refine⟨⟨rfl,rfl⟩,?_⟩;conv=>whnf
      exact hP _ _ _ _ hi (by rw[hc.step,hm])
     ·have he:y.2.2=0:=by simpa using he
      obtain⟨-,m,hm,AP,cG,O0,ok1⟩:y.2.2=0/\∃m:Nat,y.2.1=m/\m<y.1.length/\KE (L.map BW) r[i]=.ok (y.1.map BW,m)/\y.1.length<=i+1/\∀x∈y.1,BX x.1 (i+1):=by
       rcases hy with hy|hy;·exact hy
       ·exact absurd he hy.1
      have ZmX:=hc.lt;refine kW ?_
      refine Aj.Zal (e0:=9) (ts:=Gg y.1) (as':=[.at_ [KD (y.1.map BW)],.int .i64 (m:Int)]) rfl
       ⟨.inr ⟨5,_,_,rfl,rfl,rfl,⟨.inr ⟨6,8,_,Cf y.1,_,by rw[nM],rfl,rfl,Wa y.1⟩,trivial⟩⟩,.inl (by rw[hm];exact mQ rfl),trivial⟩
       (Yi (y.1.map BW) m (by simpa using AP) (by simp;omega) λs hs=>by
        obtain⟨x,vB,rfl⟩:=C1.1 hs
        have q:=ok1 x vB
        exact⟨by have:=q.al;omega,by have:=q.na;omega,λa ha=>by have:=q.rF a ha;omega⟩) rfl ?_
      refine kW ?_;refine⟨λh9=>?_,λh9=>?_⟩
      ·refine kW ?_
       refine Aj.inline rfl rfl Ag rfl (λus ms=>?_)
       refine kW ?_
       refine⟨⟨rfl,rfl⟩,?_⟩
       conv=>whnf
       exact hP _ _ _ _ hi (by rw[hc.step,cG];simp only;rw[if_pos h9])
      ·refine kW ?_
       rw[hK]
       refine⟨(i+1,y.1),?_⟩
       clear hP hK
       conv=>whnf
       repeat(refine Ax ?_ ?_;(focus (first|rfl|(simp;done)|(first|(show Wr .i64 _=_;rw[Em (by omega)];rfl);done)));conv=>whnf)
       refine⟨⟨by simp only;omega,O0,by simp only;omega,ok1,?_⟩,by simp only;omega⟩
       rw[<-hx.run,sS hi (show EN (DU r i) i (L.map BW) r[i]=.ok (y.1.map BW) by rw[hc.step,cG];simp only;rw[if_neg (by rw[h9];simp)])]
       have hp:DU r (i+1)=some r[i].da:=by unfold DU;rw[if_neg (by omega),Fy,Ak hi];rfl
       rw[<-hp]
  ·have hi:i=r.length:=by have:=hx.le;simp at hi;omega
   refine kR ?_;rw[hX];conv=>whnf
   refine Aa.ZfG (l:=6) (rows':=(L.map BW).map St.v) rfl rfl (Wa L) ?_;conv=>whnf
   clear hX hP hK;refine Aa.freeze 6 ?_;conv=>whnf
   refine⟨λa ha=>by obtain⟨s,_,rfl⟩:=C1.1 ha;rfl,?_⟩
   conv=>whnf
   repeat(refine⟨(by first|rfl|(simp;done):(_:Nat)=_),?_⟩;conv=>whnf)
   refine kR ?_;refine⟨⟨_,rfl⟩,ZkC r _ vs _ _ _ 0 (-1) ?_⟩;rw[<-hx.run,hi,Eu];rfl
def DM(r:List Ch)(day:Int):List Ch:=r.takeWhile λc=>decide (c.da<=day)
def Ar(r:List Ch):Bool:=decide ((Dq r).2.1=0)
def E6(r:List Ch)(day:Int):List St:=if Ar r then (Dq (DM r day)).1 else []
theorem Zbf{s:St}{c:Ch}{e:Int}(h:BC s c=.error e):e≠0:=by
 unfold BC at h;repeat' (first|(cases h;done)|(cases h;decide)|split at h)
theorem ZfW{l:List St}{c:Ch}{e:Int}(h:KE l c=.error e):e≠0:=by
 unfold KE at h;split at h;·cases h
 ·split at h
  ·split at h
   ·split at h;·cases h
    ·rename_i he;cases h;exact Zbf he
   ·cases h;decide
  ·cases h;decide
theorem Sp{p:Option Int}{i:Nat}{l:List St}{c:Ch}{e:Int}(h:EN p i l c=.error e):e≠0:=by
 rw[step_eq]at h;split at h;·cases h;decide
 ·split at h;·cases h;decide
  ·split at h;·cases h;decide
   ·split at h
    ·rename_i he;cases h;exact ZfW he
    ·split at h;·cases h;decide
     ·cases h
theorem Sq:∀(r:List Ch)(i:Nat)(p:Option Int)(l:List St),(IZ r i p l).2.1=0->i<=60->i+r.length<=60
 |[],i,p,l,_,hi=>by simpa using hi
 |c::r,i,p,l,h,hi=>by
  unfold IZ at h;split at h
  ·rename_i he;exact absurd h (Sp he)
  ·rename_i hs
   have h60:i<60:=by
    rcases El i 60 with k|k;·exact k
    ·rw[S7 k]at hs;cases hs
   have:=Sq r (i+1) _ _ h (by omega)
   simp;omega
theorem nA{r:List Ch}(h:Ar r=true):r.length<=60:=by
 have:=Sq r 0 none [] (by unfold Ar Dq at h;simpa using h) (by omega)
 omega
theorem jH(r:List Ch):AO Tryz.prog 102 [D5 r] (λx=>x=.tuple [.int .i64 (Dq r).2.1,.int .i64 (Dq r).2.2]):=by
 refine kB Tryz.func102 rfl ?_;exact kCe (J2 r)
theorem Yl(r:List Ch)(day:Int):AO Tryz.prog 37 [D5 r,.int .i64 day] (λx=>x=.tuple [KD (E6 r day),.bool (Ar r)]):=by
 refine kB Tryz.func37 rfl ?_;refine kC (J2 r) ?_;refine⟨λh=>?_,λh=>?_⟩
 ·have hs:Ar r=false:=by unfold Ar;simpa using h
  refine kW ?_;refine⟨8,?_⟩;conv=>whnf
  unfold E6;rw[hs];rfl
 ·have hs:Ar r=true:=by unfold Ar;simpa using h
  have hl:=nA hs;refine kW ?_;refine Aa.Aw (λk:Nat=>mk 45 [(0,D5 r),(1,.int .i64 day),(9,.int .i64 k)]) (λ_=>[]) (λk=>k<=r.length/\DM r day=r.take k++DM (r.drop k) day) (λk=>r.length-k) (λ_ _=>⟨rfl,trivial⟩) ⟨0,?_⟩ (λ_=>rfl) λk hk=>?_
  ·conv=>whnf
   repeat(refine Ax ?_ ?_;(focus (first|rfl|(simp;done)|(simp;done)));conv=>whnf)
   rfl
  ·obtain⟨hk,ha⟩:=hk;refine kR ?_;refine⟨λh1=>?_,λh1=>?_⟩
   ·have h1:k<r.length:=by simpa using h1
    refine kW ?_;refine⟨by omega,(r[k]).v,by simp[h1],?_⟩
    conv=>whnf
    refine kR ?_;refine⟨λh2=>?_,λh2=>?_⟩
    ·have h2:(r[k]).da<=day:=by simpa using h2
     refine kW ?_;refine⟨k+1,?_⟩;conv=>whnf
     repeat(refine Ax ?_ ?_;(focus (first|rfl|(simp;done)|((show Wr .i64 _=_;rw[Em (by omega)];rfl);done)));conv=>whnf)
     exact⟨⟨by omega,by rw[ha,BI h1,Bm h1];unfold DM;rw[Fi];simp only[h2,decide_true,if_true,List.append_assoc,List.singleton_append]⟩,by omega⟩
    ·have h2:¬(r[k]).da<=day:=by simpa using h2
     have hu:DM r day=r.take k:=by rw[ha,BI h1];unfold DM;rw[Fi];simp[h2]
     refine kW ?_;have e2:AV.sl 9 (List.drop (H2 0) (List.take ((k:Int)).toNat (List.map Ch.v r)))=D5 (DM r day):=by rw[hu];simp[D5,It]
     have spec:AO Tryz.prog 73 [AV.sl 9 (List.drop (H2 0) (List.take ((k:Int)).toNat (List.map Ch.v r)))] (λx=>x=zX (Dq (DM r day))):=by rw[e2];exact J2 _
     refine⟨⟨by omega,by omega,by simp;omega⟩,?_⟩
     refine kW ?_;refine Aj.Dk spec rfl λx hx=>?_
     subst hx;refine kW ?_;unfold E6;rw[hs];rfl
   ·have h1:k=r.length:=by simp at h1;omega
    have hu:DM r day=r.take k:=by rw[ha,h1,Eu];simp[DM]
    refine kW ?_;have e2:AV.sl 9 (List.drop (H2 0) (List.take ((k:Int)).toNat (List.map Ch.v r)))=D5 (DM r day):=by rw[hu];simp[D5,It]
    have spec:AO Tryz.prog 73 [AV.sl 9 (List.drop (H2 0) (List.take ((k:Int)).toNat (List.map Ch.v r)))] (λx=>x=zX (Dq (DM r day))):=by rw[e2];exact J2 _
    refine⟨⟨by omega,by omega,by simp;omega⟩,?_⟩
    refine kW ?_;refine Aj.Dk spec rfl λx hx=>?_
    subst hx;refine kW ?_;unfold E6;rw[hs];rfl
namespace Pl
structure Ad where
 pe:Bs
 st:Bs
 nu:Int
 co:Bs
 tw:Bs
deriving DecidableEq
def Ad.v(a:Ad):AV:=.agg [.str a.pe,.str a.st,.int .i64 a.nu,.str a.co,.str a.tw]
structure Pt where
 s:Int
 n:Int
deriving DecidableEq
def Pt.v(p:Pt):AV:=.agg [.int .i64 p.s,.int .i64 p.n]
def Mv:Pt:=⟨0,0⟩
def HT:Ad:=⟨[],[],0,[],[]⟩
def DY(a:Ad)(s:St):Bool:=s.op&&decide (s.co=a.co)&&decide (s.lo<=a.nu)&&decide (a.nu<=s.hi)&&Be s a.st
def Lr(l:List St)(a:Ad):Pt×Int:=match l.findIdx? (DY a)with
 |some i=>(match l[i]? with|some s=>(⟨i,a.nu-s.sh⟩,0)|none=>(Mv,3))
 |none=>(Mv,3)
def CA(r:List Ch)(day:Int)(a:Ad):Pt×Int:=if Ar r then Lr (E6 r day) a else (Mv,1)
def Ht(l:List St)(p:Pt):Ad×Int:=if p.s<0 then (HT,3)else match l[p.s.toNat]? with
 |some s=>if !s.op||decide (p.n<s.lo-s.sh)||decide (s.hi-s.sh<p.n)then (HT,3)else (⟨[],s.na,p.n+s.sh,s.co,s.to⟩,0)
 |none=>(HT,3)
def AW(r:List Ch)(day:Int)(p:Pt):Ad×Int:=if Ar r then Ht (E6 r day) p else (HT,1)
end Pl
theorem Zbe{s s':St}{c:Ch}{i:Nat}(hu:AY c=true)(hk:c.ki≠1)(hs:BX s i)(h:BC s c=.ok s'):BX s' (i+1):=by
 have hm:=hs.mono (C4 i);unfold BC at h;split at h
 ·rename_i h2;cases h;exact hm.rO (XF hu (.inl h2))
 ·split at h
  ·cases h;exact hm.rP _
  ·split at h
   ·split at h
    ·rename_i hb;cases h;simp only[Bh]at hb;have:=hs.sh;exact⟨hs.na,HC hs.al,hs.rF,GC hb.1,GC hb.2,by simp only;omega⟩
    ·cases h
   ·split at h
    ·rename_i h5;split at h;·cases h
     ·cases h;exact⟨hs.na,by have:=hs.al;simp;omega,λa ha=>by(simp only[Cr,Cb]at ha;rcases ha with ha|rfl;exact hs.rF a ha;exact XF hu (.inr h5)),hs.lo,hs.hi,hs.sh⟩
    ·cases h;exact hm.rN _
theorem uI{l l':List St}{c:Ch}{i n:Nat}(hu:AY c=true)(hs:∀s∈l,BX s i)(h:KE l c=.ok (l',n)):(∀s∈l',BX s (i+1))/\l'.length<=l.length+1:=by
 unfold KE at h;split at h
 ·rename_i hk;cases h;obtain⟨h1,h2,h3⟩:=VX hu hk;refine⟨λs hx=>?_,by simp⟩
  rcases Cr.1 hx with hx|hx;·exact(hs s hx).mono (C4 i)
  ·rw[Cb]at hx;subst hx;exact⟨TN h1,G2 _,λa ha=>by simp[Qd]at ha,GC h2,GC h3,by have:=GC h2;simp only[Qd];omega⟩
 ·rename_i hk;split at h
  ·split at h
   ·rename_i s hg;split at h
    ·rename_i s' he;cases h;refine⟨λy hy=>?_,by simp⟩
     rcases C2 hy with hy|rfl;·exact(hs y hy).mono (C4 i)
     ·exact Zbe hu hk (hs s (E0 hg)) he
    ·cases h
   ·cases h
  ·cases h
theorem HZ{p:Option Int}{i:Nat}{l l':List St}{c:Ch}(h:EN p i l c=.ok l'):i<60/\Jn p c.da=false/\E3 c.da=true/\AY c=true/\∃n,KE l c=.ok (l',n)/\EL l' n=false:=by
 rw[step_eq]at h;split at h;·cases h
 ·rename_i h60;split at h;·cases h
  ·rename_i hd;split at h;·cases h
   ·rename_i hu;simp only[CL,HM,Bh]at hu;split at h;·cases h
    ·rename_i l2 n hm;split at h;·cases h
     ·rename_i hc;cases h;exact⟨by omega,by simpa using hd,hu.1,hu.2,n,hm,by simpa using hc⟩
theorem Zb:∀(r:List Ch)(i:Nat)(p:Option Int)(l:List St),(∀s∈l,BX s i)->l.length<=i->i<=60->(∀s∈(IZ r i p l).1,BX s 60)/\(IZ r i p l).1.length<=60
 |[],i,p,l,h,hl,hi=>⟨λs hs=>(h s hs).mono hi,by show l.length<=60;omega⟩
 |c::r,i,p,l,h,hl,hi=>by
  unfold IZ;split;·exact⟨λs hs=>(by cases hs),by simp⟩
  ·rename_i l' hs;obtain⟨h1,_,_,h4,n,h5,_⟩:=HZ hs;obtain⟨k1,k2⟩:=uI h4 h h5;exact Zb r (i+1) _ l' k1 (by omega) (by omega)
theorem iX(r:List Ch):(∀s∈(Dq r).1,BX s 60)/\(Dq r).1.length<=60:=Zb r 0 none [] (λs hs=>by cases hs) (C3 _) (by omega)
theorem Pk(r:List Ch)(day:Int):(∀s∈E6 r day,BX s 60)/\(E6 r day).length<=60:=by
 unfold E6;split;·exact iX _
 ·exact⟨λs hs=>(by cases hs),by simp⟩
theorem lZ{l:List St}{a:Ad}{k:Nat}(hk:k<l.length)(h:∀j (hj:j<l.length),j<k->DY a l[j]=false)(hm:DY a l[k]=true):Lr l a=(⟨k,a.nu-l[k].sh⟩,0):=by
 unfold Lr;rw[D0.2 ⟨hk,hm,λj hj=>by rw[h j (by omega) hj];decide⟩]
 simp only;rw[Ak hk]
theorem Za7{l:List St}{a:Ad}(h:∀j (hj:j<l.length),DY a l[j]=false):Lr l a=(Mv,3):=by
 unfold Lr;rw[List.findIdx?_eq_none_iff.2 λx hx=>by obtain⟨i,hi,rfl⟩:=Fk hx;exact h i hi]
theorem mK(r:List Ch)(day:Int):AO Tryz.prog 49 [D5 r,.int .i64 day] (λx=>x=KD (E6 r day)):=by
 refine kB Tryz.func49 rfl ?_;refine kC (Yl r day) ?_;rfl
theorem Dx(r:List Ch)(day:Int)(p:Pt):AO Tryz.prog 16 [D5 r,.int .i64 day,p.v] (λx=>x=.tuple [(AW r day p).1.v,.int .i64 (AW r day p).2]):=by
 refine kB Tryz.func16 rfl ?_;refine kC (Yl r day) ?_;refine⟨λh=>?_,λh=>?_⟩
 ·have hs:Ar r=false:=by simpa using h
  refine kW ?_;unfold AW;rw[hs];rfl
 ·have hs:Ar r=true:=by simpa using h
  obtain⟨Fj,hlen⟩:=Pk r day;have hn:AW r day p=Ht (E6 r day) p:=by unfold AW;rw[hs];rfl
  rw[hn];generalize E6 r day=l at*;refine kW ?_;repeat' (first|(refine Ax (λ_=>?_) (λ_=>?_)<;>conv=>whnf)|refine Dd ?_|fail)
  ·rename_i h1 h2;simp only[decide_eq_false_iff_not,decide_eq_true_eq,Gs]at h1 h2;unfold Ht;rw[if_neg h1,BY (by omega)]
   rfl
  ·rename_i h1 h2;simp only[decide_eq_false_iff_not,Gs]at h1 h2;have AP:p.s.toNat<l.length:=by omega
   have Af:=Fj _ (Bl AP);obtain⟨q1,q2⟩:=Af.lo;obtain⟨q3,q4⟩:=Af.hi;obtain⟨q5,q6⟩:=Af.sh;have e1:Wr .i64 (l[p.s.toNat].lo-l[p.s.toNat].sh)=l[p.s.toNat].lo-l[p.s.toNat].sh:=Em (by omega)
   have e2:Wr .i64 (l[p.s.toNat].hi-l[p.s.toNat].sh)=l[p.s.toNat].hi-l[p.s.toNat].sh:=Em (by omega)
   have rA:Ht l p=if !l[p.s.toNat].op||decide (p.n<l[p.s.toNat].lo-l[p.s.toNat].sh)||decide (l[p.s.toNat].hi-l[p.s.toNat].sh<p.n)then (HT,3)else (⟨[],l[p.s.toNat].na,p.n+l[p.s.toNat].sh,l[p.s.toNat].co,l[p.s.toNat].to⟩,0):=by
    unfold Ht;rw[if_neg h1,Ak AP]
   rw[rA];refine⟨by omega,l[p.s.toNat].v,by simp[AP],?_⟩
   refine kW ?_;repeat' (first|(refine Ax (λ_=>?_) (λ_=>?_)<;>conv=>whnf)|refine Dd ?_|fail)
   ·rename_i a1 a2 a3;rw[e2]at a3;rw[if_pos (by rw[a3];simp)]
    rfl
   ·rename_i a1 a2 a3;rw[e1]at a2;rw[e2]at a3;have e3:Wr .i64 (p.n+l[p.s.toNat].sh)=p.n+l[p.s.toNat].sh:=by simp only[decide_eq_false_iff_not]at a2 a3;exact Em (by omega)
    rw[if_neg (by rw[a1,a2,a3];decide),e3]
    rfl
   ·rename_i a1 a2;rw[e1]at a2;rw[if_pos (by rw[a2];simp)]
    rfl
   ·rename_i a1;rw[if_pos (by rw[a1];simp)]
    rfl
  ·rename_i h1;unfold Ht;rw[if_pos (by simpa using h1)]
   rfl
theorem qR(r:List Ch)(day:Int)(a:Ad):AO Tryz.prog 135 [D5 r,.int .i64 day,a.v] (λx=>x=.tuple [(CA r day a).1.v,.int .i64 (CA r day a).2]):=by
 refine kB Tryz.func135 rfl ?_;refine kC (Yl r day) ?_;refine⟨λh=>?_,λh=>?_⟩
 ·have hs:Ar r=false:=by simpa using h
  refine kW ?_;unfold CA;rw[hs];rfl
 ·have hs:Ar r=true:=by simpa using h
  obtain⟨Fj,hlen⟩:=Pk r day;have hn:CA r day a=Lr (E6 r day) a:=by unfold CA;rw[hs];rfl
  rw[hn];generalize E6 r day=l at*;refine kW ?_;refine Aa.Aw (λk:Nat=>mk 66 [(0,D5 r),(5,.ptr 0 0),(6,.ptr 1 0),(8,KD l),(21,KD l),(22,.int .i64 l.length),(23,.int .i64 k)]) (λ_=>[.cells [.str a.pe,.str a.st,.int .i64 a.nu,.str a.co,.str a.tw],.cells [.int .i64 0,.int .i64 0]]) (λk=>k<=l.length/\∀j (hj:j<l.length),j<k->DY a l[j]=false) (λk=>l.length-k) (λ_ _=>⟨rfl,rfl,rfl,trivial⟩) ⟨0,?_⟩ (λ_=>rfl) λk hk=>?_
  ·conv=>whnf
   repeat(refine Ax ?_ ?_;(focus (first|rfl|(simp;done)|(simp;done)));conv=>whnf)
   exact λj hj hn=>absurd hn (Nat.not_lt_zero _)
  ·obtain⟨hk,ha⟩:=hk;have A7:=D4 k (by omega)
   refine kR ?_;refine⟨λh1=>?_,λh1=>?_⟩
   ·have h1:k<l.length:=by simpa using h1
    refine kW ?_;refine⟨by omega,(l[k]).v,by simp[h1],?_⟩
    conv=>whnf
    have Af:=Fj _ (Bl h1);obtain⟨q1,q2⟩:=Af.lo;obtain⟨q3,q4⟩:=Af.hi;obtain⟨q5,q6⟩:=Af.sh
    have no:DY a l[k]=false->∀j (hj:j<l.length),j<k+1->DY a l[j]=false:=λh j hj O1=>by
     rcases El j k with h3|h3;·exact ha j hj h3
     ·obtain rfl:j=k:=by omega
      exact h
    refine kW ?_;repeat' (first|(refine Ax (λ_=>?_) (λ_=>?_)<;>conv=>whnf)|(refine kC (G3 l[k] a.st (by have:=Af.al;omega) (by have:=Af.na;omega) (λx hx=>by have:=Af.rF x hx;omega)) ?_)|refine Dd ?_|fail)
    ·rename_i g1 g2 g3 g4 g5;simp only[decide_eq_true_eq,beq_iff_eq]at g1 g2 g3 g4 g5;have hm:DY a l[k]=true:=by unfold DY;simp_all
     rw[lZ h1 ha hm,show Wr .i64 (a.nu-l[k].sh)=a.nu-l[k].sh from Em (by omega)]
     rfl
    all_goals (
     refine⟨k+1,?_⟩;refine CV A7 ?_;refine⟨⟨by omega,no ?_⟩,by omega⟩
     unfold DY;simp_all<;>intros<;>omega)
   ·have h1:k=l.length:=by simp at h1;omega
    refine kW ?_;rw[Za7 λj hj=>ha j hj (by omega)]
    rfl
open Go.Av Go.Shelf Pl Go.RowKit
namespace Pl
def xZ(s:St):List Bs:=s.na::s.al
theorem Zbc{a b:Bs}:cJ a b=true↔CF a=CF b:=by unfold cJ;simp
theorem ES{s:St}{t:Bs}:Be s t=true↔∃x∈xZ s,CF x=CF t:=by
 unfold Be xZ;simp[Zbc]
theorem X0{s o:St}:Qr s o=true↔(s.op=true/\o.op=true/\s.co=o.co/\s.lo<=o.hi/\o.lo<=s.hi)/\∃x∈xZ s,∃y∈xZ o,CF x=CF y:=by
 have e:(Be s o.na||o.al.any (Be s))=true↔∃x∈xZ s,∃y∈xZ o,CF x=CF y:=by
  rw[Gt,C0];constructor
  ·rintro (h|⟨y,hy,h⟩)
   ·obtain⟨x,hx,e⟩:=ES.1 h;exact⟨x,hx,o.na,by simp[xZ],e⟩
   ·obtain⟨x,hx,e⟩:=ES.1 h;exact⟨x,hx,y,by simp[xZ,hy],e⟩
  ·rintro⟨x,hx,y,hy,e⟩;rcases E1.1 hy with rfl|hy;·exact .inl (ES.2 ⟨x,hx,e⟩)
   ·exact .inr ⟨y,hy,ES.2 ⟨x,hx,e⟩⟩
 unfold Qr;rw[Bh,e];simp only[Bh,decide_eq_true_eq];constructor
 ·rintro⟨⟨⟨⟨⟨h1,h2⟩,h3⟩,h4⟩,h5⟩,h6⟩;exact⟨⟨h1,h2,h3,h4,h5⟩,h6⟩
 ·rintro⟨⟨h1,h2,h3,h4,h5⟩,h6⟩;exact⟨⟨⟨⟨⟨h1,h2⟩,h3⟩,h4⟩,h5⟩,h6⟩
theorem vQ{s o:St}(h:Qr s o=true):Qr o s=true:=by
 obtain⟨⟨h1,h2,h3,h4,h5⟩,x,hx,y,hy,e⟩:=X0.1 h;exact X0.2 ⟨⟨h2,h1,h3.symm,h5,h4⟩,y,hy,x,hx,e.symm⟩
def qQ(l:List St):Prop:=∀(i j:Nat)(s o:St),i≠j->l[i]?=some s->l[j]?=some o->Qr s o=false
theorem UR{l:List St}{n:Nat}{s:St}(h:EL l n=false)(hs:l[n]?=some s){j:Nat}{o:St}(hj:j≠n)(ho:l[j]?=some o):Qr s o=false:=by
 unfold EL at h;rw[hs]at h;simp only[List.any_eq_false,G1]at h;have hl:j<l.length:=(Bv.1 ho).1;have:=h j hl;unfold O2 at this;rw[ho,decide_eq_true hj]at this;simpa using this
theorem OK{l l':List St}{c:Ch}{n:Nat}(h:KE l c=.ok (l',n)):n<l'.length/\(∀j,j≠n->l'[j]?=l[j]?)/\
  ((c.ki=1/\n=l.length/\l'=l++[Qd c])\/(c.ki≠1/\(n:Int)=c.sr/\∃s s',l[n]?=some s/\s.op=true/\BC s c=.ok s'/\l'=l.set n s')):=by
 unfold KE at h;split at h
 ·rename_i hk;cases h;refine⟨by simp,λj hj=>?_,.inl ⟨hk,rfl,rfl⟩⟩
  rcases El j l.length with h1|h1;·rw[List.getElem?_append_left h1]
  ·rw[BY (by simp;omega),BY (by omega)]
 ·rename_i hk;split at h
  ·rename_i ho;split at h
   ·rename_i s hg;split at h
    ·rename_i s' he;cases h;have hl:c.sr.toNat<l.length:=(Bv.1 hg).1;unfold Eb at ho;rw[hg]at ho;simp only[Bh,decide_eq_true_eq]at ho;refine⟨by simpa using hl,λj hj=>?_,.inr ⟨hk,by omega,s,s',hg,ho.2,he,rfl⟩⟩
     rw[List.getElem?_set_ne (Ne.symm hj)]
    ·cases h
   ·cases h
  ·cases h
theorem pT{p:Option Int}{i:Nat}{l l':List St}{c:Ch}(h:EN p i l c=.ok l')(hf:qQ l):qQ l':=by
 obtain⟨_,_,_,_,n,hm,hc⟩:=HZ h;obtain⟨_,hfr,_⟩:=OK hm;intro a b s o pH hs ho;by_cases ha:a=n
 ·subst ha;exact UR hc hs (Ne.symm pH) ho
 ·by_cases hb:b=n
  ·subst hb;rw[Ef];intro hh;have:=UR hc ho pH hs;rw[vQ hh]at this;cases this
  ·rw[hfr a ha]at hs;rw[hfr b hb]at ho;exact hf a b s o pH hs ho
def IP:List Ch->Nat->Option Int->List St->List St->Prop
 |[],_,_,l,L=>L=l
 |c::r,i,p,l,L=>∃l',EN p i l c=.ok l'/\IP r (i+1) (some c.da) l' L
def XP:Option Int->List Ch->Option Int
 |p,[]=>p
 |_,c::r=>XP (some c.da) r
theorem Oc:∀{r:List Ch}{i:Nat}{p:Option Int}{l L:List St},IP r i p l L->IZ r i p l=(L,0,-1)
 |[],i,p,l,L,h=>by rw[show L=l from h];rfl
 |c::r,i,p,l,L,h=>by
  obtain⟨l',h1,h2⟩:=h;unfold IZ;rw[h1];exact Oc h2
theorem jW:∀{r:List Ch}{i:Nat}{p:Option Int}{l:List St},(IZ r i p l).2.1=0->IP r i p l (IZ r i p l).1
 |[],i,p,l,h=>rfl
 |c::r,i,p,l,h=>by
  unfold IZ at h⊢;split at h
  ·rename_i he;exact absurd h (Sp he)
  ·rename_i l' hs;exact⟨l',hs,jW h⟩
theorem Oe:∀{a b:List Ch}{i:Nat}{p:Option Int}{l L:List St},IP (a++b) i p l L↔∃m,IP a i p l m/\IP b (i+a.length) (XP p a) m L
 |[],b,i,p,l,L=>by
  simp only[Fl,H4,Nat.add_zero,XP];exact⟨λh=>⟨l,rfl,h⟩,λ⟨m,h1,h2⟩=>by rw[show m=l from h1]at h2;exact h2⟩
 |c::a,b,i,p,l,L=>by
  simp only[List.cons_append,IP,EI,XP];constructor
  ·rintro⟨l',h1,h2⟩;obtain⟨m,h3,h4⟩:=Oe.1 h2;exact⟨m,⟨l',h1,h3⟩,by rw[show i+(a.length+1)=i+1+a.length by omega];exact h4⟩
  ·rintro⟨m,⟨l',h1,h2⟩,h3⟩;exact⟨l',h1,Oe.2 ⟨m,h2,by rw[show i+(a.length+1)=i+1+a.length by omega]at h3;exact h3⟩⟩
theorem IP.inv{Q:List St->Prop}(hq:∀p i l l' c,EN p i l c=.ok l'->Q l->Q l'):∀{r:List Ch}{i:Nat}{p:Option Int}{l L:List St},IP r i p l L->Q l->Q L
 |[],i,p,l,L,h,h0=>by rw[show L=l from h];exact h0
 |c::r,i,p,l,L,h,h0=>by
  obtain⟨l',h1,h2⟩:=h;exact IP.inv hq h2 (hq _ _ _ _ _ h1 h0)
theorem IP.sorted:∀{r:List Ch}{i:Nat}{p:Option Int}{l L:List St},IP r i p l L->(∀d,p=some d->∀c∈r,d<=c.da)/\r.Pairwise λa b=>a.da<=b.da
 |[],i,p,l,L,h=>⟨λ_ _ c hc=>(by cases hc),List.Pairwise.nil⟩
 |c::r,i,p,l,L,h=>by
  obtain⟨l',h1,h2⟩:=h;obtain⟨h3,h4⟩:=IP.sorted h2;obtain⟨_,hd,_⟩:=HZ h1;refine⟨λd hp x hx=>?_,List.pairwise_cons.2 ⟨λx hx=>h3 _ rfl x hx,h4⟩⟩
  subst hp
  have yR:d<=c.da:=by
   unfold Jn at hd;simp at hd;exact hd
  rcases E1.1 hx with rfl|hx;·exact yR
  ·exact Int.le_trans yR (h3 _ rfl x hx)
theorem IP.Eh:∀{r:List Ch}{i:Nat}{p:Option Int}{l L:List St},IP r i p l L->∀c∈r,E3 c.da=true/\AY c=true
 |[],i,p,l,L,h,c,hc=>by cases hc
 |x::r,i,p,l,L,h,c,hc=>by
  obtain⟨l',h1,h2⟩:=h;rcases E1.1 hc with rfl|hc
  ·obtain⟨_,_,h3,h4,_⟩:=HZ h1;exact⟨h3,h4⟩
  ·exact IP.Eh h2 c hc
theorem PJ{r:List Ch}:Ar r=true↔∃L,IP r 0 none [] L:=by
 unfold Ar Dq;simp only[decide_eq_true_eq];exact⟨λh=>⟨_,jW h⟩,λ⟨L,h⟩=>by rw[Oc h]⟩
theorem YK(r:List Ch)(day:Int):∃z,r=DM r day++z:=⟨r.dropWhile λc=>decide (c.da<=day),(List.takeWhile_append_dropWhile).symm⟩
theorem Ym{r:List Ch}(h:Ar r=true)(day:Int):IP (DM r day) 0 none [] (E6 r day):=by
 obtain⟨L,hL⟩:=PJ.1 h;obtain⟨z,hz⟩:=YK r day;rw[hz]at hL;obtain⟨m,h1,h2⟩:=Oe.1 hL
 have:E6 r day=m:=by
  unfold E6;rw[h,if_pos rfl];unfold Dq;rw[Oc h1]
 rw[this];exact h1
theorem cZ{r:List Ch}{day:Int}{e:Nat}(h1:∀j (hj:j<r.length),j<e->r[j].da<=day)(h2:∀he:e<r.length,day<r[e].da):DM r day=r.take e:=by
 unfold DM;rcases El e r.length with h|h
 ·conv=>lhs;rw[<-List.take_append_drop e r]
  rw[E2,BI h,Fi]
  ·have:=h2 h;rw[if_neg (by simp;omega),List.append_nil]
  ·intro c hc;obtain⟨j,hj,rfl⟩:=Fk hc;simp only[List.length_take]at hj;rw[List.getElem_take];exact decide_eq_true (h1 j (by omega) (by omega))
 ·rw[List.take_of_length_le h]
  have:=E2 (p:=λc:Ch=>decide (c.da<=day)) (l₁:=r) (l₂:=[]) λc hc=>by
   obtain⟨j,hj,rfl⟩:=Fk hc;exact decide_eq_true (h1 j hj (by omega))
  simpa using this
theorem mV{r:List Ch}{day:Int}(h:∀c∈r,c.da<=day):DM r day=r:=by
 have:=cZ (r:=r) (day:=day) (e:=r.length) (λj hj _=>h _ (Bl hj)) (λhe=>absurd he (Nat.lt_irrefl _))
 rwa [BM]at this
theorem Zer{r:List Ch}(h:Ar r=true){c:Ch}(hc:c∈r):E3 c.da=true/\AY c=true:=by
 obtain⟨L,hL⟩:=PJ.1 h;exact hL.Eh c hc
theorem Zbp{r:List Ch}(h:Ar r=true)(day:Int):qQ (E6 r day):=IP.inv (λ_ _ _ _ _=>pT) (Ym h day) (λi j s o _ hs _=>by simp at hs)
structure Full(s:St):Prop where
 co:Jp s.co=true
 tw:ET s.to=true
 na:ET s.na=true
 lo:Fc s.lo=true
 hi:Fc s.hi=true
 le:s.lo<=s.hi
theorem Zfx{c:Ch}(h:AY c=true)(hk:c.ki=1):Jp c.co=true/\ET c.to=true/\ET c.na=true/\Fc c.lo=true/\Fc c.hi=true/\c.lo<=c.hi:=by
 unfold AY at h;rw[if_pos hk]at h;simp only[Bh,decide_eq_true_eq]at h;obtain⟨⟨⟨⟨⟨⟨h1,h2⟩,h3⟩,h4⟩,h5⟩,h6⟩,h7⟩:=h;exact⟨h1,h2,h3,h4,h5,h6⟩
theorem zD{c:Ch}(h:AY c=true)(hk:c.ki=2\/c.ki=5):ET c.na=true:=by
 unfold AY at h;rw[if_neg (by omega),if_pos hk]at h
 simp only[Bh]at h;exact h.1
theorem zF{c:Ch}(h:AY c=true)(hk:c.ki=3):Jp c.co=true:=by
 unfold AY at h;rw[if_neg (by omega),if_neg (by omega),if_pos hk]at h
 simp only[Bh]at h;exact h.1
theorem pQ{s s':St}{c:Ch}(hu:AY c=true)(hs:Full s)(h:BC s c=.ok s'):Full s':=by
 unfold BC at h;split at h
 ·rename_i h2;cases h;exact⟨hs.co,hs.tw,zD hu (.inl h2),hs.lo,hs.hi,hs.le⟩
 ·split at h
  ·rename_i h3;cases h;exact⟨zF hu h3,hs.tw,hs.na,hs.lo,hs.hi,hs.le⟩
  ·split at h
   ·split at h
    ·rename_i hb;cases h;simp only[Bh]at hb;exact⟨hs.co,hs.tw,hs.na,hb.1,hb.2,by have:=hs.le;simp only;omega⟩
    ·cases h
   ·split at h
    ·split at h;·cases h
     ·cases h;exact⟨hs.co,hs.tw,hs.na,hs.lo,hs.hi,hs.le⟩
    ·cases h;exact⟨hs.co,hs.tw,hs.na,hs.lo,hs.hi,hs.le⟩
theorem pP{p:Option Int}{i:Nat}{l l':List St}{c:Ch}(h:EN p i l c=.ok l')(hf:∀s∈l,Full s):∀s∈l',Full s:=by
 obtain⟨_,_,_,hu,n,hm,_⟩:=HZ h;obtain⟨_,_,(⟨hk,_,rfl⟩|⟨hk,_,s,s',hs,_,he,rfl⟩)⟩:=OK hm
 ·intro x hx;rcases Cr.1 hx with hx|hx;·exact hf x hx
  ·rw[Cb]at hx;subst hx;obtain⟨h1,h2,h3,h4,h5,h6⟩:=Zfx hu hk;exact⟨h1,h2,h3,h4,h5,h6⟩
 ·intro x hx;rcases C2 hx with hx|rfl;·exact hf x hx
  ·exact pQ hu (hf s (E0 hs)) he
theorem Zbo{r:List Ch}(h:Ar r=true)(day:Int):∀s∈E6 r day,Full s:=IP.inv (Q:=λl=>∀s∈l,Full s) (λ_ _ _ _ _=>pP) (Ym h day) (λs hs=>by cases hs)
theorem LZ{a:Ad}{s:St}:DY a s=true↔s.op=true/\s.co=a.co/\s.lo<=a.nu/\a.nu<=s.hi/\Be s a.st=true:=by
 unfold DY;simp only[Bh,decide_eq_true_eq];constructor
 ·rintro⟨⟨⟨⟨h1,h2⟩,h3⟩,h4⟩,h5⟩;exact⟨h1,h2,h3,h4,h5⟩
 ·rintro⟨h1,h2,h3,h4,h5⟩;exact⟨⟨⟨⟨h1,h2⟩,h3⟩,h4⟩,h5⟩
theorem oI{l:List St}(hf:qQ l){a b:Ad}(hco:a.co=b.co)(hnu:a.nu=b.nu)(Af:CF a.st=CF b.st){i j:Nat}{s o:St}(hi:l[i]?=some s)(hj:l[j]?=some o)(hs:DY a s=true)(ho:DY b o=true):i=j:=by
 by_cases e:i=j;·exact e
 ·exfalso;have hh:=hf i j s o e hi hj;obtain⟨a1,a2,a3,a4,a5⟩:=LZ.1 hs;obtain⟨b1,b2,b3,b4,b5⟩:=LZ.1 ho;obtain⟨x,hx,ex⟩:=ES.1 a5;obtain⟨y,hy,ey⟩:=ES.1 b5;rw[X0.2 ⟨⟨a1,b1,by rw[a2,b2,hco],by omega,by omega⟩,x,hx,y,hy,by rw[ex,ey,Af]⟩]at hh
  cases hh
theorem wJ{l:List St}(hf:qQ l){a:Ad}{k:Nat}{s:St}(hk:l[k]?=some s)(hs:DY a s=true):Lr l a=(⟨k,a.nu-s.sh⟩,0):=by
 obtain⟨hl,e⟩:=Bv.1 hk
 have:=lZ (l:=l) (a:=a) (k:=k) hl (λj hj O1=>by
  rw[Ef];intro hm;have:=oI hf rfl rfl rfl hk (Ak hj) hs hm;omega) (by rw[e];exact hs)
 rw[this,e]
theorem O9{l:List St}{a:Ad}{q:Pt}(h:Lr l a=(q,0)):∃(k:Nat) (s:St),l[k]?=some s/\DY a s=true/\q=⟨k,a.nu-s.sh⟩:=by
 unfold Lr at h;split at h
 ·rename_i i hi;obtain⟨h1,h2,_⟩:=D0.1 hi;rw[Ak h1]at h;cases h;exact⟨i,_,Ak h1,h2,rfl⟩
 ·cases h
structure Has(l:List St)(p:Pt)(s:St):Prop where
 pos:0<=p.s
 at_:l[p.s.toNat]?=some s
 op:s.op=true
 lo:s.lo-s.sh<=p.n
 hi:p.n<=s.hi-s.sh
def bV(s:St)(p:Pt):Ad:=⟨[],s.na,p.n+s.sh,s.co,s.to⟩
theorem ZB{l:List St}{p:Pt}{s:St}(h:Has l p s):Ht l p=(bV s p,0):=by
 obtain⟨h1,h2,h3,h4,h5⟩:=h;unfold Ht;rw[if_neg (by omega),h2]
 simp only;rw[if_neg (by rw[h3,decide_eq_false (by omega),decide_eq_false (by omega)];decide)]
 rfl
theorem Zap{l:List St}{p:Pt}{a:Ad}(h:Ht l p=(a,0)):∃s,Has l p s/\a=bV s p:=by
 unfold Ht at h;split at h;·cases h
 ·split at h
  ·rename_i h0 s hs;split at h;·cases h
   ·rename_i hb;cases h;simp only[CL,Gt,decide_eq_true_eq,not_or,HM]at hb;obtain⟨⟨h1,h2⟩,h3⟩:=hb;exact⟨s,⟨by omega,hs,h1,by omega,by omega⟩,rfl⟩
  ·cases h
theorem uD(l:List St)(p:Pt):(Ht l p).2=0\/Ht l p=(HT,3):=by
 unfold Ht;split;·exact .inr rfl
 ·split
  ·split;·exact .inr rfl
   ·exact .inl rfl
  ·exact .inr rfl
theorem TM(s:St):Be s s.na=true:=ES.2 ⟨s.na,by simp[xZ],rfl⟩
theorem ZbI{s:St}{x:Bs}(h:x∈s.al):Be s x=true:=ES.2 ⟨x,by simp[xZ,h],rfl⟩
theorem pF{l:List St}{p:Pt}{s:St}(h:Has l p s){t:Bs}(ht:Be s t=true){pe tw:Bs}:DY ⟨pe,t,p.n+s.sh,s.co,tw⟩ s=true:=
 LZ.2 ⟨h.op,rfl,by have:=h.lo;simp only;omega,by have:=h.hi;simp only;omega,ht⟩
theorem wK{l:List St}(hf:qQ l){p:Pt}{s:St}(h:Has l p s){t:Bs}(ht:Be s t=true){pe tw:Bs}:Lr l ⟨pe,t,p.n+s.sh,s.co,tw⟩=(p,0):=by
 rw[wJ hf h.at_ (pF h ht)];have h0:=h.pos;have e1:((p.s.toNat:Nat):Int)=p.s:=by omega
 have e2:p.n+s.sh-s.sh=p.n:=by omega
 rw[e1];simp only[e2]
end Pl
open Go.Av Go.Shelf Pl Go.RowKit
namespace Pl
theorem TP{r:List Ch}(h:Ar r=true)(day:Int)(p:Pt):AW r day p=Ht (E6 r day) p:=by unfold AW;rw[h,if_pos rfl]
theorem aZ{r:List Ch}(h:Ar r=true)(day:Int)(a:Ad):CA r day a=Lr (E6 r day) a:=by unfold CA;rw[h,if_pos rfl]
theorem Zhm{d:Int}:E3 d=true↔-1000000<=d/\d<=1000000:=by unfold E3;simp
theorem V9{r:List Ch}(h:Ar r=true){day:Int}(hd:∀c∈r,c.da<=day):IP r 0 none [] (E6 r day):=by
 have:=Ym h day;rwa [mV hd]at this
end Pl
open Go.Av Go.Shelf Pl Go.RowKit
theorem M3(b:UInt8):AO Tryz.prog 194 [.int .u8 b.toNat] (λr=>r=.int .u8 (CU b).toNat):=by
 refine kB Tryz.func194 rfl ?_;repeat' (first|(refine Ax (λ_=>?_) (λ_=>?_)<;>conv=>whnf)|refine Dd ?_|fail)
 ·rename_i h1 h2;have h3:65<=b.toNat/\b.toNat<=90:=by simp at h1 h2;omega
  refine congrArg (AV.int Jh) ?_;unfold CU;rw[if_pos (by simpa[F6]using h3),UInt8.toNat_add,xR _ (by omega) (by omega)]
  have:(32:UInt8).toNat=32:=rfl;omega
 ·rename_i h1 h2;unfold CU;rw[if_neg (by simp only[decide_eq_false_iff_not]at h2;simp[F6];omega)]
 ·rename_i h1;unfold CU;rw[if_neg (by simp only[decide_eq_false_iff_not]at h1;simp[F6];omega)]
theorem BB(n:Int):AO Tryz.prog 154 [.int .i64 n] (λr=>r=.bool (Fc n)):=by
 refine AO.A3 Tryz.func154 rfl Ag (by kernel_rfl) ?_
 conv=>whnf
 refine BR Ag _ ?_;conv=>whnf
 repeat' (refine Ax (λ_=>?_) (λ_=>?_)<;>conv=>whnf)
 all_goals (refine congrArg AV.bool ?_;rw[Bq];simp_all[Fc]<;>omega)
theorem U6(n t:Bs)(hn:n.length<=1000000):AO Tryz.prog 195 [.str n,.str t] (λr=>r=.bool (cJ n t)):=by
 refine kB Tryz.func195 rfl ?_;refine⟨λh=>?_,λh=>?_⟩
 ·have h:n.length≠t.length:=by simp at h;omega
  refine kW ?_;rw[mB h]
 ·have h:n.length=t.length:=by simp at h;omega
  have hlg:=kT h;refine kW ?_;refine Aa.Aw (λk:Nat=>mk 26 [(0,.str n),(1,.str t),(5,.int .i64 k)]) (λ_=>[]) (λk=>k<=n.length/\∀(i:Nat)(hi:i<n.length),i<k->CU n[i]=CU (t[i]'(by omega))) (λk=>n.length-k) (λ_ _=>⟨rfl,trivial⟩) ⟨0,?_⟩ (λ_=>rfl) λk hk=>?_
  ·refine kQ ?_;exact λi hi h=>by omega
  ·obtain⟨hk,ha⟩:=hk;refine kR ?_;refine⟨λg=>?_,λg=>?_⟩
   ·have g:k<n.length:=by simpa using g
    have A7:=D4 k (by omega)
    have hgn:n.getD (k:Int).toNat 0=n[k]:=by simp[Hs,g]
    have hgt:t.getD (k:Int).toNat 0=t[k]'(by omega):=by simp[Hs,show k<t.length by omega]
    refine kW ?_;refine Aa.draw [] Ag mO (by kernel_rfl) ?_
    conv=>whnf
    refine⟨⟨by omega,by omega⟩,?_⟩
    rw[hgn];conv=>whnf
    refine⟨_,⟨M3 n[k],rfl⟩,?_⟩;conv=>whnf
    refine⟨⟨by omega,by omega⟩,?_⟩
    rw[hgt];conv=>whnf
    refine⟨_,⟨M3 (t[k]'(by omega)),rfl⟩,?_⟩
    conv=>whnf
    refine⟨λg2=>?_,λg2=>?_⟩
    ·have g2:¬CU n[k]=CU (t[k]'(by omega)):=λe=>by rw[e]at g2;simp at g2
     refine kW ?_;repeat' (first|(refine Ax (λ_=>?_) (λ_=>?_)<;>conv=>whnf)|refine Dd ?_|fail)
     refine congrArg AV.bool ?_;cases hq:cJ n t with
     |false=>rfl
     |true=>exact absurd (hlg.1 hq k g) g2
    ·have g2:CU n[k]=CU (t[k]'(by omega)):=by
      have g3:((CU n[k]).toNat:Int)=(CU (t[k]'(by omega))).toNat:=by simpa using g2
      exact UInt8.toNat_inj.1 (by omega)
     refine kW ?_;repeat' (first|(refine Ax (λ_=>?_) (λ_=>?_)<;>conv=>whnf)|refine Dd ?_|fail)
     refine⟨k+1,?_⟩;refine CV A7 ?_;refine⟨⟨g,λi hi h2=>?_⟩,by omega⟩
     rcases El i k with h3|h3;·exact ha i hi h3
     ·obtain rfl:i=k:=by omega
      exact g2
   ·have g:k=n.length:=by simp at g;omega
    refine kW ?_;rw[hlg.2 λi hi=>ha i hi (by omega)]
theorem D8(w:Bs)(hw:w.length<=1000):AO Tryz.prog 153 [.str w] (λr=>r=.bool (Jp w)):=by
 refine kB Tryz.func153 rfl ?_;have hl:Jp w=(decide (1<=w.length)&&decide (w.length<=8)&&w.all Gw):=rfl;refine Aa.Aw (λk:Nat=>mk 40 [(0,.str w),(3,.int .i64 k)]) (λ_=>[]) (λk=>k<=w.length/\(w.take k).all Gw=true) (λk=>w.length-k) (λ_ _=>⟨rfl,trivial⟩) ⟨0,?_⟩ (λ_=>rfl) λk hk=>?_
 ·refine kQ ?_;simp
 ·obtain⟨hk,ha⟩:=hk;refine kR ?_;refine⟨λh=>?_,λh=>?_⟩
  ·have h:k<w.length:=by simpa using h
   have A7:=D4 k (by omega)
   have ht:=Ez Gw w k h;have Ll:=all_false Gw w k h;have hg:w.getD (k:Int).toNat 0=w[k]:=by simp[Hs,h]
   refine kW ?_;repeat' (first|(refine Ax (λ_=>?_) (λ_=>?_)<;>conv=>whnf)|(refine Ax ⟨by omega,by omega⟩ ?_;(conv=>whnf);first|rw[hg])|(refine sT rfl ?_;conv=>whnf))
   all_goals first
    |(have hn:Gw w[k]=false:=by(simp only[decide_eq_true_eq,decide_eq_false_iff_not]at *;unfold Gw F6 Dg;simp;omega)
      refine congrArg AV.bool ?_
      rw[hl,Ll hn,Is])
    |(have hy:Gw w[k]=true:=by(simp only[decide_eq_true_eq,decide_eq_false_iff_not]at *;unfold Gw F6 Dg;simp;omega)
      refine⟨k+1,?_⟩
      refine CV A7 ?_
      exact⟨⟨by omega,by rw[ht,ha,hy];rfl⟩,by omega⟩)
  ·have h:k=w.length:=by simp at h;omega
   rw[h,BM]at ha;refine kW ?_;repeat' (first|(refine Ax (λ_=>?_) (λ_=>?_)<;>conv=>whnf)|refine Dd ?_|fail)
   ·rename_i h1;have h1:1<=w.length:=by simp at h1;omega
    refine congrArg AV.bool ?_;rw[hl,ha,decide_eq_true h1];simp;omega
   ·rename_i h1;have h1:¬1<=w.length:=by simp at h1;omega
    rw[hl,decide_eq_false h1];rfl
theorem NQ(s:St)(t:Bs)(hs:s.al.length<=1000)(Yu:s.na.length<=1000)(hsa:∀x∈s.al,x.length<=1000):AO Tryz.prog 155 [s.v,.str t] (λr=>r=.bool (Be s t)):=by
 refine kB Tryz.func155 rfl ?_;refine kC (U6 s.na t (by omega)) ?_
 refine⟨λh=>?_,λh=>?_⟩
 ·refine kW ?_;unfold Be;rw[h];rfl
 ·have hnn:Be s t=s.al.any λa=>cJ a t:=by unfold Be;rw[h];rfl
  rw[hnn];refine kW ?_;refine Aa.Aw (λk:Nat=>mk 24 [(1,.str t),(2,.ptr 0 0),(4,.lit false),(5,.int .i64 k)]) (λ_=>[.cells (stC s)]) (λk=>k<=s.al.length/\(s.al.take k).any (λa=>cJ a t)=false) (λk=>s.al.length-k) (λ_ _=>⟨rfl,rfl,trivial⟩) ⟨0,?_⟩ (λ_=>rfl) λk hk=>?_
  ·refine kQ ?_;simp
  ·obtain⟨hk,ha⟩:=hk;have fY:=Cu s.al;have A7:=D4 k (by omega)
   refine kR ?_;refine⟨λh1=>?_,λh1=>?_⟩
   ·have h1:k<s.al.length:=by simpa using h1
    refine kW ?_;refine⟨by omega,_,Ep s.al k h1,?_⟩
    refine kW ?_;refine cS (U6 s.al[k] t (by have:=hsa _ (Bl h1);omega)) rfl ?_;refine kW ?_;repeat' (first|(refine Ax (λ_=>?_) (λ_=>?_)<;>conv=>whnf)|refine Dd ?_|fail)
    ·rename_i h5;rw[show(s.al.any λa=>cJ a t)=true from C0.2 ⟨s.al[k],Bl h1,h5⟩]
    ·rename_i h5;refine⟨k+1,?_⟩;refine CV A7 ?_;exact⟨⟨by omega,by rw[Bm h1,E4,ha];simpa using h5⟩,by omega⟩
   ·have h1:k=s.al.length:=by simp at h1;omega
    rw[h1,BM]at ha;refine kW ?_;rw[ha]
theorem bI(o s:St)(ho:o.al.length<=1000)(hs:s.al.length<=1000)(Yu:s.na.length<=1000)(hsa:∀x∈s.al,x.length<=1000):AO Tryz.prog 196 [o.v,s.v] (λr=>r=.bool (Be s o.na||o.al.any (Be s))):=by
 refine kB Tryz.func196 rfl ?_;refine kC (NQ s o.na hs Yu hsa) ?_;refine⟨λh=>?_,λh=>?_⟩
 ·refine kW ?_;rw[h];rfl
 ·rw[h,Bool.false_or];refine kW ?_;refine Aa.Aw (λk:Nat=>mk 24 [(1,s.v),(2,.ptr 0 0),(3,.ptr 1 0),(4,.lit false),(5,.int .i64 k)]) (λ_=>[.cells (stC o),.cells (stC s)]) (λk=>k<=o.al.length/\(o.al.take k).any (Be s)=false) (λk=>o.al.length-k) (λ_ _=>⟨rfl,rfl,rfl,trivial⟩) ⟨0,?_⟩ (λ_=>rfl) λk hk=>?_
  ·refine kQ ?_;simp
  ·obtain⟨hk,ha⟩:=hk;have fY:=Cu o.al;have A7:=D4 k (by omega)
   refine kR ?_;refine⟨λh1=>?_,λh1=>?_⟩
   ·have h1:k<o.al.length:=by simpa using h1
    refine kW ?_;refine Aa.draw [] Ag mO (by kernel_rfl) ?_
    conv=>whnf
    refine⟨by omega,_,Ep o.al k h1,?_⟩
    conv=>whnf
    refine⟨_,⟨NQ s o.al[k] hs Yu hsa,rfl⟩,?_⟩;conv=>whnf
    refine kR ?_;repeat' (first|(refine Ax (λ_=>?_) (λ_=>?_)<;>conv=>whnf)|refine Dd ?_|fail)
    ·rename_i h5;rw[show(o.al.any (Be s))=true from C0.2 ⟨o.al[k],Bl h1,h5⟩]
    ·rename_i h5;refine⟨k+1,?_⟩;refine CV A7 ?_;exact⟨⟨by omega,by rw[Bm h1,E4,ha];simpa using h5⟩,by omega⟩
   ·have h1:k=o.al.length:=by simp at h1;omega
    rw[h1,BM]at ha;refine kW ?_;rw[ha]
theorem F5(l:List St)(n:Nat)(hn:n<l.length)(hl:l.length<=1000)(hb:∀s∈l,s.al.length<=1000/\s.na.length<=1000/\∀x∈s.al,x.length<=1000):
  AO Tryz.prog 156 [KD l,.int .i64 n] (λr=>r=.bool (EL l n)):=by
 refine kB Tryz.func156 rfl ?_;have yM:(l.map St.v).length=l.length:=by simp
 refine Aa.Aw (λk:Nat=>mk 79 [(0,KD l),(1,.int .i64 n),(5,.int .i64 k)]) (λ_=>[]) (λk=>k<=l.length/\(GK k).any (O2 l n l[n])=false) (λk=>l.length-k) (λ_ _=>⟨rfl,trivial⟩) ⟨0,?_⟩ (λ_=>rfl) λk hk=>?_
 ·refine kQ ?_;rfl
 ·obtain⟨hk,ha⟩:=hk;have A7:=D4 k (by omega)
  refine kR ?_;refine⟨λh=>?_,λh=>?_⟩
  ·have h:k<l.length:=by simpa using h
   refine kW ?_;refine Aa.draw [] Ag mO (by kernel_rfl) ?_
   conv=>whnf
   have gk:(List.map St.v l)[((k:Int)).toNat]?=some l[k].v:=by simp[h]
   have gn:(List.map St.v l)[((n:Int)).toNat]?=some l[n].v:=by simp[hn]
   obtain⟨c1,c2,c3⟩:=hb l[k] (Bl h);obtain⟨b1,b2,b3⟩:=hb l[n] (Bl hn);repeat' (first|(refine Ax (λ_=>?_) (λ_=>?_)<;>conv=>whnf)|(refine⟨by omega,l[k].v,gk,?_⟩;conv=>whnf)|(refine⟨by omega,l[n].v,gn,?_⟩;conv=>whnf)|(refine⟨_,⟨bI l[k] l[n] c1 b1 b2 b3,rfl⟩,?_⟩;conv=>whnf))
   ·rename_i g1 g2 g3 g4 g5 g6 g7;refine kR ?_
    have hit:O2 l n l[n] k=true:=by
     have q1:k≠n:=λe=>by subst e;simp at g1
     have q4:l[n].co=l[k].co:=by simp only[beq_iff_eq]at g4;exact g4.symm
     rw[Un hn h];unfold Qr;rw[g7,decide_eq_true q1,g3,g2,decide_eq_true q4,g5,g6];rfl
    repeat' (first|(refine Ax (λ_=>?_) (λ_=>?_)<;>conv=>whnf)|refine Dd ?_|fail)
    rw[Ph hn,C0.2 ⟨k,G1.2 h,hit⟩]
   all_goals (
    refine kR ?_;repeat' (first|(refine Ax (λ_=>?_) (λ_=>?_)<;>conv=>whnf)|refine Dd ?_|fail)
    refine⟨k+1,?_⟩;refine CV A7 ?_;refine⟨⟨by omega,Po ha ?_⟩,by omega⟩
    rw[Un hn h];unfold Qr;rw[Ef];intro hq;simp only[Bh,decide_eq_true_eq]at hq;obtain⟨r1,⟨⟨⟨⟨⟨r2,r3⟩,r4⟩,r5⟩,r6⟩,r7⟩⟩:=hq;clear ha hb A7 b3 c3 gk gn;simp_all<;>omega)
  ·have h:k=l.length:=by simp at h;omega
   refine kW ?_;rw[Ph hn,<-h,ha]
namespace Pl
def Gk:Nat->Nat->Bs->Bool
 |w,n,[]=>decide (0<n)&&decide (w<=4)
 |w,n,c::r=>if c=32 then (if n=0 then false else Gk (w+1) 0 r)else if B5 c then (if 20<=n then false else Gk w (n+1) r)else false
theorem Y7(w n:Nat):Gk w n []=(decide (0<n)&&decide (w<=4)):=rfl
theorem V7(w n:Nat)(c:UInt8)(r:Bs):Gk w n (c::r)=if c=32 then (if n=0 then false else Gk (w+1) 0 r)else if B5 c then (if 20<=n then false else Gk w (n+1) r)else false:=rfl
end Pl
theorem Zas(c:UInt8):((CU c).toNat=c.toNat+32/\65<=c.toNat/\c.toNat<=90)\/((CU c).toNat=c.toNat/\¬(65<=c.toNat/\c.toNat<=90)):=by
 unfold CU;by_cases h:F6 c=true
 ·rw[if_pos h];have h2:65<=c.toNat/\c.toNat<=90:=by simpa[F6]using h
  refine .inl ⟨?_,h2⟩;rw[UInt8.toNat_add];have:(32:UInt8).toNat=32:=rfl;omega
 ·rw[if_neg h];refine .inr ⟨rfl,λh2=>h (by simpa[F6]using h2)⟩
theorem Nu(c:UInt8):B5 c=true↔(65<=c.toNat/\c.toNat<=90)\/(97<=c.toNat/\c.toNat<=122)\/(48<=c.toNat/\c.toNat<=57)\/c.toNat=45\/c.toNat=39:=by
 unfold B5 F6 BJ Dg;simp only[Gt,Bh,decide_eq_true_eq];omega
theorem ZD(c:UInt8):B5 c=false↔¬((65<=c.toNat/\c.toNat<=90)\/(97<=c.toNat/\c.toNat<=122)\/(48<=c.toNat/\c.toNat<=57)\/c.toNat=45\/c.toNat=39):=by
 rw[<-Nu];simp
theorem Vo(s:Bs)(hs:s.length<=1000):AO Tryz.prog 152 [.str s] (λr=>r=.bool (Gk 1 0 s)):=by
 refine kB Tryz.func152 rfl ?_;refine Aa.Aw (λx:Nat×Nat×Nat=>mk 55 [(0,.str s),(3,.int .i64 x.2.1),(4,.int .i64 x.2.2),(5,.int .i64 x.1)]) (λ_=>[]) (λx=>x.1<=s.length/\x.2.1<=x.1+1/\x.2.2<=20/\Gk 1 0 s=Gk x.2.1 x.2.2 (s.drop x.1)) (λx=>s.length-x.1) (λ_ _=>⟨rfl,trivial⟩) ⟨(0,1,0),?_⟩ (λ_=>rfl) λx hx=>?_
 ·refine kQ ?_;rfl
 ·obtain⟨k,w,n⟩:=x;obtain⟨hk,hw,hn,ha⟩:=hx;simp only at hk hw hn ha;refine kR ?_;refine⟨λh=>?_,λh=>?_⟩
  ·have h:k<s.length:=by simpa using h
   have hg:s.getD (k:Int).toNat 0=s[k]:=by simp[Hs,h]
   have A7:=D4 k (by omega)
   have E5:=D4 w (by omega)
   have fX:=D4 n (by omega)
   rw[BI h,V7]at ha;refine kW ?_;have ZmN:=Zas s[k];repeat' (first|(refine Ax (λ_=>?_) (λ_=>?_)<;>conv=>whnf)|(refine Ax ⟨by omega,by omega⟩ ?_;(conv=>whnf);first|rw[hg])|(refine cS (M3 s[k]) rfl ?_;conv=>whnf)|(refine sT rfl ?_;conv=>whnf))
   all_goals simp only[decide_eq_true_eq,decide_eq_false_iff_not,CL,Hx,fX]at *
   rotate_left
   ·have gT:s[k]=32:=UInt8.toNat_inj.1 (by show s[k].toNat=32;omega)
    have h0:¬n=0:=by omega
    refine⟨(k+1,w+1,0),?_⟩;conv=>whnf
    repeat(refine Ax ?_ ?_;(focus (first|rfl|(simp;done)|(first|exact A7|exact E5;done)));conv=>whnf)
    exact⟨(show k+1<=s.length/\w+1<=k+1+1/\0<=20/\Gk 1 0 s=Gk (w+1) 0 (s.drop (k+1))from ⟨by omega,by omega,by omega,by rw[ha,if_pos gT,if_neg h0]⟩),(show s.length-(k+1)<s.length-k by omega)⟩
   all_goals first
    |(have gT:s[k]=32:=UInt8.toNat_inj.1 (by show s[k].toNat=32;omega)
      have h0:n=0:=by omega
      rw[ha,if_pos gT,if_pos h0]
      done)
    |(have gT:s[k]=32:=UInt8.toNat_inj.1 (by show s[k].toNat=32;omega)
      have h0:¬n=0:=by omega
      refine⟨(k+1,w+1,0),?_⟩
      conv=>whnf
      repeat(refine Ax ?_ ?_;(focus (first|rfl|(simp;done)|(first|exact A7|exact E5;done)));conv=>whnf)
      exact⟨(show k+1<=s.length/\w+1<=k+1+1/\0<=20/\Gk 1 0 s=Gk (w+1) 0 (s.drop (k+1))from ⟨by omega,by omega,by omega,by rw[ha,if_pos gT,if_neg h0]⟩),(show s.length-(k+1)<s.length-k by omega)⟩)
    |(have gT:¬s[k]=32:=λe=>by(have e2:s[k].toNat=32:=by(rw[e];rfl));omega
      have hb:B5 s[k]=false:=by(rw[ZD];omega)
      rw[ha,if_neg gT,if_neg (by rw[hb];decide)]
      done)
    |(have gT:¬s[k]=32:=λe=>by(have e2:s[k].toNat=32:=by(rw[e];rfl));omega
      have hb:B5 s[k]=true:=by(rw[Nu];omega)
      have h0:20<=n:=by omega
      rw[ha,if_neg gT,if_pos hb,if_pos h0]
      done)
    |(have gT:¬s[k]=32:=λe=>by(have e2:s[k].toNat=32:=by(rw[e];rfl));omega
      have hb:B5 s[k]=true:=by(rw[Nu];omega)
      have h0:¬20<=n:=by omega
      refine⟨(k+1,w,n+1),?_⟩
      conv=>whnf
      repeat(refine Ax ?_ ?_;(focus (first|rfl|(simp;done)|(first|exact A7|(show Wr .i64 _=_;rw[Em (by omega)];rfl);done)));conv=>whnf)
      exact⟨(show k+1<=s.length/\w<=k+1+1/\n+1<=20/\Gk 1 0 s=Gk w (n+1) (s.drop (k+1))from ⟨by omega,by omega,by omega,by rw[ha,if_neg gT,if_pos hb,if_neg h0]⟩),(show s.length-(k+1)<s.length-k by omega)⟩)
    |trace_state
  ·have h:k=s.length:=by simp at h;omega
   rw[h,Eu,Y7]at ha;refine kW ?_;rw[ha];repeat' (first|(refine Ax (λ_=>?_) (λ_=>?_)<;>conv=>whnf)|refine Dd ?_|fail)
   ·rename_i h1;have h1:0<n:=by simp at h1;omega
    refine congrArg AV.bool ?_;rw[decide_eq_true h1,Ix,Bq];simp only[decide_eq_true_eq];omega
   ·rename_i h1;have h1:¬0<n:=by simp at h1;omega
    rw[decide_eq_false h1];rfl
namespace Pl
theorem Tb(s:Bs):∃y ys,splitB s=y::ys:=by
 have:=FN s;cases h:splitB s with
 |nil=>rw[h]at this;simp at this
 |cons y ys=>exact⟨y,ys,rfl⟩
theorem M6:∀(s:Bs)(w n:Nat),n<=20->∀y ys,splitB s=y::ys->Gk w n s=(decide (1<=n+y.length)&&decide (n+y.length<=20)&&y.all B5&&(ys.all HV&&decide (w+ys.length<=4)))
 |[],w,n,hn,y,ys,h=>by
  have h2:splitB []=[[]]:=rfl;rw[h2]at h;simp only[Hz.injEq]at h;obtain⟨rfl,rfl⟩:=h;rw[Y7,Bq];simp;omega
 |c::r,w,n,hn,y,ys,h=>by
  obtain⟨y',ys',hr⟩:=Tb r;rw[V7];rw[DN,hr]at h;by_cases hc:c=32
  ·rw[if_pos hc]at h ⊢;simp only[Hz.injEq]at h;obtain⟨rfl,rfl⟩:=h;by_cases h0:n=0
   ·rw[if_pos h0,h0];rfl
   ·rw[if_neg h0,M6 r (w+1) 0 (by omega) y' ys' hr,Bq]
    simp only[H4,List.all_nil,HB,HV,Bh,decide_eq_true_eq,EI];constructor
    ·rintro⟨⟨⟨a1,a2⟩,a3⟩,a4,a5⟩;exact⟨⟨⟨by omega,by omega⟩,trivial⟩,⟨⟨⟨by omega,by omega⟩,a3⟩,a4⟩,by omega⟩
    ·rintro⟨_,⟨⟨⟨a1,a2⟩,a3⟩,a4⟩,a5⟩;exact⟨⟨⟨by omega,by omega⟩,a3⟩,a4,by omega⟩
  ·rw[if_neg hc]at h ⊢;simp only[Hz.injEq]at h;obtain⟨rfl,rfl⟩:=h;by_cases hb:B5 c=true
   ·rw[if_pos hb];by_cases h0:20<=n
    ·rw[if_pos h0,decide_eq_false (show ¬n+(c::y').length<=20 by simp;omega)]
     simp
    ·rw[if_neg h0,M6 r w (n+1) (by omega) y' _ hr]
     simp only[EI,HB,hb,Ix];rw[show n+1+y'.length=n+(y'.length+1) by omega]
   ·rw[if_neg hb];simp[hb]
theorem KQ:∀(s:Bs)(y:Bs)(ys:List Bs),splitB s=y::ys->(∀w∈ys,w.length<=20)->s.length<=y.length+21*ys.length
 |[],y,ys,h,_=>by simp
 |c::r,y,ys,h,hw=>by
  obtain⟨y',ys',hr⟩:=Tb r;rw[DN,hr]at h;by_cases hc:c=32
  ·rw[if_pos hc]at h;simp only[Hz.injEq]at h;obtain⟨rfl,rfl⟩:=h;have h1:=KQ r y' ys' hr λw h=>hw w (by simp[h])
   have h2:=hw y' (by simp)
   simp;omega
  ·rw[if_neg hc]at h;simp only[Hz.injEq]at h;obtain⟨rfl,rfl⟩:=h;have h1:=KQ r y' _ hr hw;simp;omega
theorem nF(s:Bs):Gk 1 0 s=ET s:=by
 obtain⟨y,ys,h⟩:=Tb s;rw[M6 s 1 0 (by omega) y ys h]
 unfold ET;rw[h,Bq];simp only[HB,HV,Bh,decide_eq_true_eq,EI];constructor
 ·rintro⟨⟨⟨a1,a2⟩,a3⟩,a4,a5⟩
  have hb:=KQ s y ys h λw hw=>by
   have:=H0.1 a4 w hw;simp only[HV,Bh,decide_eq_true_eq]at this;exact this.1.2
  exact⟨⟨by omega,by omega⟩,⟨⟨by omega,by omega⟩,a3⟩,a4⟩
 ·rintro⟨⟨_,a5⟩,⟨⟨a1,a2⟩,a3⟩,a4⟩;exact⟨⟨⟨by omega,by omega⟩,a3⟩,a4,by omega⟩
end Pl
theorem Bt(s:Bs)(hs:s.length<=1000):AO Tryz.prog 152 [.str s] (λr=>r=.bool (ET s)):=by
 rw[<-nF s];exact Vo s hs
open Go.Av Go.Shelf Pl Go.RowKit
abbrev qJ(da ki sr:Int)(co tw na:Bs)(lo hi sh:Int):AV:=.agg [.int .i64 da,.int .i64 ki,.int .i64 sr,.str co,.str tw,.str na,.int .i64 lo,.int .i64 hi,.int .i64 sh]
set_option maxHeartbeats 4000000 in
theorem Za5(da sr:Int)(co tw na:Bs)(lo hi sh:Int)(h1:na.length<=1000)(h2:co.length<=1000)(h3:tw.length<=1000):AO Tryz.prog 118 [qJ da 1 sr co tw na lo hi sh] (λr=>r=.bool (E3 da&&AY ⟨da,1,sr,co,tw,na,lo,hi,sh⟩)):=by
 refine kB Tryz.func118 rfl ?_;repeat' (first|(refine⟨λ_=>?_,λh=>absurd h (by decide +kernel)⟩;conv=>whnf)|(refine⟨λh=>absurd h (by decide +kernel),λ_=>?_⟩;conv=>whnf)|(refine Ax (λ_=>?_) (λ_=>?_)<;>conv=>whnf)|(refine cS (Bt na h1) rfl ?_;conv=>whnf)|(refine cS (D8 co h2) rfl ?_;conv=>whnf)|(refine cS (Bt tw h3) rfl ?_;conv=>whnf)|(refine cS (BB lo) rfl ?_;conv=>whnf)|(refine cS (BB hi) rfl ?_;conv=>whnf)|(refine sT rfl ?_;conv=>whnf))
 all_goals clear h1 h2 h3
 all_goals (refine congrArg AV.bool ?_;unfold E3 AY;simp_all<;>omega)
set_option maxHeartbeats 4000000 in
theorem Za4(da sr:Int)(co tw na:Bs)(lo hi sh:Int)(h1:na.length<=1000)(h2:co.length<=1000)(h3:tw.length<=1000):AO Tryz.prog 118 [qJ da 2 sr co tw na lo hi sh] (λr=>r=.bool (E3 da&&AY ⟨da,2,sr,co,tw,na,lo,hi,sh⟩)):=by
 refine kB Tryz.func118 rfl ?_;repeat' (first|(refine⟨λ_=>?_,λh=>absurd h (by decide +kernel)⟩;conv=>whnf)|(refine⟨λh=>absurd h (by decide +kernel),λ_=>?_⟩;conv=>whnf)|(refine Ax (λ_=>?_) (λ_=>?_)<;>conv=>whnf)|(refine cS (Bt na h1) rfl ?_;conv=>whnf)|(refine cS (D8 co h2) rfl ?_;conv=>whnf)|(refine cS (Bt tw h3) rfl ?_;conv=>whnf)|(refine cS (BB lo) rfl ?_;conv=>whnf)|(refine cS (BB hi) rfl ?_;conv=>whnf)|(refine sT rfl ?_;conv=>whnf))
 all_goals clear h1 h2 h3
 all_goals (refine congrArg AV.bool ?_;unfold E3 AY;simp_all<;>omega)
set_option maxHeartbeats 4000000 in
theorem Za3(da sr:Int)(co tw na:Bs)(lo hi sh:Int)(h1:na.length<=1000)(h2:co.length<=1000)(h3:tw.length<=1000):AO Tryz.prog 118 [qJ da 3 sr co tw na lo hi sh] (λr=>r=.bool (E3 da&&AY ⟨da,3,sr,co,tw,na,lo,hi,sh⟩)):=by
 refine kB Tryz.func118 rfl ?_;repeat' (first|(refine⟨λ_=>?_,λh=>absurd h (by decide +kernel)⟩;conv=>whnf)|(refine⟨λh=>absurd h (by decide +kernel),λ_=>?_⟩;conv=>whnf)|(refine Ax (λ_=>?_) (λ_=>?_)<;>conv=>whnf)|(refine cS (Bt na h1) rfl ?_;conv=>whnf)|(refine cS (D8 co h2) rfl ?_;conv=>whnf)|(refine cS (Bt tw h3) rfl ?_;conv=>whnf)|(refine cS (BB lo) rfl ?_;conv=>whnf)|(refine cS (BB hi) rfl ?_;conv=>whnf)|(refine sT rfl ?_;conv=>whnf))
 all_goals clear h1 h2 h3
 all_goals (refine congrArg AV.bool ?_;unfold E3 AY;simp_all<;>omega)
set_option maxHeartbeats 4000000 in
theorem Za2(da sr:Int)(co tw na:Bs)(lo hi sh:Int)(h1:na.length<=1000)(h2:co.length<=1000)(h3:tw.length<=1000):AO Tryz.prog 118 [qJ da 4 sr co tw na lo hi sh] (λr=>r=.bool (E3 da&&AY ⟨da,4,sr,co,tw,na,lo,hi,sh⟩)):=by
 refine kB Tryz.func118 rfl ?_;repeat' (first|(refine⟨λ_=>?_,λh=>absurd h (by decide +kernel)⟩;conv=>whnf)|(refine⟨λh=>absurd h (by decide +kernel),λ_=>?_⟩;conv=>whnf)|(refine Ax (λ_=>?_) (λ_=>?_)<;>conv=>whnf)|(refine cS (Bt na h1) rfl ?_;conv=>whnf)|(refine cS (D8 co h2) rfl ?_;conv=>whnf)|(refine cS (Bt tw h3) rfl ?_;conv=>whnf)|(refine cS (BB lo) rfl ?_;conv=>whnf)|(refine cS (BB hi) rfl ?_;conv=>whnf)|(refine sT rfl ?_;conv=>whnf))
 all_goals clear h1 h2 h3
 all_goals (refine congrArg AV.bool ?_;unfold E3 AY;simp_all<;>omega)
set_option maxHeartbeats 4000000 in
theorem Za1(da sr:Int)(co tw na:Bs)(lo hi sh:Int)(h1:na.length<=1000)(h2:co.length<=1000)(h3:tw.length<=1000):AO Tryz.prog 118 [qJ da 5 sr co tw na lo hi sh] (λr=>r=.bool (E3 da&&AY ⟨da,5,sr,co,tw,na,lo,hi,sh⟩)):=by
 refine kB Tryz.func118 rfl ?_;repeat' (first|(refine⟨λ_=>?_,λh=>absurd h (by decide +kernel)⟩;conv=>whnf)|(refine⟨λh=>absurd h (by decide +kernel),λ_=>?_⟩;conv=>whnf)|(refine Ax (λ_=>?_) (λ_=>?_)<;>conv=>whnf)|(refine cS (Bt na h1) rfl ?_;conv=>whnf)|(refine cS (D8 co h2) rfl ?_;conv=>whnf)|(refine cS (Bt tw h3) rfl ?_;conv=>whnf)|(refine cS (BB lo) rfl ?_;conv=>whnf)|(refine cS (BB hi) rfl ?_;conv=>whnf)|(refine sT rfl ?_;conv=>whnf))
 all_goals clear h1 h2 h3
 all_goals (refine congrArg AV.bool ?_;unfold E3 AY;simp_all<;>omega)
set_option maxHeartbeats 4000000 in
theorem Za0(da sr:Int)(co tw na:Bs)(lo hi sh:Int)(h1:na.length<=1000)(h2:co.length<=1000)(h3:tw.length<=1000):AO Tryz.prog 118 [qJ da 6 sr co tw na lo hi sh] (λr=>r=.bool (E3 da&&AY ⟨da,6,sr,co,tw,na,lo,hi,sh⟩)):=by
 refine kB Tryz.func118 rfl ?_;repeat' (first|(refine⟨λ_=>?_,λh=>absurd h (by decide +kernel)⟩;conv=>whnf)|(refine⟨λh=>absurd h (by decide +kernel),λ_=>?_⟩;conv=>whnf)|(refine Ax (λ_=>?_) (λ_=>?_)<;>conv=>whnf)|(refine cS (Bt na h1) rfl ?_;conv=>whnf)|(refine cS (D8 co h2) rfl ?_;conv=>whnf)|(refine cS (Bt tw h3) rfl ?_;conv=>whnf)|(refine cS (BB lo) rfl ?_;conv=>whnf)|(refine cS (BB hi) rfl ?_;conv=>whnf)|(refine sT rfl ?_;conv=>whnf))
 all_goals clear h1 h2 h3
 all_goals (refine congrArg AV.bool ?_;unfold E3 AY;simp_all<;>omega)
set_option maxHeartbeats 4000000 in
theorem Za6(da ki sr:Int)(co tw na:Bs)(lo hi sh:Int)(k1:ki≠1)(k2:ki≠2)(k3:ki≠3)(k4:ki≠4)(k5:ki≠5)(k6:ki≠6):AO Tryz.prog 118 [qJ da ki sr co tw na lo hi sh] (λr=>r=.bool (E3 da&&AY ⟨da,ki,sr,co,tw,na,lo,hi,sh⟩)):=by
 have hu:AY ⟨da,ki,sr,co,tw,na,lo,hi,sh⟩=false:=by unfold AY;simp[k1,k2,k3,k4,k5,k6]
 rw[hu,Is];refine kB Tryz.func118 rfl ?_;repeat' (first|(refine Zlh ?_ (λ_=>?_);(focus (simp[k1,k2,k3,k4,k5,k6];done));conv=>whnf)|(refine Zh8 ?_ (λ_=>?_);(focus (simp[k1,k2,k3,k4,k5,k6];done));conv=>whnf)|(refine Ax (λ_=>?_) (λ_=>?_)<;>conv=>whnf)|(refine sT rfl ?_;conv=>whnf))
 all_goals first
  |(exfalso;clear hu;simp_all;done)
  |(refine congrArg AV.bool ?_;simp_all<;>omega)
theorem Il(c:Ch)(h1:c.na.length<=1000)(h2:c.co.length<=1000)(h3:c.to.length<=1000):AO Tryz.prog 118 [c.v] (λr=>r=.bool (E3 c.da&&AY c)):=by
 obtain⟨da,ki,sr,co,tw,na,lo,hi,sh⟩:=c;by_cases k1:ki=1;·subst k1;exact Za5 da sr co tw na lo hi sh h1 h2 h3
 by_cases k2:ki=2;·subst k2;exact Za4 da sr co tw na lo hi sh h1 h2 h3
 by_cases k3:ki=3;·subst k3;exact Za3 da sr co tw na lo hi sh h1 h2 h3
 by_cases k4:ki=4;·subst k4;exact Za2 da sr co tw na lo hi sh h1 h2 h3
 by_cases k5:ki=5;·subst k5;exact Za1 da sr co tw na lo hi sh h1 h2 h3
 by_cases k6:ki=6;·subst k6;exact Za0 da sr co tw na lo hi sh h1 h2 h3
 exact Za6 da ki sr co tw na lo hi sh k1 k2 k3 k4 k5 k6
namespace Pl
def Hi(c:Ch):Bool:=decide (c.na.length<=100)&&decide (c.to.length<=100)&&decide (c.co.length<=20)
def Ca(r:List Ch):Bool:=decide (r.length<=70)&&r.all Hi
end Pl
theorem U1(r:List Ch):AO Tryz.prog 38 [D5 r] (λx=>x=.bool (Ca r)):=by
 refine kB Tryz.func38 rfl ?_;refine⟨λh=>?_,λh=>?_⟩
 ·have h:¬r.length<=70:=by simp at h;omega
  refine kW ?_;unfold Ca;rw[decide_eq_false h];rfl
 ·have h:r.length<=70:=by simp at h;omega
  have hr:Ca r=r.all Hi:=by unfold Ca;rw[decide_eq_true h];rfl
  refine kW ?_;refine Aa.Aw (λk:Nat=>mk 38 [(0,D5 r),(3,.int .i64 k)]) (λ_=>[]) (λk=>k<=r.length/\(r.take k).all Hi=true) (λk=>r.length-k) (λ_ _=>⟨rfl,trivial⟩) ⟨0,?_⟩ (λ_=>rfl) λk hk=>?_
  ·refine kQ ?_;simp
  ·obtain⟨hk,ha⟩:=hk;have A7:=D4 k (by omega)
   refine kR ?_;refine⟨λh1=>?_,λh1=>?_⟩
   ·have h1:k<r.length:=by simpa using h1
    have gk:(List.map Ch.v r)[((k:Int)).toNat]?=some (r[k]).v:=by simp[h1]
    have ht:(r.take (k+1)).all Hi=((r.take k).all Hi&&Hi r[k]):=by rw[Bm h1,FZ];simp
    refine kW ?_;repeat' (first|(refine Ax (λ_=>?_) (λ_=>?_)<;>conv=>whnf)|(refine⟨by omega,(r[k]).v,gk,?_⟩;conv=>whnf))
    all_goals (
     refine kR ?_;try (repeat' (first|(refine Ax (λ_=>?_) (λ_=>?_)<;>conv=>whnf)|(refine⟨by omega,(r[k]).v,gk,?_⟩;conv=>whnf))))
    all_goals (
     repeat' (first|(refine Ax (λ_=>?_) (λ_=>?_)<;>conv=>whnf)|refine Dd ?_|fail)
     skip)
    all_goals first
     |(refine congrArg AV.bool ?_
       have hn:Hi r[k]=false:=by(rw[Ef];intro hq;clear ha ht hr gk;unfold Hi at hq;simp only[Bh,decide_eq_true_eq,decide_eq_false_iff_not]at *;omega)
       rw[hr,FB.2 ⟨r[k],Bl h1,by simp[hn]⟩])
     |(have hy:Hi r[k]=true:=by(clear ha ht hr gk;unfold Hi;simp only[Bh,decide_eq_true_eq,decide_eq_false_iff_not]at *;omega)
       refine⟨k+1,?_⟩
       refine CV A7 ?_
       exact⟨⟨by omega,by rw[ht,ha,hy];rfl⟩,by omega⟩)
     |trace_state
   ·have h1:k=r.length:=by simp at h1;omega
    rw[h1,BM]at ha;refine kW ?_;rw[hr,ha]
open Go.Av Go.Shelf Pl Go.RowKit
namespace Pl
def Gq(l:List St)(c:Ch):Except Int (List St):=match KE l c with
 |.error e=>.error e
 |.ok (l',n)=>if EL l' n then .error 51 else .ok l'
end Pl
def dX:Except Int (List St)->AV
 |.ok l=>.tuple [KD l,.int .i64 0]
 |.error e=>.tuple [KD [],.int .i64 e]
theorem CI(l:List St)(x:AV):([]++List.map St.v l++[x])[0+((([]++List.map St.v l).length:Nat):Int).toNat]?=some x:=by simp
theorem Wc(l:List St):(l.map St.v).map DW=l.map St.v:=by
 rw[HR];rfl
theorem nB(l:List St)(x y:AV)(s:St)(h:DW y=s.v):(([]++List.map St.v l++[x]).set (0+((([]++List.map St.v l).length:Nat):Int).toNat) y).map DW=(l++[s]).map St.v:=by
 have e:0+((([]++List.map St.v l).length:Nat):Int).toNat=(l.map St.v).length:=by simp
 rw[e,Fl,F0 _ _ (C3 _),Nat.sub_self,List.set_cons_zero,E8,Wc,E8];simp[h]
theorem FM(l:List St):∀e∈l.map St.v,closed e=true:=by
 intro e he;obtain⟨s,_,rfl⟩:=C1.1 he;show closed (.sl 1 (strs s.al))=true
 rfl
theorem kP{da:Int}{co tw na:Bs}{lo hi sh:Int}(l:List St)(sr:Int){ki:Int}(hk:ki=1):KE l ⟨da,ki,sr,co,tw,na,lo,hi,sh⟩=.ok (l++[Qd ⟨da,ki,sr,co,tw,na,lo,hi,sh⟩],l.length):=by
 unfold KE;rw[if_pos hk]
theorem L2{l l':List St}{c:Ch}{n:Nat}(hu:AY c=true)(Fj:∀s∈l,BX s 60)(hm:KE l c=.ok (l',n)):∀s∈l',s.al.length<=1000/\s.na.length<=1000/\∀x∈s.al,x.length<=1000:=λs hs=>by
 have h:=(uI hu Fj hm).1 s hs;exact⟨by have:=h.al;omega,by have:=h.na;omega,λx hx=>by have:=h.rF x hx;omega⟩
theorem Jc{l l':List St}{c:Ch}{n:Nat}(hm:KE l c=.ok (l',n))(h:EL l' n=true):Gq l c=.error 51:=by
 unfold Gq;rw[hm];simp[h]
theorem G9{l l':List St}{c:Ch}{n:Nat}(hm:KE l c=.ok (l',n))(h:EL l' n=false):Gq l c=.ok l':=by
 unfold Gq;rw[hm];simp[h]
theorem B6{l:List St}{c:Ch}{e:Int}(hm:KE l c=.error e):Gq l c=.error e:=by
 unfold Gq;rw[hm]
theorem EJ(l:List St)(n:Nat)(h:n<l.length):([]++List.map St.v l)[0+n]?=some (l[n]).v:=by simp[h]
theorem Pd(l:List St)(n:Nat)(y:AV)(s:St)(h:DW y=s.v):(([]++List.map St.v l).set (0+n) y).map DW=(l.set n s).map St.v:=by
 rw[Fl,Ds,DE,Wc,DE,h]
theorem OL{l:List St}{c:Ch}{s':St}(hk:c.ki≠1)(h0:0<=c.sr)(h:c.sr.toNat<l.length)(ho:l[c.sr.toNat].op=true)(he:BC l[c.sr.toNat] c=.ok s'):KE l c=.ok (l.set c.sr.toNat s',c.sr.toNat):=by
 have Py:Eb l c.sr=true:=by
  unfold Eb;rw[Ak h,decide_eq_true h0];exact ho
 unfold KE;rw[if_neg hk,if_pos Py,Ak h];simp only[he]
theorem kS{l:List St}{c:Ch}{e:Int}(hk:c.ki≠1)(h0:0<=c.sr)(h:c.sr.toNat<l.length)(ho:l[c.sr.toNat].op=true)(he:BC l[c.sr.toNat] c=.error e):KE l c=.error e:=by
 have Py:Eb l c.sr=true:=by
  unfold Eb;rw[Ak h,decide_eq_true h0];exact ho
 unfold KE;rw[if_neg hk,if_pos Py,Ak h];simp only[he]
theorem OF{l:List St}{n:Int}(h:(l.length:Int)<=n):Eb l n=false:=by
 unfold Eb;rw[BY (by omega)]
 simp
theorem I7{l:List St}{n:Int}(h:n.toNat<l.length)(ho:l[n.toNat].op=false):Eb l n=false:=by
 unfold Eb;rw[Ak h];simp[ho]
theorem Zf2(l:List St)(da sr:Int)(co tw na:Bs)(lo hi sh:Int)(hl:l.length<=60)(Fj:∀s∈l,BX s 60)(hu:AY ⟨da,1,sr,co,tw,na,lo,hi,sh⟩=true):
  AO Tryz.prog 119 [KD l,qJ da 1 sr co tw na lo hi sh] (λx=>x=dX (Gq l ⟨da,1,sr,co,tw,na,lo,hi,sh⟩)):=by
 refine kB Tryz.func119 rfl ?_;refine⟨⟨rfl,by simp;omega⟩,?_⟩
 refine kW ?_;refine⟨λ_=>?_,λh=>absurd h (by decide +kernel)⟩
 refine kW ?_;refine⟨rfl,⟨rfl,by simp;omega⟩,?_⟩
 refine kW ?_;refine⟨by simp;omega,?_⟩
 refine kW ?_;refine⟨_,CI l _,?_⟩;refine kW ?_;repeat' (first|(refine⟨λ_=>?_,λh=>absurd h (by decide +kernel)⟩;conv=>whnf)|(refine⟨λh=>absurd h (by decide +kernel),λ_=>?_⟩;conv=>whnf)|(refine Ax (λ_=>?_) (λ_=>?_)<;>conv=>whnf)|(refine sT rfl ?_;conv=>whnf))
 refine⟨by simp;omega,?_⟩
 refine kW ?_;refine⟨_,CI l _,?_⟩;refine kW ?_;refine Aj.DW 1 rfl (nB l _ _ (Qd ⟨da,1,sr,co,tw,na,lo,hi,sh⟩) rfl) ?_;refine Aj.freeze 1 ?_ (by kernel_rfl)
 conv=>whnf
 refine⟨FM _,?_⟩;conv=>whnf
 repeat(refine⟨(by first|rfl|(simp;done):(_:Nat)=_),?_⟩;conv=>whnf)
 refine kC (F5 (l++[Qd ⟨da,1,sr,co,tw,na,lo,hi,sh⟩]) (([]:List AV)++List.map St.v l).length (by simp) (by simp;omega) (L2 hu Fj (kP l sr rfl))) ?_
 have hm:=kP (da:=da) (co:=co) (tw:=tw) (na:=na) (lo:=lo) (hi:=hi) (sh:=sh) l sr rfl;refine⟨λh=>?_,λh=>?_⟩
 ·refine kW ?_;refine⟨8,?_⟩;conv=>whnf
  rw[Jc hm (by simpa using h)]
  rfl
 ·refine kW ?_;rw[G9 hm (by simpa using h)]
  rfl
set_option maxHeartbeats 4000000 in
theorem Zf1(l:List St)(da sr:Int)(co tw na:Bs)(lo hi sh:Int)(hl:l.length<=60)(Fj:∀s∈l,BX s 60)(hu:AY ⟨da,2,sr,co,tw,na,lo,hi,sh⟩=true):
  AO Tryz.prog 119 [KD l,qJ da 2 sr co tw na lo hi sh] (λx=>x=dX (Gq l ⟨da,2,sr,co,tw,na,lo,hi,sh⟩)):=by
 refine kB Tryz.func119 rfl ?_;refine⟨⟨rfl,by simp;omega⟩,?_⟩
 refine kW ?_;refine⟨λh=>absurd h (by decide +kernel),λ_=>?_⟩
 refine kW ?_;refine⟨λh1=>?_,λh1=>?_⟩;rotate_left
 ·have h1:sr<0:=by simpa using h1
  refine kW ?_;refine⟨8,?_⟩;conv=>whnf
  rw[B6 (CD (by simp) (LU h1))]
  rfl
 have h1:0<=sr:=by simp at h1;omega
 refine kW ?_;refine⟨λh2=>?_,λh2=>?_⟩;rotate_left
 ·have h2:(l.length:Int)<=sr:=by simpa using h2
  refine kW ?_;refine⟨8,?_⟩;conv=>whnf
  rw[B6 (CD (by simp) (OF h2))]
  rfl
 have h2:sr.toNat<l.length:=by simp at h2;omega
 refine kW ?_;refine⟨by simp;omega,?_⟩
 refine kW ?_;refine⟨_,EJ l _ h2,?_⟩;refine kW ?_;refine⟨λh3=>?_,λh3=>?_⟩
 ·have h3:l[sr.toNat].op=false:=by simpa using h3
  refine kW ?_;refine⟨8,?_⟩;conv=>whnf
  rw[B6 (CD (by simp) (I7 h2 h3))]
  rfl
 have h3:l[sr.toNat].op=true:=by simpa using h3
 refine kW ?_;refine⟨by simp;omega,?_⟩
 refine kW ?_;refine⟨_,EJ l _ h2,?_⟩;refine kW ?_;have hm:KE l ⟨da,2,sr,co,tw,na,lo,hi,sh⟩=.ok (l.set sr.toNat {l[sr.toNat]with na:=na},sr.toNat):=OL (by simp) h1 h2 h3 (by unfold BC;simp)
 repeat' (first|(refine⟨λ_=>?_,λh=>absurd h (by decide +kernel)⟩;conv=>whnf)|(refine⟨λh=>absurd h (by decide +kernel),λ_=>?_⟩;conv=>whnf)|(refine Ax (λ_=>?_) (λ_=>?_)<;>conv=>whnf)|(refine sT rfl ?_;conv=>whnf))
 refine⟨by simp;omega,?_⟩
 refine kW ?_;refine⟨_,EJ l _ h2,?_⟩;refine kW ?_;refine Aj.DW 1 rfl (Pd l _ _ ({l[sr.toNat]with na:=na}) (rfl)) ?_
 refine Aj.freeze 1 ?_ (by kernel_rfl)
 conv=>whnf
 refine⟨FM _,?_⟩;conv=>whnf
 repeat(refine⟨(by first|rfl|(simp;done):(_:Nat)=_),?_⟩;conv=>whnf)
 have hn:sr=(sr.toNat:Int):=by omega
 have spec:=F5 (l.set sr.toNat ({l[sr.toNat]with na:=na})) sr.toNat (by simpa using h2) (by simp;omega) (L2 hu Fj hm)
 rw[<-hn]at spec;refine kC (spec) ?_;refine⟨λh=>?_,λh=>?_⟩
 ·refine kW ?_;refine⟨8,?_⟩;conv=>whnf
  rw[Jc hm (by simpa using h)]
  rfl
 ·refine kW ?_;rw[G9 hm (by simpa using h)]
  rfl
set_option maxHeartbeats 4000000 in
theorem Zf0(l:List St)(da sr:Int)(co tw na:Bs)(lo hi sh:Int)(hl:l.length<=60)(Fj:∀s∈l,BX s 60)(hu:AY ⟨da,3,sr,co,tw,na,lo,hi,sh⟩=true):
  AO Tryz.prog 119 [KD l,qJ da 3 sr co tw na lo hi sh] (λx=>x=dX (Gq l ⟨da,3,sr,co,tw,na,lo,hi,sh⟩)):=by
 refine kB Tryz.func119 rfl ?_;refine⟨⟨rfl,by simp;omega⟩,?_⟩
 refine kW ?_;refine⟨λh=>absurd h (by decide +kernel),λ_=>?_⟩
 refine kW ?_;refine⟨λh1=>?_,λh1=>?_⟩;rotate_left
 ·have h1:sr<0:=by simpa using h1
  refine kW ?_;refine⟨8,?_⟩;conv=>whnf
  rw[B6 (CD (by simp) (LU h1))]
  rfl
 have h1:0<=sr:=by simp at h1;omega
 refine kW ?_;refine⟨λh2=>?_,λh2=>?_⟩;rotate_left
 ·have h2:(l.length:Int)<=sr:=by simpa using h2
  refine kW ?_;refine⟨8,?_⟩;conv=>whnf
  rw[B6 (CD (by simp) (OF h2))]
  rfl
 have h2:sr.toNat<l.length:=by simp at h2;omega
 refine kW ?_;refine⟨by simp;omega,?_⟩
 refine kW ?_;refine⟨_,EJ l _ h2,?_⟩;refine kW ?_;refine⟨λh3=>?_,λh3=>?_⟩
 ·have h3:l[sr.toNat].op=false:=by simpa using h3
  refine kW ?_;refine⟨8,?_⟩;conv=>whnf
  rw[B6 (CD (by simp) (I7 h2 h3))]
  rfl
 have h3:l[sr.toNat].op=true:=by simpa using h3
 refine kW ?_;refine⟨by simp;omega,?_⟩
 refine kW ?_;refine⟨_,EJ l _ h2,?_⟩;refine kW ?_;have hm:KE l ⟨da,3,sr,co,tw,na,lo,hi,sh⟩=.ok (l.set sr.toNat {l[sr.toNat]with co:=co},sr.toNat):=OL (by simp) h1 h2 h3 (by unfold BC;simp)
 repeat' (first|(refine⟨λ_=>?_,λh=>absurd h (by decide +kernel)⟩;conv=>whnf)|(refine⟨λh=>absurd h (by decide +kernel),λ_=>?_⟩;conv=>whnf)|(refine Ax (λ_=>?_) (λ_=>?_)<;>conv=>whnf)|(refine sT rfl ?_;conv=>whnf))
 refine⟨by simp;omega,?_⟩
 refine kW ?_;refine⟨_,EJ l _ h2,?_⟩;refine kW ?_;refine Aj.DW 1 rfl (Pd l _ _ ({l[sr.toNat]with co:=co}) (rfl)) ?_
 refine Aj.freeze 1 ?_ (by kernel_rfl)
 conv=>whnf
 refine⟨FM _,?_⟩;conv=>whnf
 repeat(refine⟨(by first|rfl|(simp;done):(_:Nat)=_),?_⟩;conv=>whnf)
 have hn:sr=(sr.toNat:Int):=by omega
 have spec:=F5 (l.set sr.toNat ({l[sr.toNat]with co:=co})) sr.toNat (by simpa using h2) (by simp;omega) (L2 hu Fj hm)
 rw[<-hn]at spec;refine kC (spec) ?_;refine⟨λh=>?_,λh=>?_⟩
 ·refine kW ?_;refine⟨8,?_⟩;conv=>whnf
  rw[Jc hm (by simpa using h)]
  rfl
 ·refine kW ?_;rw[G9 hm (by simpa using h)]
  rfl
set_option maxHeartbeats 4000000 in
theorem ZfX(l:List St)(da sr:Int)(co tw na:Bs)(lo hi sh:Int)(hl:l.length<=60)(Fj:∀s∈l,BX s 60)(hu:AY ⟨da,6,sr,co,tw,na,lo,hi,sh⟩=true):
  AO Tryz.prog 119 [KD l,qJ da 6 sr co tw na lo hi sh] (λx=>x=dX (Gq l ⟨da,6,sr,co,tw,na,lo,hi,sh⟩)):=by
 refine kB Tryz.func119 rfl ?_;refine⟨⟨rfl,by simp;omega⟩,?_⟩
 refine kW ?_;refine⟨λh=>absurd h (by decide +kernel),λ_=>?_⟩
 refine kW ?_;refine⟨λh1=>?_,λh1=>?_⟩;rotate_left
 ·have h1:sr<0:=by simpa using h1
  refine kW ?_;refine⟨8,?_⟩;conv=>whnf
  rw[B6 (CD (by simp) (LU h1))]
  rfl
 have h1:0<=sr:=by simp at h1;omega
 refine kW ?_;refine⟨λh2=>?_,λh2=>?_⟩;rotate_left
 ·have h2:(l.length:Int)<=sr:=by simpa using h2
  refine kW ?_;refine⟨8,?_⟩;conv=>whnf
  rw[B6 (CD (by simp) (OF h2))]
  rfl
 have h2:sr.toNat<l.length:=by simp at h2;omega
 refine kW ?_;refine⟨by simp;omega,?_⟩
 refine kW ?_;refine⟨_,EJ l _ h2,?_⟩;refine kW ?_;refine⟨λh3=>?_,λh3=>?_⟩
 ·have h3:l[sr.toNat].op=false:=by simpa using h3
  refine kW ?_;refine⟨8,?_⟩;conv=>whnf
  rw[B6 (CD (by simp) (I7 h2 h3))]
  rfl
 have h3:l[sr.toNat].op=true:=by simpa using h3
 refine kW ?_;refine⟨by simp;omega,?_⟩
 refine kW ?_;refine⟨_,EJ l _ h2,?_⟩;refine kW ?_;have hm:KE l ⟨da,6,sr,co,tw,na,lo,hi,sh⟩=.ok (l.set sr.toNat {l[sr.toNat]with op:=false},sr.toNat):=OL (by simp) h1 h2 h3 (by unfold BC;simp)
 repeat' (first|(refine⟨λ_=>?_,λh=>absurd h (by decide +kernel)⟩;conv=>whnf)|(refine⟨λh=>absurd h (by decide +kernel),λ_=>?_⟩;conv=>whnf)|(refine Ax (λ_=>?_) (λ_=>?_)<;>conv=>whnf)|(refine sT rfl ?_;conv=>whnf))
 refine⟨by simp;omega,?_⟩
 refine kW ?_;refine⟨_,EJ l _ h2,?_⟩;refine kW ?_;refine Aj.DW 1 rfl (Pd l _ _ ({l[sr.toNat]with op:=false}) (rfl)) ?_
 refine Aj.freeze 1 ?_ (by kernel_rfl)
 conv=>whnf
 refine⟨FM _,?_⟩;conv=>whnf
 repeat(refine⟨(by first|rfl|(simp;done):(_:Nat)=_),?_⟩;conv=>whnf)
 have hn:sr=(sr.toNat:Int):=by omega
 have spec:=F5 (l.set sr.toNat ({l[sr.toNat]with op:=false})) sr.toNat (by simpa using h2) (by simp;omega) (L2 hu Fj hm)
 rw[<-hn]at spec;refine kC (spec) ?_;refine⟨λh=>?_,λh=>?_⟩
 ·refine kW ?_;refine⟨8,?_⟩;conv=>whnf
  rw[Jc hm (by simpa using h)]
  rfl
 ·refine kW ?_;rw[G9 hm (by simpa using h)]
  rfl
open Go.Av Go.Shelf Pl Go.RowKit
theorem PG(l:List Bs)(x:Bs):∀e∈[]++strs l++[AV.str x],closed e=true:=by
 intro e he;simp only[Fl,Cr,Cb]at he;rcases he with he|rfl;·exact Cn l e he
 ·rfl
theorem nE{s:St}{c:Ch}(hk:c.ki=4)(hs:BX s 60)(h:c.sh < -9999\/9999<c.sh\/Fc (Wr .i64 (s.lo+c.sh))=false\/Fc (Wr .i64 (s.hi+c.sh))=false):BC s c=.error 1:=by
 obtain⟨q1,q2⟩:=hs.lo;obtain⟨q3,q4⟩:=hs.hi;unfold BC;rw[if_neg (by omega),if_neg (by omega),if_pos hk,if_neg]
 intro hh;simp only[Bh]at hh;obtain⟨g1,g2⟩:=hh;have r1:=GC g1;have r2:=GC g2;rw[Pr (s.lo+c.sh) (by omega) (by omega),Pr (s.hi+c.sh) (by omega) (by omega),g1,g2]at h
 rcases h with h|h|h|h;·omega
 ·omega
 ·cases h
 ·cases h
theorem sL{s:St}{c:Ch}(hk:c.ki=4)(hs:BX s 60)(h1:¬c.sh < -9999)(h2:¬9999<c.sh)(h3:Fc (Wr .i64 (s.lo+c.sh))=true)(h4:Fc (Wr .i64 (s.hi+c.sh))=true):
  BC s c=.ok {s with lo:=Wr .i64 (s.lo+c.sh),hi:=Wr .i64 (s.hi+c.sh),sh:=Wr .i64 (s.sh+c.sh)}:=by
 obtain⟨q1,q2⟩:=hs.lo;obtain⟨q3,q4⟩:=hs.hi;obtain⟨q5,q6⟩:=hs.sh;have e1:Wr .i64 (s.lo+c.sh)=s.lo+c.sh:=Em (by omega)
 have e2:Wr .i64 (s.hi+c.sh)=s.hi+c.sh:=Em (by omega)
 have e3:Wr .i64 (s.sh+c.sh)=s.sh+c.sh:=Em (by omega)
 rw[e1]at h3 ⊢;rw[e2]at h4 ⊢;rw[e3];unfold BC;rw[if_neg (by omega),if_neg (by omega),if_pos hk,if_pos (by rw[h3,h4];rfl)]
set_option maxHeartbeats 4000000 in
theorem ZfZ(l:List St)(da sr:Int)(co tw na:Bs)(lo hi sh:Int)(hl:l.length<=60)(Fj:∀s∈l,BX s 60)(hu:AY ⟨da,4,sr,co,tw,na,lo,hi,sh⟩=true):
  AO Tryz.prog 119 [KD l,qJ da 4 sr co tw na lo hi sh] (λx=>x=dX (Gq l ⟨da,4,sr,co,tw,na,lo,hi,sh⟩)):=by
 refine kB Tryz.func119 rfl ?_;refine⟨⟨rfl,by simp;omega⟩,?_⟩
 refine kW ?_;refine⟨λh=>absurd h (by decide +kernel),λ_=>?_⟩
 refine kW ?_;refine⟨λh1=>?_,λh1=>?_⟩;rotate_left
 ·have h1:sr<0:=by simpa using h1
  refine kW ?_;refine⟨8,?_⟩;conv=>whnf
  rw[B6 (CD (by simp) (LU h1))]
  rfl
 have h1:0<=sr:=by simp at h1;omega
 refine kW ?_;refine⟨λh2=>?_,λh2=>?_⟩;rotate_left
 ·have h2:(l.length:Int)<=sr:=by simpa using h2
  refine kW ?_;refine⟨8,?_⟩;conv=>whnf
  rw[B6 (CD (by simp) (OF h2))]
  rfl
 have h2:sr.toNat<l.length:=by simp at h2;omega
 refine kW ?_;refine⟨by simp;omega,?_⟩
 refine kW ?_;refine⟨_,EJ l _ h2,?_⟩;refine kW ?_;refine⟨λh3=>?_,λh3=>?_⟩
 ·have h3:l[sr.toNat].op=false:=by simpa using h3
  refine kW ?_;refine⟨8,?_⟩;conv=>whnf
  rw[B6 (CD (by simp) (I7 h2 h3))]
  rfl
 have h3:l[sr.toNat].op=true:=by simpa using h3
 refine kW ?_;refine⟨by simp;omega,?_⟩
 refine kW ?_;refine⟨_,EJ l _ h2,?_⟩;refine kW ?_;have Af:=Fj _ (Bl h2);have bad:(sh < -9999\/9999<sh\/Fc (Wr .i64 (l[sr.toNat].lo+sh))=false\/Fc (Wr .i64 (l[sr.toNat].hi+sh))=false)->Gq l ⟨da,4,sr,co,tw,na,lo,hi,sh⟩=.error 1:=λh=>B6 (kS (by simp) h1 h2 h3 (nE (c:=⟨da,4,sr,co,tw,na,lo,hi,sh⟩) rfl Af h))
 repeat' (first|(refine⟨λ_=>?_,λh=>absurd h (by decide +kernel)⟩;conv=>whnf)|(refine⟨λh=>absurd h (by decide +kernel),λ_=>?_⟩;conv=>whnf)|(refine Ax (λ_=>?_) (λ_=>?_)<;>conv=>whnf)|(refine cS (BB (Wr .i64 (l[sr.toNat].lo+sh))) rfl ?_;conv=>whnf)|(refine cS (BB (Wr .i64 (l[sr.toNat].hi+sh))) rfl ?_;conv=>whnf)|(refine sT rfl ?_;conv=>whnf))
 all_goals first
  |(refine⟨8,?_⟩
    conv=>whnf
    rw[bad (by simp_all)]
    rfl)
  |skip
 rename_i k1 k2 k3 k4
 have hm:KE l ⟨da,4,sr,co,tw,na,lo,hi,sh⟩=.ok (l.set sr.toNat {l[sr.toNat]with lo:=Wr .i64 (l[sr.toNat].lo+sh),hi:=Wr .i64 (l[sr.toNat].hi+sh),sh:=Wr .i64 (l[sr.toNat].sh+sh)},sr.toNat):=
  OL (by simp) h1 h2 h3 (sL (c:=⟨da,4,sr,co,tw,na,lo,hi,sh⟩) rfl Af (by simpa using k1) (by simpa using k2) (by simpa using k3) (by simpa using k4))
 refine⟨by simp;omega,?_⟩
 refine kW ?_;refine⟨_,EJ l _ h2,?_⟩;refine kW ?_;refine Aj.DW 1 rfl (Pd l _ _ {l[sr.toNat]with lo:=Wr .i64 (l[sr.toNat].lo+sh),hi:=Wr .i64 (l[sr.toNat].hi+sh),sh:=Wr .i64 (l[sr.toNat].sh+sh)} rfl) ?_
 refine Aj.freeze 1 ?_ (by kernel_rfl)
 conv=>whnf
 refine⟨FM _,?_⟩;conv=>whnf
 repeat(refine⟨(by first|rfl|(simp;done):(_:Nat)=_),?_⟩;conv=>whnf)
 have hn:sr=(sr.toNat:Int):=by omega
 have spec:=F5 (l.set sr.toNat {l[sr.toNat]with lo:=Wr .i64 (l[sr.toNat].lo+sh),hi:=Wr .i64 (l[sr.toNat].hi+sh),sh:=Wr .i64 (l[sr.toNat].sh+sh)}) sr.toNat (by simpa using h2) (by simp;omega) (L2 hu Fj hm)
 rw[<-hn]at spec;refine kC (spec) ?_;refine⟨λh=>?_,λh=>?_⟩
 ·refine kW ?_;refine⟨8,?_⟩;conv=>whnf
  rw[Jc hm (by simpa using h)]
  rfl
 ·refine kW ?_;rw[G9 hm (by simpa using h)]
  rfl
set_option maxHeartbeats 4000000 in
theorem ZfY(l:List St)(da sr:Int)(co tw na:Bs)(lo hi sh:Int)(hl:l.length<=60)(Fj:∀s∈l,BX s 60)(hu:AY ⟨da,5,sr,co,tw,na,lo,hi,sh⟩=true):
  AO Tryz.prog 119 [KD l,qJ da 5 sr co tw na lo hi sh] (λx=>x=dX (Gq l ⟨da,5,sr,co,tw,na,lo,hi,sh⟩)):=by
 refine kB Tryz.func119 rfl ?_;refine⟨⟨rfl,by simp;omega⟩,?_⟩
 refine kW ?_;refine⟨λh=>absurd h (by decide +kernel),λ_=>?_⟩
 refine kW ?_;refine⟨λh1=>?_,λh1=>?_⟩;rotate_left
 ·have h1:sr<0:=by simpa using h1
  refine kW ?_;refine⟨8,?_⟩;conv=>whnf
  rw[B6 (CD (by simp) (LU h1))]
  rfl
 have h1:0<=sr:=by simp at h1;omega
 refine kW ?_;refine⟨λh2=>?_,λh2=>?_⟩;rotate_left
 ·have h2:(l.length:Int)<=sr:=by simpa using h2
  refine kW ?_;refine⟨8,?_⟩;conv=>whnf
  rw[B6 (CD (by simp) (OF h2))]
  rfl
 have h2:sr.toNat<l.length:=by simp at h2;omega
 refine kW ?_;refine⟨by simp;omega,?_⟩
 refine kW ?_;refine⟨_,EJ l _ h2,?_⟩;refine kW ?_;refine⟨λh3=>?_,λh3=>?_⟩
 ·have h3:l[sr.toNat].op=false:=by simpa using h3
  refine kW ?_;refine⟨8,?_⟩;conv=>whnf
  rw[B6 (CD (by simp) (I7 h2 h3))]
  rfl
 have h3:l[sr.toNat].op=true:=by simpa using h3
 refine kW ?_;refine⟨by simp;omega,?_⟩
 refine kW ?_;refine⟨_,EJ l _ h2,?_⟩;refine kW ?_;have Af:=Fj _ (Bl h2);repeat' (first|(refine⟨λ_=>?_,λh=>absurd h (by decide +kernel)⟩;conv=>whnf)|(refine⟨λh=>absurd h (by decide +kernel),λ_=>?_⟩;conv=>whnf)|(refine Ax (λ_=>?_) (λ_=>?_)<;>conv=>whnf)|(refine cS (NQ l[sr.toNat] na (by have:=Af.al;omega) (by have:=Af.na;omega) (λx hx=>by have:=Af.rF x hx;omega)) rfl ?_;conv=>whnf)|(refine sT rfl ?_;conv=>whnf))
 ·rename_i h5;refine⟨8,?_⟩;conv=>whnf
  rw[B6 (kS (by simp) h1 h2 h3 (e:=4) (by unfold BC;simp[h5]))]
  rfl
 ·rename_i h5;refine Aa.wS [0,1,2,4,5,6,3,7,8,9] [6] [3,7,9] [4,5,6] Ag mO (by kernel_rfl) ?_
  conv=>whnf
  have Eg:=Af.al;refine⟨rfl,?_⟩;conv=>whnf
  refine⟨⟨rfl,rfl⟩,?_⟩;conv=>whnf
  refine⟨rfl,?_⟩;conv=>whnf
  refine⟨⟨rfl,rfl⟩,?_⟩;conv=>whnf
  refine⟨rfl,?_⟩;conv=>whnf
  refine⟨⟨rfl,rfl⟩,?_⟩;conv=>whnf
  refine⟨⟨rfl,by simp;omega⟩,?_⟩
  conv=>whnf
  refine⟨⟨rfl,by simp;omega⟩,?_⟩
  conv=>whnf
  refine Aa.freeze 3 ?_;conv=>whnf
  refine⟨PG _ _,?_⟩;conv=>whnf
  repeat(refine⟨(by first|rfl|(simp;done):(_:Nat)=_),?_⟩;conv=>whnf)
  refine kR ?_;have hm:KE l ⟨da,5,sr,co,tw,na,lo,hi,sh⟩=.ok (l.set sr.toNat {l[sr.toNat]with al:=l[sr.toNat].al++[na]},sr.toNat):=OL (by simp) h1 h2 h3 (by unfold BC;simp[h5])
  refine⟨by simp;omega,?_⟩
  refine kW ?_;refine⟨_,EJ l _ h2,?_⟩;refine kW ?_;refine Aj.DW 1 rfl (Pd l _ _ {l[sr.toNat]with al:=l[sr.toNat].al++[na]} (by simp[St.v,DW,MN,strs])) ?_
  refine Aj.freeze 1 ?_ (by kernel_rfl)
  conv=>whnf
  refine⟨FM _,?_⟩;conv=>whnf
  repeat(refine⟨(by first|rfl|(simp;done):(_:Nat)=_),?_⟩;conv=>whnf)
  have hn:sr=(sr.toNat:Int):=by omega
  have spec:=F5 (l.set sr.toNat {l[sr.toNat]with al:=l[sr.toNat].al++[na]}) sr.toNat (by simpa using h2) (by simp;omega) (L2 hu Fj hm)
  rw[<-hn]at spec;refine kC (spec) ?_;refine⟨λh=>?_,λh=>?_⟩
  ·refine kW ?_;refine⟨8,?_⟩;conv=>whnf
   rw[Jc hm (by simpa using h)]
   rfl
  ·refine kW ?_;rw[G9 hm (by simpa using h)]
   rfl
theorem W3(l:List St)(c:Ch)(hl:l.length<=60)(Fj:∀s∈l,BX s 60)(hu:AY c=true):AO Tryz.prog 119 [KD l,c.v] (λx=>x=dX (Gq l c)):=by
 obtain⟨da,ki,sr,co,tw,na,lo,hi,sh⟩:=c;rcases NA hu with h|h|h|h|h|h<;>(simp only at h;subst h)
 ·exact Zf2 l da sr co tw na lo hi sh hl Fj hu
 ·exact Zf1 l da sr co tw na lo hi sh hl Fj hu
 ·exact Zf0 l da sr co tw na lo hi sh hl Fj hu
 ·exact ZfZ l da sr co tw na lo hi sh hl Fj hu
 ·exact ZfY l da sr co tw na lo hi sh hl Fj hu
 ·exact ZfX l da sr co tw na lo hi sh hl Fj hu
theorem V0{p:Option Int}{i:Nat}{l:List St}{c:Ch}(h:¬60<=i)(hd:Jn p c.da=false)(hu:(E3 c.da&&AY c)=true):EN p i l c=Gq l c:=by
 rw[step_mk h hd hu];rfl
theorem sJ{r:List Ch}(h:Ca r=true){c:Ch}(hc:c∈r):c.na.length<=1000/\c.co.length<=1000/\c.to.length<=1000:=by
 unfold Ca at h;simp only[Bh,decide_eq_true_eq]at h;have:=H0.1 h.2 c hc;unfold Hi at this;simp only[Bh,decide_eq_true_eq]at this;omega
structure Zhs(r:List Ch)(i:Nat)(l:List St):Prop where
 le:i<=r.length
 cnt:l.length<=i
 m:i<=60
 ok:∀s∈l,BX s i
 run:Dq r=IZ (r.drop i) i (DU r i) l
theorem ZY{r:List Ch}{i:Nat}{l l':List St}(h:i<r.length)(hl:l.length<=i)(Fj:∀s∈l,BX s i)(A0:Dq r=IZ (r.drop i) i (DU r i) l)(hs:EN (DU r i) i l r[i]=.ok l'):Zhs r (i+1) l':=by
 obtain⟨h1,_,_,h4,n,h5,_⟩:=HZ hs;obtain⟨k1,k2⟩:=uI h4 Fj h5;refine⟨by omega,by omega,by omega,k1,?_⟩
 rw[A0,sS h hs];unfold DU;rw[if_neg (by omega),Fy,Ak h]
 rfl
theorem sR(r:List Ch)(hs:Ca r=true):AO Tryz.prog 74 [D5 r,.lit true,.int .i64 0] (λx=>x=zX (Dq r)):=by
 refine kB Tryz.func74 rfl ?_;refine Aa.ZfS 9 8 rfl ?_;conv=>whnf
 refine Aa.Aw (λx:Nat×List St=>mk 73 [(0,D5 r),(1,.lit true),(2,.int .i64 0),(6,.raw (.slice none 0 0)),(7,.int .i64 0),(8,.int .i64 0),(9,KD x.2),(10,.int .i64 x.1)]) (λ_=>[]) (λx=>Zhs r x.1 x.2) (λx=>r.length-x.1) (λ_ _=>⟨rfl,trivial⟩) ⟨(0,[]),?_⟩ (λ_=>rfl) λx hx=>?_
 ·refine kQ ?_;exact⟨G2 _,C3 _,by omega,λs hs=>(by cases hs),rfl⟩
 ·obtain⟨i,l⟩:=x;simp only at hx;obtain⟨hi,hl,h60,Fj,A0⟩:=hx;have A7:=D4 i (by omega)
  refine kR ?_;refine⟨λh=>?_,λh=>?_⟩
  ·have h:i<r.length:=by simpa using h
   have gi:(List.map Ch.v r)[((i:Int)).toNat]?=some (r[i]).v:=by simp[h]
   have hup:DU r (i+1)=some r[i].da:=by unfold DU;rw[if_neg (by omega),Fy,Ak h];rfl
   have bad:∀e,EN (DU r i) i l r[i]=.error e->Dq r=([],e,(i:Int)):=λe he=>by rw[A0,jX h he]
   refine kW ?_;refine⟨λk1=>?_,λk1=>?_⟩
   ·have k1:60<=i:=by simp at k1;omega
    refine kW ?_;refine⟨8,?_⟩;conv=>whnf
    rw[bad _ (S7 k1)];rfl
   have k1:¬60<=i:=by simp at k1;omega
   refine kW ?_;refine Aa.draw [] Ag mO (by kernel_rfl) ?_
   conv=>whnf
   have qX:=sJ hs (Bl h)
   have gp:0<i->(List.map Ch.v r)[(Wr .i64 ((i:Int)-1)).toNat]?=some (r[i-1]).v:=λk=>by
    rw[Em (by omega),show((i:Int)-1).toNat=i-1 by omega]
    simp[show i-1<r.length by omega]
   have Zcg:0<i->Jn (DU r i) r[i].da=decide (r[i].da<r[i-1].da):=λk=>by
    unfold DU;rw[if_neg (by omega),Ak (by omega)]
    rfl
   refine⟨λk2=>?_,λk2=>?_⟩
   ·have k2:0<i:=by simpa using k2
    conv=>whnf
    refine⟨by omega,(r[i]).v,gi,?_⟩
    conv=>whnf
    have E5:Wr .i64 ((i:Int)-1)=((i:Int)-1):=Em (by omega)
    refine⟨by simp only[E5];omega,(r[i-1]).v,gp k2,?_⟩
    refine kW ?_;refine⟨λk3=>?_,λk3=>?_⟩
    ·have hd:Jn (DU r i) r[i].da=true:=by rw[Zcg k2,k3]
     refine kW ?_;refine⟨8,?_⟩;conv=>whnf
     rw[bad _ (V1 k1 hd)];rfl
    ·have hd:Jn (DU r i) r[i].da=false:=by rw[Zcg k2,k3]
     refine kW ?_;refine⟨by omega,(r[i]).v,gi,?_⟩
     refine kW ?_;refine kC (Il r[i] qX.1 qX.2.1 qX.2.2) ?_;refine⟨λk4=>?_,λk4=>?_⟩
     ·have k4:(E3 r[i].da&&AY r[i])=false:=by rw[CL]at k4;exact k4
      refine kW ?_;refine⟨8,?_⟩;conv=>whnf
      rw[bad _ (N6 k1 hd k4)];rfl
     ·have k4:(E3 r[i].da&&AY r[i])=true:=by simpa using k4
      have k5:AY r[i]=true:=by rw[Bh]at k4;exact k4.2
      refine kW ?_;refine⟨by omega,(r[i]).v,gi,?_⟩
      refine kW ?_;refine Aj.Dk (W3 l r[i] (by omega) (λs hs=>(Fj s hs).mono h60) k5) rfl λx hx=>?_
      have Li:=V0 k1 hd k4 (l:=l);cases hm:Gq l r[i]with
      |error e=>
       rw[hm]at hx Li;subst hx;have he:e≠0:=Sp Li;refine kW ?_;refine⟨λ_=>?_,λh=>absurd h (by simp[he])⟩
       refine kW ?_;refine⟨8,?_⟩;conv=>whnf
       rw[bad _ Li];rfl
      |ok l'=>
       rw[hm]at hx Li;subst hx;refine kW ?_;refine⟨λh=>absurd h (by decide),λ_=>?_⟩
       refine kW ?_;refine⟨(i+1,l'),?_⟩;refine CV A7 ?_;exact⟨ZY h hl Fj A0 Li,by omega⟩
   ·have k2:i=0:=by simp at k2;omega
    have hd:Jn (DU r i) r[i].da=false:=by subst k2;rfl
    refine kW ?_;refine⟨by omega,(r[i]).v,gi,?_⟩
    refine kW ?_;refine kC (Il r[i] qX.1 qX.2.1 qX.2.2) ?_;refine⟨λk4=>?_,λk4=>?_⟩
    ·have k4:(E3 r[i].da&&AY r[i])=false:=by rw[CL]at k4;exact k4
     refine kW ?_;refine⟨8,?_⟩;conv=>whnf
     rw[bad _ (N6 k1 hd k4)];rfl
    ·have k4:(E3 r[i].da&&AY r[i])=true:=by simpa using k4
     have k5:AY r[i]=true:=by rw[Bh]at k4;exact k4.2
     refine kW ?_;refine⟨by omega,(r[i]).v,gi,?_⟩
     refine kW ?_;refine Aj.Dk (W3 l r[i] (by omega) (λs hs=>(Fj s hs).mono h60) k5) rfl λx hx=>?_
     have Li:=V0 k1 hd k4 (l:=l);cases hm:Gq l r[i]with
     |error e=>
      rw[hm]at hx Li;subst hx;have he:e≠0:=Sp Li;refine kW ?_;refine⟨λ_=>?_,λh=>absurd h (by simp[he])⟩
      refine kW ?_;refine⟨8,?_⟩;conv=>whnf
      rw[bad _ Li];rfl
     |ok l'=>
      rw[hm]at hx Li;subst hx;refine kW ?_;refine⟨λh=>absurd h (by decide),λ_=>?_⟩
      refine kW ?_;refine⟨(i+1,l'),?_⟩;refine CV A7 ?_;exact⟨ZY h hl Fj A0 Li,by omega⟩
  ·have h:i=r.length:=by simp at h;omega
   refine kW ?_;rw[A0,h,Eu];rfl
theorem Zn(r:List Ch)(hs:Ca r=true):AO Tryz.prog 39 [D5 r] (λx=>x=.tuple [.int .i64 (Dq r).2.1,.int .i64 (Dq r).2.2]):=by
 refine kB Tryz.func39 rfl ?_;exact kCe (sR r hs)
theorem J5(r:List Ch):AO Tryz.prog 20 [D5 r] (λx=>x=.bool (Ca r&&Ar r)):=by
 refine kB Tryz.func20 rfl ?_;refine kC (U1 r) ?_;refine⟨λh=>?_,λh=>?_⟩
 ·refine kW ?_;rw[CL]at h;rw[h];rfl
 ·rw[Hx]at h;refine kW ?_;refine kC (Zn r h) ?_;rw[h];rfl
end Go.Proofs.YtdadkhcdoaeabaaGreatDoor.Rr