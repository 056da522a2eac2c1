/- Bytes. -/
import Derived.Test.YtdadkhcdoaeabaaGreatDoorQx
import Derived.Test.YtdadkhcdoaeabaaGreatDoorQe
import Derived.Test.YtdadkhcdoaeabaaGreatDoorKg2
import Derived.Test.YtdadkhcdoaeabaaGreatDoorQs
import Derived.Shelf.Strings.SlTrimAscii
set_option linter.unusedVariables false
set_option maxRecDepth 100000
set_option linter.unusedSectionVars false
set_option linter.unusedSimpArgs false
open List renaming take_succ_eq_append_getElem → Af, getElem_mem → Ak, take_length → Bh, all_eq_true → Bl, all_append → Bv, all_eq_false → BI, drop_eq_getElem_cons → BM, mem_map → BY, all_cons → Cb, replicate → Cg, map_append → Cr, length_append → CL, append_nil → C1, length_map → C2, mem_flatten → C3, flatten_cons → C4, drop_length → Ds, mem_singleton → DE, foldl_cons → D0, map_cons → Ef, append_assoc → EI, mem_of_getElem? → E0, mem_append_right → E8, length_cons → Fi, length_take → Fk, mem_append_left → Fy, mem_cons → FB, flatten_append → FX, length_nil → FY, nil_append → FZ, getElem?_append_right → F0, filter_append → Gs, getElem?_eq_some_iff → Gt, foldl_nil → GK, getElem?_eq_getElem → GW, eq_of_mem_replicate → GZ, range → G1, getD → Hx, map_nil → Hz, mem_filter → HB, take_append_drop → HM, mem_append → HQ, set_append_right → HR, count_le_length → H2, mem_of_mem_take → Is, replicate_succ → II, length_pos_iff → I0, flatMap_append → Jg, sum_cons → Jh, flatMap_assoc → Ji, nodup_append → JV, getElem_map → Ki, flatten_nil → Kn, mem_flatMap → Kr, flatMap_nil → Kw, range_succ → KA, take_zero → K0, drop_zero → K2
open Bool renaming and_eq_true → Ax, eq_iff_iff → Bm, or_eq_true → DG, not_eq_true' → El, true_and → E2, and_false → E4, and_true → Hs, and_assoc → KT, not_true → Li, false_or → Lk
open And renaming intro → A0
open Nat renaming zero_le → BW, zero_add → CM, le_trans → E1, mul_zero → HU, mul_le_mul_right → H4, le_refl → Ix, le_add_right → Kj, strongRecOn → KF
open Int renaming toNat_natCast → C0
open Option renaming some → G2
open Go.IntKind renaming signed → It, bits → Kf, min → Kx, max → Ky, i64 → Kz
namespace Go.Proofs.YtdadkhcdoaeabaaGreatDoor.Ff
open Go.Av Pl
theorem Fh(b:UInt8):AO Tryz.prog 120 [.int .u8 b.toNat] (λr=>r=.bool (BJ b)):=by
 refine AO.A3 Tryz.func120 rfl Ag (by kernel_rfl) ?_
 conv=>whnf
 refine BR Ag _ ?_;conv=>whnf
 repeat' (refine A0 (λ_=>?_) (λ_=>?_)<;>conv=>whnf)
 all_goals (refine congrArg AV.bool ?_;rw[Bm];simp_all[BJ]<;>omega)
theorem Dn(b:UInt8):AO Tryz.prog 121 [.int .u8 b.toNat] (λr=>r=.bool (Dg b)):=by
 refine AO.A3 Tryz.func121 rfl Ag (by kernel_rfl) ?_
 conv=>whnf
 refine BR Ag _ ?_;conv=>whnf
 repeat' (refine A0 (λ_=>?_) (λ_=>?_)<;>conv=>whnf)
 all_goals (refine congrArg AV.bool ?_;rw[Bm];simp_all[Dg]<;>omega)
theorem MO(b:UInt8):AO Tryz.prog 123 [.int .u8 b.toNat] (λr=>r=.bool (DF b)):=by
 refine kB Tryz.func123 rfl ?_;repeat' (first|(refine A0 (λ_=>?_) (λ_=>?_)<;>conv=>whnf)|(refine kC (Fh b) ?_)|refine Dd ?_|fail)
 all_goals (refine congrArg AV.bool ?_;rw[Bm];simp_all[DF,F6]<;>omega)
abbrev IN(w:Bs):List AV:=w.map λb=>AV.int .u8 b.toNat
theorem EY(w:Bs)(k:Nat)(h:k<w.length):(IN w)[k]?=some (.int .u8 w[k].toNat):=by simp[h]
theorem Ez(p:UInt8->Bool)(w:Bs)(k:Nat)(h:k<w.length):(w.take (k+1)).all p=((w.take k).all p&&p w[k]):=by
 rw[Af h,Bv];simp
theorem all_false(p:UInt8->Bool)(w:Bs)(k:Nat)(h:k<w.length)(hp:p w[k]=false):w.all p=false:=BI.2 ⟨w[k],Ak h,by simp[hp]⟩
theorem NB(w:Bs)(hw:w.length<=9223372036854775807):AO Tryz.prog 83 [.str w] (λr=>r=.bool (DL w)):=by
 refine kB Tryz.func83 rfl ?_;repeat' (first|(refine A0 (λ_=>?_) (λ_=>?_)<;>conv=>whnf)|refine Dd ?_|fail)
 ·exact congrArg AV.bool (by rename_i h1 h2;simp at h2;unfold DL;rw[decide_eq_false (show ¬w.length<=20 by omega)];simp)
 ·rename_i h1 h2;have h1:1<=w.length:=by simp at h1;omega
  have h2:w.length<=20:=by simp at h2;omega
  have hf:DL w=w.all IK:=by unfold DL;simp[h1,h2]
  refine Aa.Aw (λk:Nat=>mk 41 [(0,.str w),(2,.lit false),(14,.sl 1 (IN w)),(15,.int .i64 w.length),(16,.int .i64 k)]) (λ_=>[]) (λk=>k<=w.length/\(w.take k).all IK=true) (λk=>w.length-k) (λ_ _=>⟨rfl,trivial⟩) ⟨0,?_⟩ (λ_=>rfl) λk hk=>?_
  ·refine kQ ?_;simp
  ·obtain⟨hk,ha⟩:=hk;refine kR ?_;refine⟨λh=>?_,λh=>?_⟩
   ·have h:k<w.length:=by simpa using h
    have A7:=D4 k (by omega)
    have Yx:IK w[k]=(DF w[k]||Dg w[k]||decide (w[k].toNat=45)||decide (w[k].toNat=39)||decide (w[k].toNat=46)):=rfl
    have ht:=Ez IK w k h;have Ll:=all_false IK w k h;refine kW ?_;refine⟨by omega,_,EY w k h,?_⟩
    refine kW ?_;repeat' (first|(refine A0 (λ_=>?_) (λ_=>?_)<;>conv=>whnf)|(refine kC (MO w[k]) ?_)|(refine kC (Dn w[k]) ?_)|refine Dd ?_|fail)
    all_goals first
     |(refine congrArg AV.bool ?_
       have hn:IK w[k]=false:=by rw[Yx];simp_all<;>omega
       rw[hf,Ll hn])
     |(have hy:IK w[k]=true:=by rw[Yx];simp_all<;>omega
       refine⟨k+1,?_⟩
       refine CV A7 ?_
       exact⟨⟨by omega,by rw[ht,ha,hy];rfl⟩,by omega⟩)
   ·have h:k=w.length:=by simp at h;omega
    rw[h,Bh]at ha;refine kW ?_;exact congrArg AV.bool (by rw[hf,ha])
 ·exact congrArg AV.bool (by rename_i h1;simp at h1;unfold DL;rw[decide_eq_false (show ¬1<=w.length by omega)];simp)
theorem L0:∀{w p:Bs},w.length≠p.length->Ce w p=false
 |[],[],h=>absurd rfl h
 |[],_::_,_|_::_,[],_=>rfl
 |c::w,d::p,h=>by
  unfold Ce;rw[L0 (w:=w) (p:=p) (by simpa using h)]
  simp
theorem Ig(w:Bs)(hw:w.length<=9223372036854775807):AO Tryz.prog 76 [.str w] (λr=>r=.bool (H9 w)):=by
 refine kB Tryz.func76 rfl ?_;repeat' (first|(refine A0 (λ_=>?_) (λ_=>?_)<;>conv=>whnf)|refine Dd ?_|fail)
 ·rename_i h1 h2;have h1:1<=w.length:=by simp at h1;omega
  have h2:w.length<=16:=by simp at h2;omega
  have hg0:w.getD (Int.toNat 0) 0=w[0]:=by simp[Hx,show 0<w.length by omega]
  have hf:H9 w=(BJ w[0]&&w.all B5):=by
   cases w with
   |nil=>simp at h1
   |cons c r=>simp only[H9,decide_eq_true h1,decide_eq_true h2,E2];rfl
  refine⟨⟨by omega,by omega⟩,?_⟩
  rw[hg0];refine kW ?_;repeat' (first|(refine A0 (λ_=>?_) (λ_=>?_)<;>conv=>whnf)|(refine kC (Fh w[0]) ?_)|refine Dd ?_|fail)
  ·rename_i h3;have h3:BJ w[0]=false:=by simpa using h3
   exact congrArg AV.bool (by rw[hf,h3];rfl)
  ·rename_i h3;have h3:BJ w[0]=true:=by simpa using h3
   rw[h3,E2]at hf;refine Aa.Aw (λk:Nat=>mk 39 [(0,.str w),(2,.lit false),(20,.sl 1 (IN w)),(21,.int .i64 w.length),(22,.int .i64 k)]) (λ_=>[]) (λk=>k<=w.length/\(w.take k).all B5=true) (λk=>w.length-k) (λ_ _=>⟨rfl,trivial⟩) ⟨0,?_⟩ (λ_=>rfl) λk hk=>?_
   ·refine kQ ?_;simp
   ·obtain⟨hk,ha⟩:=hk;refine kR ?_;refine⟨λh=>?_,λh=>?_⟩
    ·have h:k<w.length:=by simpa using h
     have A7:=D4 k (by omega)
     have Yx:B5 w[k]=(BJ w[k]||Dg w[k]||decide (w[k].toNat=95)):=rfl
     have ht:=Ez B5 w k h;have Ll:=all_false B5 w k h;refine kW ?_;refine⟨by omega,_,EY w k h,?_⟩
     refine kW ?_;repeat' (first|(refine A0 (λ_=>?_) (λ_=>?_)<;>conv=>whnf)|(refine kC (Fh w[k]) ?_)|(refine kC (Dn w[k]) ?_)|refine Dd ?_|fail)
     all_goals first
      |(refine congrArg AV.bool ?_
        have hn:B5 w[k]=false:=by rw[Yx];simp_all<;>omega
        rw[hf,Ll hn])
      |(have hy:B5 w[k]=true:=by rw[Yx];simp_all<;>omega
        refine⟨k+1,?_⟩
        refine CV A7 ?_
        exact⟨⟨by omega,by rw[ht,ha,hy];rfl⟩,by omega⟩)
    ·have h:k=w.length:=by simp at h;omega
     rw[h,Bh]at ha;refine kW ?_;exact congrArg AV.bool (by rw[hf,ha])
 ·exact congrArg AV.bool (by rename_i h1 h2;simp at h2;unfold H9;rw[decide_eq_false (show ¬w.length<=16 by omega)];simp)
 ·exact congrArg AV.bool (by rename_i h1;simp at h1;unfold H9;rw[decide_eq_false (show ¬1<=w.length by omega)];simp)
theorem OM(w p:Bs)(hw:w.length<=9223372036854775807):AO Tryz.prog 90 [.str w,.str p] (λr=>r=.bool (Ce w p)):=by
 refine kB Tryz.func90 rfl ?_;repeat' (first|(refine A0 (λ_=>?_) (λ_=>?_)<;>conv=>whnf)|refine Dd ?_|fail)
 ·rename_i h1;have h1:w.length≠p.length:=by simp at h1;omega
  exact congrArg AV.bool (L0 h1).symm
 ·rename_i h1;have h1:w.length=p.length:=by simp at h1;omega
  refine Aa.Aw (λk:Nat=>mk 41 [(0,.str w),(1,.str p),(4,.lit false),(13,.sl 1 (IN w)),(14,.int .i64 w.length),(15,.int .i64 k)]) (λ_=>[]) (λk=>k<=w.length/\Ce w p=Ce (w.drop k) (p.drop k)) (λk=>w.length-k) (λ_ _=>⟨rfl,trivial⟩) ⟨0,?_⟩ (λ_=>rfl) λk hk=>?_
  ·refine kQ ?_;simp
  ·obtain⟨hk,ha⟩:=hk;refine kR ?_;refine⟨λh=>?_,λh=>?_⟩
   ·have h:k<w.length:=by simpa using h
    have A7:=D4 k (by omega)
    have hgp:p.getD (k:Int).toNat 0=p[k]:=by simp[Hx,show k<p.length by omega]
    have hm:Ce w p=((!decide (p[k].toNat=57)||Dg w[k])&&(!decide (p[k].toNat=65)||DF w[k])&&Ce (w.drop (k+1)) (p.drop (k+1))):=by
     rw[ha,BM h,BM (by omega:k<p.length)];rfl
    refine kW ?_;refine⟨by omega,_,EY w k h,?_⟩
    refine kW ?_;repeat' (first|(refine A0 (λ_=>?_) (λ_=>?_)<;>conv=>whnf)|(refine A0 ⟨by omega,by omega⟩ ?_;(conv=>whnf);first|rw[hgp])|(refine cS (MO w[k]) rfl ?_;conv=>whnf)|(refine cS (Dn w[k]) rfl ?_;conv=>whnf)|(refine sT rfl ?_;conv=>whnf))
    all_goals first
     |(refine congrArg AV.bool ?_
       have hn:((!decide (p[k].toNat=57)||Dg w[k])&&(!decide (p[k].toNat=65)||DF w[k]))=false:=by clear hm ha;simp_all<;>omega
       rw[hm,hn];rfl)
     |(have hy:((!decide (p[k].toNat=57)||Dg w[k])&&(!decide (p[k].toNat=65)||DF w[k]))=true:=by clear hm ha;simp_all<;>omega
       refine⟨k+1,?_⟩
       refine CV A7 ?_
       exact⟨⟨by omega,by rw[hm,hy];rfl⟩,by omega⟩)
     |trace_state
   ·have h:k=w.length:=by simp at h;omega
    rw[h,Ds,h1,Ds]at ha;refine kW ?_;exact congrArg AV.bool ha.symm
open Go.Av Pl Go.RowKit Go.Sort
theorem jA(w:World)(k:Nat)(os:Array Obj):Below w.heap.size w (grow (w.drewN k) os):=
 ⟨rfl,rfl,rfl,by simp[grow,World.drewN],λb hb=>by simp only[grow,World.drewN];rw[Array.getElem?_append_left hb]⟩
theorem Zaa{C:Ae}{w:World}(h:cM C w):Lib.TabIs Tryz.prog w "internal/strconv.uint64pow10" .u64 Lib.pow10Tab:=by
 have hx:(6,Lib.pow10Tab.map (AV.int .u64))∈O6:=E0 (i:=2) (by kernel_rfl)
 obtain⟨cur,e,fz,h1,h2⟩:=h.gs _ hx (by intro h;cases h)
 have hc:=h.gl _ hx;unfold Lib.TabIs World.var?;rw[show Tryz.prog.globalNamed "internal/strconv.uint64pow10"=some 6 by kernel_rfl]
 simp only[Option.bind_some]at h1 h2 hc ⊢;rw[h1];simp only[G2.injEq];apply Array.ext;·simpa using h2
 ·intro i h3 h4;have h5:i<(Lib.pow10Tab.map (AV.int .u64)).length:=by omega
  obtain⟨v,_,HC,hr⟩:=(B9 _ _).1 hc i h5;have:=HC.2;rw[CM,cell_of_row w _ i cur e fz h1]at this;simp only[Ki]at hr;unfold Ah at hr;obtain⟨rfl,_⟩:=hr;rw[Array.getElem?_eq_getElem h3]at this;simp only[G2.injEq]at this;rw[this];simp
theorem oQ(n:Int)(h0:-9223372036854775808<=n)(h1:n<=9223372036854775807)(hl:(Lib.itoa n).length<=9223372036854775807):AO Tryz.prog 95 [.int .i64 n] (λr=>r=.str (Lib.itoa n)):=by
 refine⟨by kernel_rfl,λC w vs AP hr=>?_⟩
 unfold Ab at hr;obtain⟨v1,_,rfl,h2,hr⟩:=hr;unfold Ab at hr;subst hr;unfold Ah at h2;obtain⟨rfl,_⟩:=h2;refine(Tryz.strconv_Itoa n h0 h1 w (Zaa AP)).mono λe w' ⟨h3,k,os,h4⟩=>?_
 subst h4;exact⟨_,_,h3,rfl,jA w k os,by unfold Ah;exact⟨rfl,hl⟩⟩
theorem FV(l:List Bs)(hN:l.length<=140737488355328)(hlen:(Lib.join l [32]).length<=140737488355328):AO Tryz.prog 59 [.sl 1 (strs l),.str [32]] (λr=>r=.str (Lib.join l [32])):=
 uV Tryz.ZaB Tryz.Pv rfl (by kernel_rfl) l [32] hN hlen
theorem N2(s:Bs)(hs:s.length<=1000)(ha:∀c∈s,c.toNat<128):AO Tryz.prog 89 [.str s] (λr=>r=.str (qU s)):=by
 refine⟨by kernel_rfl,λC w vs AP hr=>?_⟩
 unfold Ab at hr;obtain⟨v1,_,rfl,h2,hr⟩:=hr;unfold Ab at hr;subst hr;unfold Ah at h2;obtain⟨rfl,_⟩:=h2;refine(Tryz.strings_ToUpper_ascii ⟨s.toArray⟩ w (by simp[ByteArray.size];omega) (λj b hj=>ha b (by simp at hj;exact E0 hj))).mono λe w' ⟨h3,h4⟩=>?_
 exact⟨_,_,h3,rfl,h4,by unfold Ah;exact⟨by simp[Zfy],by simp[qU];omega⟩⟩
theorem N3(s:Bs)(hs:s.length<=1000)(ha:∀c∈s,c.toNat<128):AO Tryz.prog 85 [.str s] (λr=>r=.str (CF s)):=by
 refine⟨by kernel_rfl,λC w vs AP hr=>?_⟩
 unfold Ab at hr;obtain⟨v1,_,rfl,h2,hr⟩:=hr;unfold Ab at hr;subst hr;unfold Ah at h2;obtain⟨rfl,_⟩:=h2;refine(Tryz.strings_ToLower_ascii ⟨s.toArray⟩ w (by simp[ByteArray.size];omega) (λj b hj=>ha b (by simp at hj;exact E0 hj))).mono λe w' ⟨h3,h4⟩=>?_
 exact⟨_,_,h3,rfl,h4,by unfold Ah;exact⟨by simp[Zc8],by simp[CF];omega⟩⟩
theorem JZ(p:UInt8->Bool):∀l:Bs,(l.dropWhile p).length<=l.length
 |[]=>by simp
 |c::r=>by
  rw[List.dropWhile_cons];split;·have:=JZ p r;simp;omega
  ·simp
theorem rW(l cs:Bs):(Lib.trimS l cs).length<=l.length:=by
 unfold Lib.trimS Lib.trimLeftS Lib.trimRightS;refine E1 (JZ _ _) ?_;rw[List.length_reverse];refine E1 (JZ _ _) ?_;simp
theorem mX(s:Bs)(hs:s.length<=1000):AO Tryz.prog 122 [.str s,.str [57,65]] (λr=>r=.str (Lib.trimS s [57,65])):=by
 refine⟨by kernel_rfl,λC w vs AP hr=>?_⟩
 unfold Ab at hr;obtain⟨v1,_,rfl,h2,hr⟩:=hr;unfold Ab at hr;obtain⟨v2,_,rfl,h3,hr⟩:=hr;unfold Ab at hr;subst hr;unfold Ah at h2 h3;obtain⟨rfl,_⟩:=h2;obtain⟨rfl,_⟩:=h3;refine(Any.strings_Trim_laid Tryz.Zay (by kernel_rfl) ⟨s.toArray⟩ ⟨[57,65].toArray⟩ w (by simp[ByteArray.size];omega) (by decide) (ascii_of_all (by decide))).mono λe w' ⟨h3,h4⟩=>?_
 exact⟨_,_,h3,rfl,h4,by unfold Ah;exact⟨rfl,by have:=rW s [57,65];omega⟩⟩
theorem NK(s:Bs):AO Tryz.prog 209 [.str s,.str [32]] (λr=>r=.int .i64 (Lib.countByte s 32)):=by
 refine⟨by kernel_rfl,λC w vs AP hr=>?_⟩
 unfold Ab at hr;obtain⟨v1,_,rfl,h2,hr⟩:=hr;unfold Ab at hr;obtain⟨v2,_,rfl,h3,hr⟩:=hr;unfold Ab at hr;subst hr;unfold Ah at h2 h3;obtain⟨rfl,hs⟩:=h2;obtain⟨rfl,_⟩:=h3;refine(Tryz.strings_Count_one ⟨s.toArray⟩ 32 w).mono λe w' ⟨h3,h4⟩=>?_
 subst h4;have hc:Lib.countByte s 32<=s.length:=H2;exact⟨_,_,h3,rfl,Below.refl _ _,by unfold Ah;exact⟨rfl,by constructor<;>simp[Kx,Ky,Kf,It]<;>omega⟩⟩
theorem index_spec(s:Bs):AO Tryz.prog 210 [.str s,.str [32]] (λr=>r=.int .i64 (Lib.indexByte s 32)):=by
 refine⟨by kernel_rfl,λC w vs AP hr=>?_⟩
 unfold Ab at hr;obtain⟨v1,_,rfl,h2,hr⟩:=hr;unfold Ab at hr;obtain⟨v2,_,rfl,h3,hr⟩:=hr;unfold Ab at hr;subst hr;unfold Ah at h2 h3;obtain⟨rfl,hs⟩:=h2;obtain⟨rfl,_⟩:=h3;refine(Tryz.strings_Index_one ⟨s.toArray⟩ 32 w).mono λe w' ⟨h3,h4⟩=>?_
 subst h4;have hc:-1<=Lib.indexByte s 32:=Lib.indexByte_ge s 32
 have hd:Lib.indexByte s 32<=s.length:=by
  by_cases h:Lib.indexByte s 32=-1;·omega
  ·obtain⟨o,ho⟩:∃o:Nat,Lib.indexByte s 32=o:=⟨(Lib.indexByte s 32).toNat,by omega⟩
   have:=(Gt.1 (Lib.indexByte_some ho).1).1;omega
 exact⟨_,_,h3,rfl,Below.refl _ _,by unfold Ah;exact⟨rfl,by constructor<;>simp[Kx,Ky,Kf,It]<;>omega⟩⟩
theorem YH(x:Nat)(hx:x<=1114111):AO Tryz.prog 82 [.int .i32 x] (λr=>r=.bool (D3 x)):=by
 refine kB Tryz.func82 rfl ?_;repeat' (first|(refine A0 (λ_=>?_) (λ_=>?_)<;>conv=>whnf)|refine Dd ?_|fail)
 all_goals (refine congrArg AV.bool ?_;rw[Bm];simp_all[D3]<;>omega)
theorem Cu(l:List Bs):(strs l).length=l.length:=by simp
theorem NV:∀(l cur:Bs),∀w∈Fz cur l,w.length<=cur.length+l.length
 |[],cur,w,h=>by
  unfold Fz at h;split at h;·simp at h
  ·rw[DE]at h;subst h;exact Kj _ _
 |c::r,cur,w,h=>by
  unfold Fz at h;split at h
  ·split at h;·have:=NV r [] w h;simp at this⊢;omega
   ·rcases FB.1 h with rfl|h;·exact Kj _ _
    ·have:=NV r [] w h;simp at this⊢;omega
  ·have:=NV r _ w h;simp at this⊢;omega
theorem SM(l:Bs):∀w∈AB l,w.length<=l.length:=λw h=>by have:=NV l [] w h;simpa using this
theorem Sj(s:Bs)(hs:s.length<=100000):AO Tryz.prog 81 [.str s,.fn 82 []] (λr=>r=AQ (AB s)):=by
 refine⟨by kernel_rfl,λC w vs AP hr=>?_⟩
 unfold Ab at hr;obtain⟨v1,_,rfl,h2,hr⟩:=hr;unfold Ab at hr;obtain⟨v2,_,rfl,h3,hr⟩:=hr;unfold Ab at hr;subst hr;unfold Ah at h2 h3;obtain⟨rfl,_⟩:=h2;obtain⟨us,rfl,hu⟩:=h3;have hj:=Tryz.strings_FieldsFunc_grows 82 us.toArray (enters_of Tryz.func82 (by kernel_rfl) rfl) D3 ⟨s.toArray⟩ w (by simp[ByteArray.size];omega) (I5 YH AP hu)
 have hw:(Lib.goFieldsP D3 ⟨s.toArray⟩).map (λx=>x.data.toList)=AB s:=X4 ⟨s.toArray⟩
 generalize Lib.goFieldsP D3 ⟨s.toArray⟩=L at hj hw;have hlen:L.length=(AB s).length:=by rw[<-hw];simp
 refine hj.mono λe w' ⟨A,h3,h4,h5,h6⟩=>?_
 refine⟨_,_,h3,rfl,h6,?_⟩;rcases h5.2 with⟨h7,_⟩|⟨g,bK,cur,h7,h8,h9,h10,h11,h12,h13⟩;·cases h7
 ·injection h7 with h7 _ h7c
  injection h7 with h7;injection h7 with h7
  subst h7 h7c;unfold AQ Ah;refine .inr ⟨A,0,L.length,?_,?_,?_,?_⟩;·rw[Cu,hlen]
  ·rw[Cu,hlen];exact Ix _
  ·simp only[maxLen]at h11;omega
  ·refine(DQ _ _).2 λi hi=>?_
   have aF:i<(AB s).length:=by rw[Cu]at hi;exact hi
   have hgs:A<w'.heap.size:=(Array.getElem?_eq_some_iff.1 h9).1
   have hlb:((AB s)[i]).length<=9223372036854775807:=by
    have:=SM s _ (Ak aF);omega
   have Eu:w'.cell? ⟨A,i,none⟩=some (.string ⟨((AB s)[i]).toArray⟩):=by
    rw[cell_of_row w' A i cur _ _ h9];have h14:=congrArg (·[i]?) h13;simp only[Nat.mul_one]at h14;rw[List.getElem?_take_of_lt (by omega)]at h14
    rw[<-Array.getElem?_toList,h14];have hiL:i<L.length:=by omega
    have E5:(AB s)[i]=L[i].data.toList:=by
     have:=congrArg (·[i]?) hw;simp only[List.getElem?_map,GW hiL,GW aF,Option.map_some,G2.injEq]at this;exact this.symm
    rw[E5];simp[hiL]
   simp only[strs,Ki];refine⟨rfl,?_⟩;simp only[AV.cells];unfold Cells;refine⟨⟨_,rfl,⟨.inr ⟨h8,hgs⟩,by rw[CM,Nat.mul_one];exact Eu⟩,by unfold Ah;exact⟨rfl,hlb⟩⟩,by unfold Cells;trivial⟩
theorem cQ(s:Bs)(hs:s.length<=100000):AO Tryz.prog 51 [.str s] (λr=>r=AQ (AB s)):=by
 refine kB Tryz.func51 rfl ?_;repeat(first|(refine cS (Sj s hs) rfl ?_;conv=>whnf)|(refine sT rfl ?_;conv=>whnf))
 rfl
theorem SX(p:Pt)(ht:p.t.length<=1000):AO Tryz.prog 77 [p.v] (λr=>r=.bool (BV p)):=by
 refine kB Tryz.func77 rfl ?_;repeat' (first|(refine A0 (λ_=>?_) (λ_=>?_)<;>conv=>whnf)|(refine kC (NB p.t (by omega)) ?_)|(refine kC (mX p.t ht) ?_)|refine Dd ?_|fail)
 all_goals
  refine congrArg AV.bool ?_;have htr:=rV p.t;unfold BV Vq;try simp only[decide_eq_true_eq,decide_eq_false_iff_not]at *
  try simp only[*,if_true,if_false,reduceIte,or_self,or_false,false_or,true_or,or_true]
  try first|done|(rw[Bm];simp_all;done)|(rw[Bm];simp_all<;>omega)|trace_state
def MI(l:List Pt)(j:Nat):Bool:=l.any λp=>decide (p.k=(j:Int))
theorem LL(l:List Pt)(p:Pt)(j:Nat):MI (l++[p]) j=(MI l j||decide (p.k=(j:Int))):=by unfold MI;rw[List.any_append];simp
def cB(l:List Pt):Bool:=l.all BV&&decide (EH l).Nodup
theorem Zak(l:List Pt)(p:Pt):cB (l++[p])=(cB l&&BV p&&(decide (p.k=1)||!l.any λq=>decide (q.k=p.k))):=by
 unfold cB EH;rw[Bv,Gs,Cr];by_cases h:p.k=1
 ·have e:([p].filter λp=>decide (p.k≠1))=[]:=by simp[h]
  rw[e];simp only[Hz,C1,Cb,List.all_nil,Hs,decide_eq_true h,Bool.true_or];cases l.all BV<;>cases BV p<;>simp
 ·have e:([p].filter λp=>decide (p.k≠1))=[p]:=by simp[h]
  rw[e,Bm];simp only[Ef,Hz,Ax,decide_eq_true_eq,JV,Cb,List.all_nil,Hs,DG,h,false_or,El,List.any_eq_false];constructor
  ·rintro⟨⟨h1,h2⟩,h3,_,h5⟩;refine⟨⟨⟨h1,h3⟩,h2⟩,λq hq hk=>?_⟩
   have hk:q.k=p.k:=by simpa using hk
   exact h5 q.k (BY.2 ⟨q,HB.2 ⟨hq,by simp;omega⟩,rfl⟩) p.k (by simp) hk
  ·rintro⟨⟨⟨h1,h3⟩,h2⟩,h4⟩;refine⟨⟨h1,h2⟩,h3,by simp,λa ha b hb pH=>?_⟩
   obtain⟨q,hq,rfl⟩:=BY.1 ha;simp only[DE]at hb;exact h4 q (HB.1 hq).1 (by first|omega|exact decide_eq_true (by omega))
theorem Zaj(l r:List Pt)(h:cB l=false):cB (l++r)=false:=by
 unfold cB EH at*;rw[Bv,Gs,Cr];rw[Bool.and_eq_false_iff]at *;rcases h with h|h;·left;rw[h];rfl
 ·right;simp only[decide_eq_false_iff_not]at *;intro hn;exact h (JV.1 hn).1
theorem C6{p:Pt}(h:BV p=true):p.k=1\/p.k=2\/p.k=3\/p.k=4\/p.k=5\/p.k=6:=by
 unfold BV at h;split at h;·omega
 ·split at h;·omega
  ·split at h;·omega
   ·cases h
def FE(l:List Pt):Bool:=decide (1<=l.length)&&decide (l.length<=8)
theorem G6(f:Fm):A1 f=(H9 f.name&&decide (1<=f.lines.length)&&decide (f.lines.length<=8)&&f.lines.all FE&&cB f.lines.flatten):=by
 unfold A1 cB;rw[KT];rfl
abbrev Y6(l:List Pt):List AV:=[.bool (MI l 0),.bool (MI l 1),.bool (MI l 2),.bool (MI l 3),.bool (MI l 4),.bool (MI l 5),.bool (MI l 6)]
theorem EV(f:Fm)(k:Nat)(h:k<f.lines.length):(f.lines.map CP)[k]?=some (CP f.lines[k]):=by simp[h]
theorem EA(l:List Pt)(k:Nat)(h:k<l.length):(l.map Pt.v)[k]?=some l[k].v:=by simp[h]
theorem Ct(f:Fm)(hn:f.name.length<=1000)(ht:∀l∈f.lines,∀p∈l,p.t.length<=1000)(hl:f.lines.length<=1000)(ND:∀l∈f.lines,l.length<=1000):AO Tryz.prog 46 [f.v] (λr=>r=.bool (A1 f)):=by
 refine kB Tryz.func46 rfl ?_;repeat' (first|(refine A0 (λ_=>?_) (λ_=>?_)<;>conv=>whnf)|(refine kC (Ig f.name (by omega)) ?_)|refine Dd ?_|fail)
 ·rename_i h0 h1 h2;refine congrArg AV.bool ?_;rw[G6,decide_eq_false (p:=f.lines.length<=8) (by simp at h2;omega)];simp
 rotate_left
 ·rename_i h0 h1;refine congrArg AV.bool ?_;rw[G6,decide_eq_false (p:=1<=f.lines.length) (by simp at h1;omega)];simp
 ·rename_i h0;refine congrArg AV.bool ?_;rw[G6,show H9 f.name=false by simpa using h0];simp
 ·rename_i h0 h1 h2
  have hv:A1 f=(f.lines.all FE&&cB f.lines.flatten):=by
   rw[G6,decide_eq_true (p:=f.lines.length<=8) (by simp at h2;omega),decide_eq_true (p:=1<=f.lines.length) (by simp at h1;omega),show H9 f.name=true by simpa using h0];simp
  refine Aa.YI 1 rfl (cs':=Y6 []) (by repeat' first|exact trivial|exact QP.lit rfl|constructor) ?_
  conv=>whnf
  have cH:(f.lines.map CP).length=f.lines.length:=by simp
  refine Aa.Aw (λi:Nat=>mk 64 [(1,.ptr 0 0),(3,.ptr 1 0),(25,.sl 1 (f.lines.map CP)),(26,.int .i64 f.lines.length),(27,.int .i64 i)]) (λi=>[.cells [.str f.name,.sl 1 (f.lines.map CP)],.cells (Y6 (f.lines.take i).flatten)]) (λi=>i<=f.lines.length/\(f.lines.take i).all FE=true/\cB (f.lines.take i).flatten=true) (λi=>f.lines.length-i) (λ_ _=>⟨rfl,rfl,rfl,trivial⟩) ⟨0,?_⟩ (λ_=>rfl) λi hi=>?_
  ·refine kQ ?_;exact(by decide:cB []=true)
  ·obtain⟨hi,ha,hb⟩:=hi;refine kR ?_;refine⟨λh=>?_,λh=>?_⟩
   ·have h:i<f.lines.length:=by simp at h;omega
    have A7:=D4 i (by omega)
    have Ql:f.lines.take (i+1)=f.lines.take i++[f.lines[i]]:=Af h;refine kW ?_;refine⟨by omega,_,EV f i h,?_⟩
    refine kW ?_
    have aD:¬FE f.lines[i]=true->A1 f=false:=λhx=>by
     rw[hv,show f.lines.all FE=false from BI.2 ⟨f.lines[i],Ak h,by simpa using hx⟩];rfl
    have gE:∀k,k<f.lines[i].length->cB ((f.lines.take i).flatten++f.lines[i].take (k+1))=false->A1 f=false:=λk hk hx=>by
     have e:f.lines.flatten=((f.lines.take i).flatten++f.lines[i].take (k+1))++(f.lines[i].drop (k+1)++(f.lines.drop (i+1)).flatten):=by
      have e1:f.lines=f.lines.take i++f.lines[i]::f.lines.drop (i+1):=by
       rw[<-BM h,HM]
      conv=>lhs;rw[e1]
      rw[FX,C4];simp only[EI];congr 1;rw[<-EI,HM]
     rw[hv,e,Zaj _ _ hx,E4]
    repeat' (first|(refine A0 (λ_=>?_) (λ_=>?_)<;>conv=>whnf)|refine Dd ?_|fail)
    ·rename_i g1 g2;exact congrArg AV.bool (aD (by simp at g2;simp[FE];omega)).symm
    rotate_left
    ·rename_i g1;exact congrArg AV.bool (aD (by simp at g1;simp[FE];omega)).symm
    ·rename_i g1 g2;have hlo:FE f.lines[i]=true:=by simp at g1 g2;simp[FE];omega
     have hLl:f.lines[i].length<=8:=by simp at g2;omega
     have MA:=Ak h;generalize f.lines[i]=L at*;have hBL:(f.lines.take (i+1)).flatten=(f.lines.take i).flatten++L:=by rw[Ql];simp
     generalize (f.lines.take i).flatten=B at*;refine Aa.Aw (λk:Nat=>mk 64 [(1,.ptr 0 0),(3,.ptr 1 0),(25,.sl 1 (f.lines.map CP)),(26,.int .i64 f.lines.length),(27,.int .i64 i),(39,.sl 2 (L.map Pt.v)),(40,.int .i64 L.length),(41,.int .i64 k)]) (λk=>[.cells [.str f.name,.sl 1 (f.lines.map CP)],.cells (Y6 (B++L.take k))]) (λk=>k<=L.length/\cB (B++L.take k)=true) (λk=>L.length-k) (λ_ _=>⟨rfl,rfl,rfl,trivial⟩) ⟨0,?_⟩ (λ_=>rfl) λk hk=>?_
     ·refine kQ ?_;rw[K0,C1];exact hb
     ·obtain⟨hk,hc⟩:=hk;refine kR ?_;refine⟨λh3=>?_,λh3=>?_⟩
      ·have h3:k<L.length:=by simp at h3;omega
       refine kW ?_
       refine⟨by omega,_,EA L k h3,?_⟩
       refine kW ?_
       refine Aj.Dk (SX L[k] (ht _ MA _ (Ak h3))) rfl λr hr=>?_
       subst hr
       have Vz:B++L.take (k+1)=(B++L.take k)++[L[k]]:=by rw[Af h3,EI]
       have ZaM:=Zak (B++L.take k) L[k]
       have gE:=gE k h3
       rw[Vz,ZaM,hc]at gE
       have E5:=D4 k (by omega)
       refine kW ?_
       refine⟨λh4=>?_,λh4=>?_⟩
       ·have h4:BV L[k]=true:=by simpa using h4
        have hkk:=C6 h4
        rw[h4]at gE
        refine kW ?_
        refine⟨λh5=>?_,λh5=>?_⟩
        ·have h5:¬L[k].k=1:=by simpa using h5
         generalize hK:L[k].k=K at*
         rcases hkk with rfl|rfl|rfl|rfl|rfl|rfl
         ·exact absurd rfl h5
         all_goals
          rw[<-hK]at gE ZaM;refine kW ?_;refine⟨⟨by decide,by decide⟩,?_⟩
          refine kW ?_;refine⟨λh6=>?_,λh6=>?_⟩
          ·have h6:((B++L.take k).any λq=>decide (q.k=L[k].k))=true:=by rw[hK];exact h6
           refine kW ?_
           exact congrArg AV.bool (gE (by rw[h6,hK];rfl)).symm
          ·have h6:((B++L.take k).any λq=>decide (q.k=L[k].k))=false:=by rw[hK];exact h6
           refine kW ?_
           refine⟨⟨by decide,by decide⟩,?_⟩
           conv=>whnf
           refine Aa.YI 1 rfl (cs':=Y6 (B++L.take (k+1))) ?_ ?_
           ·rw[Vz]
            repeat' first|exact trivial|(refine QP.lit ?_;rw[LL,hK];simp;done)|(refine QP.bool ?_;rw[LL,hK];simp;done)|refine A0 ?_ ?_
           refine kW ?_
           refine⟨k+1,?_⟩
           refine CV E5 ?_
           exact⟨⟨by omega,by rw[Vz,ZaM,hc,h4,h6];simp⟩,by omega⟩
        ·have h5:L[k].k=1:=by simpa using h5
         rw[h5]
         refine kW ?_
         refine⟨⟨by decide,by decide⟩,?_⟩
         conv=>whnf
         refine Aa.YI 1 rfl (cs':=Y6 (B++L.take (k+1))) ?_ ?_
         ·rw[Vz]
          repeat' first|exact trivial|(refine QP.lit ?_;rw[LL,h5];simp;done)|(refine QP.bool ?_;rw[LL,h5];simp;done)|refine A0 ?_ ?_
         refine kW ?_
         refine⟨k+1,?_⟩
         refine CV E5 ?_
         exact⟨⟨by omega,by rw[Vz,ZaM,hc,h4,h5];rfl⟩,by omega⟩
       ·refine kW ?_
        exact congrArg AV.bool (gE (by simp at h4;simp[h4])).symm
      ·have h3:k=L.length:=by simp at h3;omega
       refine kW ?_
       refine⟨i+1,?_⟩
       refine CV A7 ?_
       rw[h3,Bh]at hc
       rw[h3,Bh]
       refine⟨by rw[hBL],⟨by omega,?_,by rw[hBL];exact hc⟩,by omega⟩
       rw[Ql,Bv,ha]
       simp[hlo]
   ·have h:i=f.lines.length:=by simp at h;omega
    rw[h,Bh]at ha hb;refine kW ?_;exact congrArg AV.bool (by rw[hv,ha,hb];rfl)
open Go.Av Go.Shelf Pl Go.RowKit
theorem NM(d:List Bs)(n:Nat):∀a∈strs d++Cg n (AV.str []),closed a=true:=by
 intro a ha;rcases HQ.1 ha with ha|ha;·obtain⟨x,_,rfl⟩:=BY.1 ha;rfl
 ·rw[GZ ha];rfl
theorem Pn(d:List Bs)(N:Nat)(h:d.length<N):(strs d++Cg (N-d.length) (AV.str []))[0+((d.length:Nat):Int).toNat]?=some (AV.str []):=by
 obtain⟨k,hk⟩:∃k,N-d.length=k+1:=⟨N-d.length-1,by omega⟩
 rw[CM,C0,F0 (by simp[strs]),hk]
 simp[strs]
theorem Pm(d:List Bs)(N:Nat)(t:Bs)(h:d.length<N):(strs d++Cg (N-d.length) (AV.str [])).set (0+((d.length:Nat):Int).toNat) (.str t)=strs (d++[t])++Cg (N-(d++[t]).length) (AV.str []):=by
 obtain⟨k,hk⟩:∃k,N-d.length=k+1:=⟨N-d.length-1,by omega⟩
 have lG:N-(d++[t]).length=k:=by simp;omega
 rw[CM,C0,HR (h:=by simp[strs]),hk,lG]
 simp[strs,II]
theorem IJ(s:Bs)(hs:s.length<=100000):AO Tryz.prog 171 [.str s,.str [32],.int .i64 0,.int .i64 (-1)] (λr=>r=.sl 1 (strs (splitB s))):=by
 refine kB Tryz.func171 rfl ?_;refine⟨λh=>absurd h (by decide),λ_=>?_⟩
 refine kW ?_;refine⟨λh=>absurd h (by decide),λ_=>?_⟩
 refine kW ?_;refine⟨λ_=>?_,λh=>absurd h (by decide)⟩
 refine kW ?_;refine kC (NK s) ?_;have hc:Lib.countByte s 32<=s.length:=H2;have hn:(splitB s).length=Lib.countByte s 32+1:=EC s
 have hm:min (Wr Kz ((Lib.countByte s 32:Nat)+1)) (Wr Kz ((s.length:Nat)+1))=(((splitB s).length:Nat):Int):=by
  rw[Em (by omega),Em (by omega)];omega
 rw[hm,C0];refine⟨by omega,?_⟩
 refine kW ?_;generalize hN:(splitB s).length=N at*;have hN1:1<=N:=by omega
 refine Aa.Aw (λd:List Bs×Bs=>mk 66 [(0,.str d.2),(1,.str [32]),(2,.int .i64 0),(3,.int .i64 ((N:Int)-1)),(8,.raw (Value.slice none 0 0)),(9,.own 0 1 0 N),(10,.int .i64 d.1.length)]) (λd=>[.arr 9 1 (strs d.1++Cg (N-d.1.length) (AV.str []))])
  (λd=>splitB s=d.1++splitB d.2/\d.2.length<=s.length) (λd=>N-d.1.length) (λ_ _=>⟨rfl,NM _ _,trivial⟩) ⟨([],s),?_⟩ (λ_=>rfl) λ⟨d,t⟩ hd=>?_
 ·conv=>whnf
  repeat(refine A0 ?_ ?_;(focus (first|rfl|(simp;done)|(first|(rw[Em (by omega)];done)|(simp[strs];done);done)));conv=>whnf)
  exact Ix _
 ·obtain⟨hd,ht⟩:=hd;simp only at hd ht;have SE:d.length+(splitB t).length=N:=by rw[<-hN,hd];simp
  have htp:=FN t;refine kR ?_;refine⟨λh=>?_,λh=>?_⟩
  ·have h:d.length<N-1:=by simp at h;omega
   refine kW ?_;refine kC (index_spec t) ?_;refine⟨λh2=>?_,λh2=>?_⟩
   ·exfalso;have h2:Lib.indexByte t 32=-1:=by have:=Lib.indexByte_ge t 32;simp at h2;omega
    have:=Gi (Lib.indexByte_none h2);rw[this]at SE;simp at SE;omega
   ·obtain⟨m,hm2⟩:∃m:Nat,Lib.indexByte t 32=m:=⟨(Lib.indexByte t 32).toNat,by simp at h2;omega⟩
    rw[hm2];obtain⟨i1,i2⟩:=Lib.indexByte_some hm2;have yM:m<t.length:=(Gt.1 i1).1;have yL:(m:Int)+0=m:=by omega
    refine kW ?_;rw[yL,Em (by omega)]
    refine⟨by simp only;omega,?_⟩
    refine kW ?_;refine⟨by simp only;omega,?_⟩
    refine kW ?_;refine⟨_,Pn d N (by omega),?_⟩
    refine kW ?_;have gT:(m:Int)+((([32]:List UInt8).length:Nat):Int)=((m+1:Nat):Int):=rfl;rw[gT,Em (by omega)]
    refine⟨by simp only;omega,?_⟩
    refine kW ?_;refine⟨(d++[t.take m],t.drop (m+1)),?_⟩;have lD:=PH i1 i2;conv=>whnf
    repeat(refine A0 ?_ ?_;(focus (first|rfl|(simp;done)|(first|(rw[Pr _ (by simp only;omega) (by simp only;omega)];simp;done)|(simp;omega);done)));conv=>whnf)
    refine⟨congrArg (HO.arr _ 1) (Pm d N (t.take m) (by omega)),⟨?_,by simp;omega⟩,by simp;omega⟩
    rw[hd,lD];simp
  ·have h:d.length=N-1:=by simp at h;omega
   have h1:(splitB t).length=1:=by omega
   have ht1:splitB t=[t]:=by
    refine Gi λk hk=>?_
    have h2:=EC t;have h3:0<List.count 32 t:=List.count_pos_iff.2 (E0 hk);omega
   refine kW ?_;refine⟨by simp only;omega,?_⟩
   refine kW ?_;refine⟨_,Pn d N (by omega),?_⟩
   refine kW ?_;rw[Pr _ (by simp only;omega) (by simp only;omega)]
   refine⟨by simp only;omega,?_⟩
   refine kW ?_
   have e:(strs d++Cg (N-d.length) (AV.str [])).set (0+((d.length:Nat):Int).toNat) (.str t)=strs (splitB s):=by
    have h2:N-(d++[t]).length=0:=by simp;omega
    rw[Pm d N t (by omega),h2,hd,ht1]
    simp
   refine⟨⟨?_,?_⟩,?_⟩
   ·show _=((strs d++Cg (N-d.length) (AV.str [])).set (0+((d.length:Nat):Int).toNat) (.str t)).length
    rw[e,Cu,hN];simp only;omega
   ·show ∀a∈(strs d++Cg (N-d.length) (AV.str [])).set (0+((d.length:Nat):Int).toNat) (.str t),closed a=true
    rw[e];intro a ha;obtain⟨x,_,rfl⟩:=BY.1 ha;rfl
   ·exact congrArg (AV.sl 1) e
theorem M1(s:Bs)(hs:s.length<=100000):AO Tryz.prog 129 [.str s,.str [32]] (λr=>r=.sl 1 (strs (splitB s))):=by
 refine kB Tryz.func129 rfl ?_;repeat(first|(refine cS (IJ s hs) rfl ?_;conv=>whnf)|(refine sT rfl ?_;conv=>whnf))
theorem bytesWorld_below(w:World)(e:TypeId)(s:ByteArray):Below w.heap.size w (Lib.bytesWorld w e s):=
 ⟨rfl,rfl,rfl,by rw[Lib.bytesWorld_size];omega,λk hk=>Lib.bytesWorld_at_old w e s k (by omega)⟩
theorem xJ{s:Bs}{v:Int}(h:Lib.atoiAll s=.ok v):DJ .i64 v:=by
 unfold Lib.atoiAll at h;split at h;·cases h
 ·simp only at h;split at h;·cases h
  ·cases h
  ·split at h;·cases h
   ·split at h;·cases h
    ·injection h with h
     constructor<;>simp[Kx,Ky,Kf,It]<;>split at h<;>omega
theorem qM(s:Bs)(hs:s.length<=100000)(v:Int)(hv:Lib.atoiAll s=.ok v):AO Tryz.prog 127 [.str s] (λr=>r=.tuple [.int .i64 v,.raw .nilIface]):=by
 refine⟨by kernel_rfl,λC w vs AP hr=>?_⟩
 unfold Ab at hr;obtain⟨v1,_,rfl,h2,hr⟩:=hr;unfold Ab at hr;subst hr;unfold Ah at h2;obtain⟨rfl,hl⟩:=h2;refine(Tryz.strconv_Atoi_ok ⟨s.toArray⟩ (by simp[ByteArray.size];omega) v (by simpa using hv) w).mono λe w' ⟨h3,h4⟩=>?_
 refine⟨_,_,h3,rfl,?_,?_⟩
 ·rcases h4 with rfl|⟨t,rfl⟩;·exact Below.refl _ _
  ·exact bytesWorld_below _ _ _
 ·unfold Ah;refine⟨_,rfl,?_⟩;unfold Ab;refine⟨_,_,rfl,?_,?_⟩;·unfold Ah;exact⟨rfl,xJ hv⟩
  ·unfold Ab;refine⟨_,_,rfl,?_,?_⟩;·unfold Ah;rfl
   ·unfold Ab;rfl
theorem Qm(w:Bs)(h0:1<=w.length)(hw:w.length<=1000):AO Tryz.prog 87 [.str w] (λr=>r=.tuple [.int .i64 (if Et w then (Km w:Int)else 0),.bool (Et w)]):=by
 refine kB Tryz.func87 rfl ?_;have aI:Et w=false->AV.tuple [AV.int Kz 0,AV.bool false]=AV.tuple [.int .i64 (if Et w then (Km w:Int)else 0),.bool (Et w)]:=λh=>by rw[h];rfl
 have oY:Et w=(decide (w.length<=4)&&!decide (w[0]=48)&&w.all Dg):=by
  unfold Et;rw[decide_eq_true h0,Hs];cases w with
  |nil=>simp at h0
  |cons c r=>simp only[List.head?_cons,G2.injEq,List.getElem_cons_zero]
 repeat' (first|(refine A0 (λ_=>?_) (λ_=>?_)<;>conv=>whnf)|refine Dd ?_|fail)
 rotate_left
 ·rename_i h1;exact aI (by rw[oY,decide_eq_false (p:=w.length<=4) (by simp at h1;omega)];rfl)
 ·rename_i h1;have h1:w.length<=4:=by simp at h1;omega
  have hg0:w.getD (Int.toNat 0) 0=w[0]:=by simp[Hx,show 0<w.length by omega]
  refine⟨⟨by omega,by omega⟩,?_⟩
  rw[hg0];refine kW ?_;refine⟨λh2=>?_,λh2=>?_⟩
  ·have h2:w[0]=48:=by
    have:w[0].toNat=48:=by simp at h2;omega
    exact UInt8.toNat_inj.1 this
   refine kW ?_;exact aI (by rw[oY,decide_eq_true h2];simp)
  ·have h2:¬w[0]=48:=λe=>by simp[e]at h2
   have oY:Et w=w.all Dg:=by rw[oY,decide_eq_true h1,decide_eq_false h2];simp
   refine kW ?_;refine Aa.Aw (λk:Nat=>mk 35 [(0,.str w),(2,.int .i64 0),(3,.lit false),(17,.sl 1 (IN w)),(18,.int .i64 w.length),(19,.int .i64 k)]) (λ_=>[]) (λk=>k<=w.length/\(w.take k).all Dg=true) (λk=>w.length-k) (λ_ _=>⟨rfl,trivial⟩) ⟨0,?_⟩ (λ_=>rfl) λk hk=>?_
   ·refine kQ ?_;simp
   ·obtain⟨hk,ha⟩:=hk;refine kR ?_;refine⟨λh=>?_,λh=>?_⟩
    ·have h:k<w.length:=by simpa using h
     have A7:=D4 k (by omega)
     have ht:=Ez Dg w k h;have Ll:=all_false Dg w k h;refine kW ?_;refine⟨by omega,_,EY w k h,?_⟩
     refine kW ?_;repeat' (first|(refine A0 (λ_=>?_) (λ_=>?_)<;>conv=>whnf)|(refine kC (Dn w[k]) ?_)|refine Dd ?_|fail)
     all_goals first
      |(have hn:Dg w[k]=false:=by simp_all
        exact aI (by rw[oY,Ll hn]))
      |(have hy:Dg w[k]=true:=by simp_all
        refine⟨k+1,?_⟩
        refine CV A7 ?_
        exact⟨⟨by omega,by rw[ht,ha,hy];rfl⟩,by omega⟩)
    ·have h:k=w.length:=by simp at h;omega
     rw[h,Bh]at ha;have hav:=bO ha h0 h1;refine kW ?_;refine kC (qM w (by omega) _ hav.1) ?_
     rw[<-oY]at ha;refine Aa.draw [] Ag mO (by kernel_rfl) ?_
     conv=>whnf
     refine kR ?_;rw[ha];rfl
def Cz(s:Bs):Bool:=decide (s.length<=84)&&decide ((splitB s).length<=4)&&(splitB s).all DL
theorem Ep(l:List Bs)(k:Nat)(h:k<l.length):(strs l)[k]?=some (.str l[k]):=by simp[h]
theorem JU(s:Bs):AO Tryz.prog 94 [.str s] (λr=>r=.bool (Cz s)):=by
 refine kB Tryz.func94 rfl ?_;refine⟨λh1=>?_,λh1=>?_⟩
 ·refine kW ?_;exact congrArg AV.bool (by unfold Cz;rw[decide_eq_false (p:=s.length<=84) (by simp at h1;omega)];rfl)
 ·have h1:s.length<=84:=by simp at h1;omega
  refine kW ?_;refine kC (M1 s (by omega)) ?_
  refine⟨λh2=>?_,λh2=>?_⟩
  ·refine kW ?_;exact congrArg AV.bool (by unfold Cz;rw[decide_eq_false (p:=(splitB s).length<=4) (by simp at h2;omega)];simp)
  ·have h2:(splitB s).length<=4:=by simp at h2;omega
   have hb:Cz s=(splitB s).all DL:=by unfold Cz;rw[decide_eq_true h1,decide_eq_true h2];rfl
   have yL:=Tc s;generalize splitB s=L at*;refine kW ?_;refine Aa.Aw (λk:Nat=>mk 24 [(0,.str s),(2,.lit false),(14,.sl 1 (strs L)),(15,.int .i64 L.length),(16,.int .i64 k)]) (λ_=>[]) (λk=>k<=L.length/\(L.take k).all DL=true) (λk=>L.length-k) (λ_ _=>⟨rfl,trivial⟩) ⟨0,?_⟩ (λ_=>rfl) λk hk=>?_
   ·refine kQ ?_;simp
   ·obtain⟨hk,ha⟩:=hk;refine kR ?_;refine⟨λh=>?_,λh=>?_⟩
    ·have h:k<L.length:=by simpa using h
     have A7:=D4 k (by omega)
     have hlk:=yL _ (Ak h);refine kW ?_;refine⟨by omega,_,Ep L k h,?_⟩
     refine kW ?_;repeat' (first|(refine A0 (λ_=>?_) (λ_=>?_)<;>conv=>whnf)|(refine kC (NB L[k] (by omega)) ?_)|refine Dd ?_|fail)
     ·rename_i h5;exact congrArg AV.bool (by rw[hb];exact(BI.2 ⟨L[k],Ak h,by simpa using h5⟩).symm)
     ·rename_i h5;refine⟨k+1,?_⟩;refine CV A7 ?_;exact⟨⟨by omega,by rw[Af h,Bv,ha];simpa using h5⟩,by omega⟩
    ·have h:k=L.length:=by simp at h;omega
     rw[h,Bh]at ha;refine kW ?_;exact congrArg AV.bool (by rw[hb,ha])
def Bn(p:Pt)(a:Ad):Bs:=if p.k=1 then p.t else if p.k=2 then Lib.itoa a.nu else if p.k=3 then a.co else if p.k=4 then a.st else if p.k=5 then a.to else a.pe
theorem Xs(p:Pt)(a:Ad)(h0:p.k=2->0<=a.nu/\a.nu<=9999):AO Tryz.prog 58 [p.v,a.v] (λr=>r=.str (Bn p a)):=by
 refine kB Tryz.func58 rfl ?_;repeat' (first|(refine A0 (λ_=>?_) (λ_=>?_)<;>conv=>whnf)|refine Dd ?_|fail)
 all_goals try (refine congrArg AV.str ?_;unfold Bn;simp_all;done)
 rename_i h1 h2;have h2:p.k=2:=by simpa using h2
 have h3:=h0 h2;refine kC (oQ a.nu (by omega) (by omega) (by have:=T9 h3.1 (by omega);omega)) ?_
 refine congrArg AV.str ?_;unfold Bn;rw[h2];rfl
def Dz(a:Ad)(p:Pt):Bool:=
 if p.k=2 then decide (1<=a.nu)&&decide (a.nu<=9999)
 else if p.k=3 then Ce a.co p.t&&decide (a.co=qU a.co)
 else if p.k=4 then Cz a.st
 else if p.k=5 then Cz a.to
 else if p.k=6 then Cz a.pe
 else true
def BU(a:Ad)(p:Pt):Ad:=
 if p.k=2 then ⟨a.pe,a.st,0,a.co,a.to⟩else if p.k=3 then ⟨a.pe,a.st,a.nu,[],a.to⟩else if p.k=4 then ⟨a.pe,[],a.nu,a.co,a.to⟩else if p.k=5 then ⟨a.pe,a.st,a.nu,a.co,[]⟩else if p.k=6 then ⟨[],a.st,a.nu,a.co,a.to⟩else a
abbrev adA(a:Ad):List AV:=[.str a.pe,.str a.st,.int .i64 a.nu,.str a.co,.str a.to]
def Iq(f:Fm)(a:Ad):Bool:=f.lines.flatten.all (Dz a)&&decide (f.lines.flatten.foldl BU a=HT)
theorem Re:∀(w q:Bs),q.all JN=true->Ce w q=true->∀c∈w,c.toNat<128
 |[],_,_,_,c,h=>by simp at h
 |_::_,[],_,hm,_,_=>by simp[Ce]at hm
 |x::w,y::q,hq,hm,c,h=>by
  simp only[Cb,Ax]at hq;simp only[Ce,Ax]at hm;rcases FB.1 h with rfl|h
  ·obtain⟨⟨m1,m2⟩,_⟩:=hm;obtain⟨q1,_⟩:=hq;simp only[JN,DG,decide_eq_true_eq]at q1;simp only[Dg,DF,BJ,F6,DG,Ax,decide_eq_true_eq,El,decide_eq_false_iff_not]at m1 m2;rcases q1 with q1|q1
   ·rcases m1 with m1|m1;·exact absurd q1 m1
    ·omega
   ·rcases m2 with m2|m2;·exact absurd q1 m2
    ·omega
  ·exact Re w q hq.2 hm.2 c h
theorem Zt{p:Pt}(h:BV p=true)(hk:p.k=3):p.t.all JN=true:=by
 unfold BV at h;rw[hk]at h;simp only[Vq,show(3:Int)≠1 by decide,if_false,if_true,Ax]at h
 exact h.2
theorem pZ(f:Fm)(a:Ad)(hl:f.lines.length<=1000)(ND:∀l∈f.lines,l.length<=1000)(ht:∀l∈f.lines,∀p∈l,BV p=true)(hs:a.co.length<=9223372036854775807):AO Tryz.prog 57 [f.v,a.v] (λr=>r=.bool (Iq f a)):=by
 refine kB Tryz.func57 rfl ?_;refine Aa.Aw (λi:Nat=>mk 79 [(3,.ptr 1 0),(4,.lit false),(5,.ptr 2 0),(13,.sl 1 (f.lines.map CP)),(14,.int .i64 f.lines.length),(15,.int .i64 i)]) (λi=>[.cells [.str f.name,.sl 1 (f.lines.map CP)],.cells (adA a),.cells (adA ((f.lines.take i).flatten.foldl BU a))]) (λi=>i<=f.lines.length/\(f.lines.take i).flatten.all (Dz a)=true) (λi=>f.lines.length-i) (λ_ _=>⟨rfl,rfl,rfl,rfl,trivial⟩) ⟨0,?_⟩ (λ_=>rfl) λi hi=>?_
 ·refine kQ ?_;rfl
 ·obtain⟨hi,ha⟩:=hi;refine kR ?_;refine⟨λh=>?_,λh=>?_⟩
  ·have h:i<f.lines.length:=by simp at h;omega
   have A7:=D4 i (by omega)
   have Ql:f.lines.take (i+1)=f.lines.take i++[f.lines[i]]:=Af h;refine kW ?_;refine⟨by omega,_,EV f i h,?_⟩
   refine kW ?_
   have ZdH:∀p,p∈f.lines[i]->Dz a p=false->Iq f a=false:=λp hp hf=>by
    unfold Iq;rw[show f.lines.flatten.all (Dz a)=false from BI.2 ⟨p,C3.2 ⟨_,Ak h,hp⟩,by simp[hf]⟩]
    rfl
   have hBL:(f.lines.take (i+1)).flatten=(f.lines.take i).flatten++f.lines[i]:=by rw[Ql,FX,C4,Kn,C1]
   have hlL:=ND _ (Ak h);have htL:=ht _ (Ak h);generalize f.lines[i]=L at*;generalize (f.lines.take i).flatten=B at*;refine Aa.Aw (λk:Nat=>mk 79 [(3,.ptr 1 0),(4,.lit false),(5,.ptr 2 0),(13,.sl 1 (f.lines.map CP)),(14,.int .i64 f.lines.length),(15,.int .i64 i),(19,.sl 2 (L.map Pt.v)),(20,.int .i64 L.length),(21,.int .i64 k)]) (λk=>[.cells [.str f.name,.sl 1 (f.lines.map CP)],.cells (adA a),.cells (adA ((B++L.take k).foldl BU a))]) (λk=>k<=L.length/\(B++L.take k).all (Dz a)=true) (λk=>L.length-k) (λ_ _=>⟨rfl,rfl,rfl,rfl,trivial⟩) ⟨0,?_⟩ (λ_=>rfl) λk hk=>?_
   ·refine kQ ?_;rw[K0,C1];exact ha
   ·obtain⟨hk,hc⟩:=hk;refine kR ?_;refine⟨λh3=>?_,λh3=>?_⟩
    ·have h3:k<L.length:=by simp at h3;omega
     have E5:=D4 k (by omega)
     have Vz:B++L.take (k+1)=(B++L.take k)++[L[k]]:=by rw[Af h3,EI]
     have Eg:(B++L.take (k+1)).all (Dz a)=Dz a L[k]:=by rw[Vz,Bv,hc];simp
     have HC:(B++L.take (k+1)).foldl BU a=BU ((B++L.take k).foldl BU a) L[k]:=by rw[Vz,List.foldl_append];rfl
     have Ll:=ZdH _ (Ak h3);have Z9:=htL _ (Ak h3);refine kW ?_;refine⟨by omega,_,EA L k h3,?_⟩
     generalize (B++L.take k).foldl BU a=c at*;generalize L[k]=p at*;have hkk:=C6 Z9;refine kW ?_;generalize hK:p.k=K at*;rcases hkk with rfl|rfl|rfl|rfl|rfl|rfl
     ·have hy:Dz a p=true:=by unfold Dz;rw[hK];rfl
      refine kD ?_;refine⟨k+1,?_⟩;refine CV E5 ?_;rw[HC,BU,hK];exact⟨rfl,⟨by omega,by rw[Eg];exact hy⟩,by omega⟩
     ·have Fl:Dz a p=(decide (1<=a.nu)&&decide (a.nu<=9999)):=by unfold Dz;rw[hK];rfl
      refine kD ?_;repeat' (first|(refine A0 (λ_=>?_) (λ_=>?_)<;>conv=>whnf)|refine Dd ?_|fail)
      ·rename_i h6 h7
       exact congrArg AV.bool (Ll (by rw[Fl,h6];simpa using h7)).symm
      rotate_left
      ·rename_i h6
       exact congrArg AV.bool (Ll (by rw[Fl,h6];rfl)).symm
      rename_i h6 h7;have hy:Dz a p=true:=by rw[Fl,h6];simpa using h7
      refine⟨k+1,?_⟩;refine CV E5 ?_;rw[HC,BU,hK];exact⟨rfl,⟨by omega,by rw[Eg];exact hy⟩,by omega⟩
     ·have Fl:Dz a p=(Ce a.co p.t&&decide (a.co=qU a.co)):=by unfold Dz;rw[hK];rfl
      refine kD ?_;refine Aa.draw [15] Ag mO (by kernel_rfl) ?_
      conv=>whnf
      refine⟨_,⟨OM a.co p.t (by omega),rfl⟩,?_⟩
      conv=>whnf
      refine⟨λhm=>?_,λhm=>?_⟩
      ·have Zkg:∀c∈a.co,c.toNat<128:=Re a.co p.t (Zt Z9 hK) hm
       have Znc:a.co.length<=8:=by
        have yM:a.co.length=p.t.length:=Classical.byContradiction λe=>by rw[L0 e]at hm;cases hm
        unfold BV at Z9;rw[if_neg (by omega),if_pos hK]at Z9
        unfold Vq at Z9;simp only[Ax,decide_eq_true_eq]at Z9
        omega
       conv=>whnf
       refine⟨_,⟨N2 a.co (by omega) Zkg,rfl⟩,?_⟩
       conv=>whnf
       refine⟨λhu=>?_,λhu=>?_⟩
       ·have hy:Dz a p=true:=by rw[Fl,hm];simpa using hu
        refine kW ?_
        refine⟨k+1,?_⟩
        refine CV E5 ?_
        rw[HC,BU,hK]
        exact⟨rfl,⟨by omega,by rw[Eg];exact hy⟩,by omega⟩
       ·refine kW ?_
        exact congrArg AV.bool (Ll (by rw[Fl,hm];simpa using hu)).symm
      ·refine kW ?_
       exact congrArg AV.bool (Ll (by rw[Fl,hm];rfl)).symm
     ·have Fl:Dz a p=Cz a.st:=by unfold Dz;rw[hK];rfl
      refine kD ?_;repeat' (first|(refine A0 (λ_=>?_) (λ_=>?_)<;>conv=>whnf)|(refine kC (JU a.st) ?_)|refine Dd ?_|fail)
      ·rename_i h6
       exact congrArg AV.bool (Ll (by rw[Fl];simpa using h6)).symm
      rename_i h6;have hy:Dz a p=true:=by rw[Fl];simpa using h6
      refine⟨k+1,?_⟩;refine CV E5 ?_;rw[HC,BU,hK];exact⟨rfl,⟨by omega,by rw[Eg];exact hy⟩,by omega⟩
     ·have Fl:Dz a p=Cz a.to:=by unfold Dz;rw[hK];rfl
      refine kD ?_;repeat' (first|(refine A0 (λ_=>?_) (λ_=>?_)<;>conv=>whnf)|(refine kC (JU a.to) ?_)|refine Dd ?_|fail)
      ·rename_i h6
       exact congrArg AV.bool (Ll (by rw[Fl];simpa using h6)).symm
      rename_i h6;have hy:Dz a p=true:=by rw[Fl];simpa using h6
      refine⟨k+1,?_⟩;refine CV E5 ?_;rw[HC,BU,hK];exact⟨rfl,⟨by omega,by rw[Eg];exact hy⟩,by omega⟩
     ·have Fl:Dz a p=Cz a.pe:=by unfold Dz;rw[hK];rfl
      refine kD ?_;repeat' (first|(refine A0 (λ_=>?_) (λ_=>?_)<;>conv=>whnf)|(refine kC (JU a.pe) ?_)|refine Dd ?_|fail)
      ·rename_i h6
       exact congrArg AV.bool (Ll (by rw[Fl];simpa using h6)).symm
      rename_i h6;have hy:Dz a p=true:=by rw[Fl];simpa using h6
      refine⟨k+1,?_⟩;refine CV E5 ?_;rw[HC,BU,hK];exact⟨rfl,⟨by omega,by rw[Eg];exact hy⟩,by omega⟩
    ·have h3:k=L.length:=by simp at h3;omega
     rw[h3,Bh,<-hBL]at hc ⊢;refine kW ?_;refine⟨i+1,?_⟩;refine CV A7 ?_;exact⟨⟨by omega,hc⟩,by omega⟩
  ·have h:i=f.lines.length:=by simp at h;omega
   rw[h,Bh]at ha ⊢;refine kW ?_;refine congrArg AV.bool ?_;unfold Iq;rw[ha,E2];generalize f.lines.flatten.foldl BU a=c;obtain⟨c1,c2,c3,c4,c5⟩:=c;rw[Bm];simp[HT]
def Fu(ls:List (List Bs)):Bool:=ls.all λl=>l.all DL
theorem kV(L:List (List Bs))(k:Nat)(h:k<L.length):(L.map AQ)[k]?=some (AQ L[k]):=by simp[h]
theorem bT(L:List (List Bs))(h0:L.length<=1000)(h1:∀l∈L,l.length<=1000)(h2:∀l∈L,∀w∈l,w.length<=1000):AO Tryz.prog 52 [.sl 1 (L.map AQ)] (λr=>r=.bool (Fu L)):=by
 refine kB Tryz.func52 rfl ?_;have cH:(L.map AQ).length=L.length:=by simp
 refine Aa.Aw (λi:Nat=>mk 24 [(2,.lit false),(7,.sl 1 (L.map AQ)),(8,.int .i64 L.length),(9,.int .i64 i)]) (λ_=>[]) (λi=>i<=L.length/\Fu (L.take i)=true) (λi=>L.length-i) (λ_ _=>⟨rfl,trivial⟩) ⟨0,?_⟩ (λ_=>rfl) λi hi=>?_
 ·refine kQ ?_;rfl
 ·obtain⟨hi,ha⟩:=hi;refine kR ?_;refine⟨λh=>?_,λh=>?_⟩
  ·have h:i<L.length:=by simp at h;omega
   have A7:=D4 i (by omega)
   have Ql:L.take (i+1)=L.take i++[L[i]]:=Af h;refine kW ?_;refine⟨by omega,_,kV L i h,?_⟩
   refine kW ?_;have hf:(L[i]).all DL=false->Fu L=false:=λhx=>BI.2 ⟨L[i],Ak h,by simp[hx]⟩
   have h1:=h1 _ (Ak h);have h2:=h2 _ (Ak h)
   have Eg:Fu (L.take (i+1))=(L[i]).all DL:=by
    unfold Fu at ha⊢;rw[Ql,Bv,ha];simp
   generalize L[i]=l at*;refine Aa.Aw (λk:Nat=>mk 24 [(2,.lit false),(7,.sl 1 (L.map AQ)),(8,.int .i64 L.length),(9,.int .i64 i),(13,.sl 1 (strs l)),(14,.int .i64 l.length),(15,.int .i64 k)]) (λ_=>[]) (λk=>k<=l.length/\(l.take k).all DL=true) (λk=>l.length-k) (λ_ _=>⟨rfl,trivial⟩) ⟨0,?_⟩ (λ_=>rfl) λk hk=>?_
   ·refine kQ ?_;rfl
   ·obtain⟨hk,hc⟩:=hk;refine kR ?_;refine⟨λh3=>?_,λh3=>?_⟩
    ·have h3:k<l.length:=by simp at h3;omega
     have E5:=D4 k (by omega)
     have hlk:=h2 _ (Ak h3);refine kW ?_;refine⟨by omega,_,Ep l k h3,?_⟩
     refine kW ?_;repeat' (first|(refine A0 (λ_=>?_) (λ_=>?_)<;>conv=>whnf)|(refine kC (NB l[k] (by omega)) ?_)|refine Dd ?_|fail)
     ·rename_i h5;exact congrArg AV.bool (hf (BI.2 ⟨l[k],Ak h3,by simpa using h5⟩)).symm
     ·rename_i h5;refine⟨k+1,?_⟩;refine CV E5 ?_;exact⟨⟨by omega,by rw[Af h3,Bv,hc];simpa using h5⟩,by omega⟩
    ·have h3:k=l.length:=by simp at h3;omega
     rw[h3,Bh]at hc;refine kW ?_;refine⟨i+1,?_⟩;refine CV A7 ?_;exact⟨⟨by omega,by rw[Eg];exact hc⟩,by omega⟩
  ·have h:i=L.length:=by simp at h;omega
   rw[h,Bh]at ha;refine kW ?_;exact congrArg AV.bool ha.symm
theorem QI{x:Ad}:∀(P:List Pt),Ih P->∀x,HN P x (P.foldl BU x)
 |[],_,x=>HN.refl _ _
 |p::P,hg,x=>by
  rw[D0];have h1:=QI P (λq hq=>hg q (by simp[hq])) (x:=x) (BU x p)
  have h2:HN [p] x (BU x p):=by
   have n:∀k,p.k=k->¬¬MD [p] k:=λk e h=>h ⟨p,by simp,e⟩
   unfold BU;rcases hg p (by simp)with h|h|h|h|h|h<;>simp only[h]<;>constructor<;>intro y<;>first|rfl|exact absurd y (n _ h)
  exact(h2.mono λq hq=>by simp at hq;simp[hq]).trans (h1.mono λq hq=>by simp[hq])
theorem iR{p:Pt}{P:List Pt}{a b:Ad}(hp:p.k=1\/p.k=2\/p.k=3\/p.k=4\/p.k=5\/p.k=6)(h:HN (p::P) a b):HN P (BU a p) (BU b p):=by
 unfold BU
 rcases hp with hk|hk|hk|hk|hk|hk<;>simp only[hk]<;>constructor<;>intro x<;>first
  |rfl
  |exact h.nu (BT (by omega) x)
  |exact h.co (BT (by omega) x)
  |exact h.st (BT (by omega) x)
  |exact h.to (BT (by omega) x)
  |exact h.pe (BT (by omega) x)
theorem RB:∀(P:List Pt)(a b:Ad),Ih P->HN P a b->P.foldl BU a=P.foldl BU b
 |[],a,b,_,h=>HN.nil h
 |p::P,a,b,hg,h=>RB P _ _ (λq hq=>hg q (by simp[hq])) (iR (hg p (by simp)) h)
theorem RA:∀(P:List Pt),P.foldl BU HT=HT
 |[]=>rfl
 |p::P=>by
  rw[D0]
  have:BU HT p=HT:=by
   unfold BU HT;repeat' split
   all_goals rfl
  rw[this];exact RA P
theorem iQ{P:List Pt}(hg:Ih P)(a:Ad):P.foldl BU a=HT↔HN P a HT:=by
 constructor
 ·intro h;have:=QI (x:=a) P hg a;rw[h]at this;exact this
 ·intro h;rw[RB P a HT hg h,RA]
theorem UH{f:Fm}{x:Ad}(hp:∀p∈f.lines.flatten,BV p=true)(hx:Iq f x=true):x.st.length<=84/\x.to.length<=84/\x.pe.length<=84/\x.co.length<=8:=by
 have hg:Ih f.lines.flatten:=λp hq=>C6 (hp p hq)
 unfold Iq at hx;simp only[Ax,decide_eq_true_eq]at hx;have hA:=(iQ hg x).1 hx.2;have Fl:=Bl.1 hx.1
 have hwl:∀s:Bs,Cz s=true->s.length<=84:=λs h=>by
  unfold Cz at h;simp only[Ax,decide_eq_true_eq]at h;exact h.1.1
 refine⟨?_,?_,?_,?_⟩
 ·by_cases hk:MD f.lines.flatten 4
  ·obtain⟨p,yH,KG⟩:=hk;have:=Fl p yH;unfold Dz at this;simp only[KG]at this;exact hwl _ (by simpa using this)
  ·rw[hA.st hk];exact BW _
 ·by_cases hk:MD f.lines.flatten 5
  ·obtain⟨p,yH,KG⟩:=hk;have:=Fl p yH;unfold Dz at this;simp only[KG]at this;exact hwl _ (by simpa using this)
  ·rw[hA.to hk];exact BW _
 ·by_cases hk:MD f.lines.flatten 6
  ·obtain⟨p,yH,KG⟩:=hk;have:=Fl p yH;unfold Dz at this;simp only[KG]at this;exact hwl _ (by simpa using this)
  ·rw[hA.pe hk];exact BW _
 ·by_cases hk:MD f.lines.flatten 3
  ·obtain⟨p,yH,KG⟩:=hk;have h3:=Fl p yH;unfold Dz at h3;simp only[KG]at h3;have h4:Ce x.co p.t=true/\x.co=qU x.co:=by simpa using h3
   have h6:x.co.length=p.t.length:=Classical.byContradiction λe=>by rw[L0 e]at h4;cases h4.1
   have h7:=hp p yH;unfold BV at h7;rw[if_neg (by omega),if_pos KG]at h7
   unfold Vq at h7;simp only[Ax,decide_eq_true_eq]at h7;omega
  ·rw[hA.co hk];exact BW _
open Go.Av Go.Shelf Pl
def Lg(a:Ad)(l:List Pt):Bs:=Lib.join (l.map λp=>Bn p a) [32]
def IF(f:Fm)(a:Ad):List Bs:=f.lines.map (Lg a)
structure QO(f:Fm):Prop where
 n:f.name.length<=1000
 l:f.lines.length<=1000
 l2:∀l∈f.lines,l.length<=1000
 t:∀l∈f.lines,∀p∈l,p.t.length<=1000
def Yq(a:Ad):Prop:=a.st.length+a.to.length+a.pe.length+a.co.length<=1000
theorem Cn(l:List Bs):∀x∈strs l,closed x=true:=by
 intro x hx;obtain⟨y,_,rfl⟩:=BY.1 hx;rfl
def B4(f:Fm)(a:Ad):List Bs×Int:=if A1 f&&Iq f a then (IF f a,0)else ([],1)
theorem HW{f:Fm}(h:A1 f=true):∀l∈f.lines,∀p∈l,BV p=true:=by
 rw[G6]at h;simp only[Ax,cB]at h;exact λl hl p hp=>Bl.1 h.2.1 p (C3.2 ⟨l,hl,hp⟩)
theorem UI{f:Fm}{a:Ad}(h:Iq f a=true):∀l∈f.lines,∀p∈l,Dz a p=true:=by
 unfold Iq at h;simp only[Ax]at h;exact λl hl p hp=>Bl.1 h.1 p (C3.2 ⟨l,hl,hp⟩)
theorem I4{p:Pt}{a:Ad}(ha:Yq a)(ht:p.t.length<=1000)(hf:Dz a p=true):(Bn p a).length<=1000:=by
 unfold Yq at ha;unfold Bn;split;·exact ht
 ·split
  ·rename_i h;unfold Dz at hf;rw[if_pos h]at hf;simp at hf;have:=T9 (n:=a.nu) (by omega) (by omega)
   omega
  ·repeat' split
   all_goals omega
theorem Tw(f:Fm)(a:Ad)(hf:QO f)(hc:a.co.length<=9223372036854775807):AO Tryz.prog 30 [f.v,a.v]
  (λr=>r=.tuple [AQ (B4 f a).1,.int .i64 (B4 f a).2]):=by
 refine kB Tryz.func30 rfl ?_;repeat' (first|(refine A0 (λ_=>?_) (λ_=>?_)<;>conv=>whnf)|(refine kC (Ct f hf.n hf.t hf.l hf.l2) ?_)|refine Dd ?_|fail)
 rotate_left
 ·rename_i h1;refine⟨1,?_⟩;conv=>whnf
  have h1:A1 f=false:=by simpa using h1
  unfold B4;rw[h1];rfl
 rename_i h1;have h1:A1 f=true:=by simpa using h1
 have hp:=HW h1;refine kC (pZ f a hf.l hf.l2 hp hc) ?_;refine⟨λh2=>?_,λh2=>?_⟩
 ·refine kW ?_;refine⟨1,?_⟩;conv=>whnf
  have h2:Iq f a=false:=by simpa using h2
  unfold B4;rw[h2,E4];rfl
 ·have h2:Iq f a=true:=by simpa using h2
  have hfp:=UI h2;have hR:B4 f a=(IF f a,0):=by unfold B4;rw[h1,h2];rfl
  have ha:Yq a:=by
   have KG:∀p∈f.lines.flatten,BV p=true:=λp hq=>by
    obtain⟨l,hl,hq⟩:=C3.1 hq;exact hp l hl p hq
   have:=UH KG h2;unfold Yq;omega
  rw[hR];have cH:=hf.l;have yM:(f.lines.map CP).length=f.lines.length:=by simp
  refine kW ?_;refine⟨⟨by omega,by omega,by omega⟩,?_⟩
  refine kW ?_;refine Aa.Aw (λi:Nat=>mk 55 [(3,.ptr 1 0),(4,.raw (Value.slice none 0 0)),(5,.int .i64 0),(6,.own 2 1 0 i),(26,.sl 1 (f.lines.map CP)),(27,.int .i64 f.lines.length),(28,.int .i64 i)]) (λi=>[.cells [.str f.name,.sl 1 (f.lines.map CP)],.cells (adA a),.arr 9 1 (strs ((f.lines.take i).map (Lg a)))]) (λi=>i<=f.lines.length) (λi=>f.lines.length-i) (λ_ _=>⟨rfl,rfl,rfl,Cn _,trivial⟩) ⟨0,?_⟩ (λ_=>rfl) λi hi=>?_
  ·refine kQ ?_;exact BW _
  ·refine kR ?_;refine⟨λh=>?_,λh=>?_⟩
   ·have h:i<f.lines.length:=by simp at h;omega
    have A7:=D4 i (by omega)
    have Ql:f.lines.take (i+1)=f.lines.take i++[f.lines[i]]:=Af h;refine kW ?_;refine⟨by omega,_,EV f i h,?_⟩
    refine kW ?_;have hlL:=hf.l2 _ (Ak h);have hpL:=hp _ (Ak h);have hfL:=hfp _ (Ak h);have htL:=hf.t _ (Ak h);generalize f.lines[i]=L at*;have hmL:(L.map Pt.v).length=L.length:=by simp
    refine⟨⟨by omega,by omega,by omega⟩,?_⟩
    refine kW ?_;generalize hB:(f.lines.take i).map (Lg a)=B at*;refine Aa.Aw (λk:Nat=>mk 55 [(3,.ptr 1 0),(4,.raw (Value.slice none 0 0)),(5,.int .i64 0),(6,.own 2 1 0 i),(9,.own 3 1 0 k),(26,.sl 1 (f.lines.map CP)),(27,.int .i64 f.lines.length),(28,.int .i64 i),(35,.sl 2 (L.map Pt.v)),(36,.int .i64 L.length),(37,.int .i64 k)]) (λk=>[.cells [.str f.name,.sl 1 (f.lines.map CP)],.cells (adA a),.arr 9 1 (strs B),.arr 9 1 (strs ((L.take k).map λp=>Bn p a))]) (λk=>k<=L.length) (λk=>L.length-k) (λ_ _=>⟨rfl,rfl,rfl,Cn _,Cn _,trivial⟩) ⟨0,?_⟩ (λ_=>rfl) λk hk=>?_
    ·refine kQ ?_;exact BW _
    ·refine kR ?_;refine⟨λh3=>?_,λh3=>?_⟩
     ·have h3:k<L.length:=by simp at h3;omega
      have E5:=D4 k (by omega)
      have Vz:L.take (k+1)=L.take k++[L[k]]:=Af h3;have Sh:=hfL _ (Ak h3)
      have hnu:L[k].k=2->0<=a.nu/\a.nu<=9999:=λe=>by
       unfold Dz at Sh;rw[if_pos e]at Sh;simp at Sh;omega
      refine kW ?_;refine⟨by omega,_,EA L k h3,?_⟩
      refine kW ?_;refine kC (Xs L[k] a hnu) ?_;refine⟨rfl,?_⟩;conv=>whnf
      refine⟨⟨by simp;omega,by simp;omega⟩,?_⟩
      refine kW ?_;refine⟨k+1,?_⟩;have Yu:strs ((L.take k).map λp=>Bn p a)++[AV.str (Bn L[k] a)]=strs ((L.take (k+1)).map λp=>Bn p a):=by rw[Vz];simp only[strs,Cr,Ef,Hz]
      conv=>whnf
      repeat(refine A0 ?_ ?_;(focus (first|rfl|(simp;done)|(first|exact E5|exact congrArg (HO.arr _ 1) Yu|exact congrArg (AV.own 3 1 0) (by rw[Yu];simp;omega);done)));conv=>whnf)
      exact⟨by omega,by omega⟩
     ·have h3:k=L.length:=by simp at h3;omega
      rw[h3,Bh];refine kW ?_;refine Aj.freeze 3 ?_ (by kernel_rfl)
      conv=>whnf
      refine⟨(Cn _),?_⟩;conv=>whnf
      repeat(refine⟨(by first|rfl|(simp;done):(_:Nat)=_),?_⟩;conv=>whnf)
      have Lj:∀x∈(L.map λp=>Bn p a),x.length<=1000:=λx hx=>by
       obtain⟨p,hp,rfl⟩:=BY.1 hx;exact I4 ha (htL p hp) (hfL p hp)
      have Va:=OU [32] 1000 _ Lj
      have ZaO:(Lib.join (L.map λp=>Bn p a) [32]).length<=1001*1000:=by
       refine E1 Va ?_;simp only[C2,Fi,FY];omega
      refine kC (FV (L.map λp=>Bn p a) (by simp;omega) (by omega)) ?_
      refine⟨rfl,?_⟩;conv=>whnf
      have hBl:B.length=i:=by rw[<-hB];simp;omega
      refine⟨⟨by simp;omega,by simp;omega⟩,?_⟩
      refine kW ?_;refine⟨i+1,?_⟩
      have Yu:strs B++[AV.str (Lib.join (L.map λp=>Bn p a) [32])]=strs ((f.lines.take (i+1)).map (Lg a)):=by
       rw[Ql,Cr,hB];simp only[strs,Cr,Ef,Hz];rfl
      conv=>whnf
      repeat(refine A0 ?_ ?_;(focus (first|rfl|(simp;done)|(first|exact A7|exact congrArg (HO.arr _ 1) Yu|exact congrArg (AV.own 2 1 0) (by simp;omega);done)));conv=>whnf)
      exact⟨by omega,by omega⟩
   ·have h:i=f.lines.length:=by simp at h;omega
    rw[h,Bh];refine kW ?_;refine⟨⟨by simp,Cn _⟩,?_⟩
    conv=>whnf
    rfl
def JS:AV:=.mp [.int .i64 1,.int .i64 2,.int .i64 3,.int .i64 4,.int .i64 5,.int .i64 6]
 [.agg [.int .i64 1,.fn 84 []],.agg [.int .i64 1,.fn 86 []],.agg [.int .i64 1,.fn 88 []],
  .agg [.int .i64 4,.fn 91 []],.agg [.int .i64 4,.fn 92 []],.agg [.int .i64 4,.fn 93 []]]
theorem eO:AO Tryz.prog 53 [] (λr=>r=JS):=by
 refine kB Tryz.func53 rfl ?_;repeat(refine⟨by intro a ha;(repeat(rcases FB.1 ha with rfl|ha;(first|exact rfl|skip)))<;>first|rfl|(cases ha;done),?_⟩;(conv=>whnf))
 refine kR ?_;rfl
def CY(ls:List Bs)(i:Nat):List AV:=(ls.take i).map (λl=>AQ (AB l))++Cg (ls.length-i) (.raw (Value.slice none 0 0))
def EK(ls:List Bs):Nat:=(ls.map λl=>(AB l).length).sum
theorem cU(ls:List Bs)(i:Nat)(h:i<=ls.length):(CY ls i).length=ls.length:=by unfold CY;simp;omega
theorem Vh(ls:List Bs)(i:Nat):∀x∈CY ls i,closed x=true:=by
 intro x hx;unfold CY at hx;rcases HQ.1 hx with hx|hx;·obtain⟨l,_,rfl⟩:=BY.1 hx;rfl
 ·rw[GZ hx];rfl
theorem cR(ls:List Bs)(i:Nat)(h:i<ls.length):(CY ls i).set i (AQ (AB ls[i]))=CY ls (i+1):=by
 unfold CY;obtain⟨k,hk⟩:∃k,ls.length-i=k+1:=⟨ls.length-i-1,by omega⟩
 have lG:ls.length-(i+1)=k:=by omega
 rw[HR (h:=by simp;omega),hk,lG,Af h,Cr]
 simp[II,Nat.min_eq_left (Nat.le_of_lt h)]
theorem YF(ls:List Bs)(i:Nat)(h:i<ls.length):(CY ls i).set (0+((i:Nat):Int).toNat) (AQ (AB ls[i]))=CY ls (i+1):=by
 rw[CM,C0];exact cR ls i h
theorem cT(ls:List Bs)(i:Nat)(h:i<ls.length):(CY ls i)[0+((i:Nat):Int).toNat]?=some (.raw (Value.slice none 0 0)):=by
 rw[CM,C0];unfold CY;rw[F0 (by rw[C2,Fk];omega),List.getElem?_replicate]
 simp;omega
theorem cV(ls:List Bs)(i:Nat)(h:i<ls.length):(CY ls (i+1))[i]?=some (AQ (AB ls[i])):=by
 unfold CY;rw[List.getElem?_append_left (by simp;omega)]
 simp[h]
theorem YG(ls:List Bs)(i:Nat)(h:i<ls.length):(CY ls (i+1))[0+((i:Nat):Int).toNat]?=some (AQ (AB ls[i])):=by
 rw[CM,C0];exact cV ls i h
theorem Jv:∀(l cur:Bs),(Fz cur l).length<=l.length+1
 |[],cur=>by unfold Fz;split<;>simp
 |c::r,cur=>by
  unfold Fz;split
  ·split;·have:=Jv r [];simp;omega
   ·have:=Jv r [];simp;omega
  ·have:=Jv r (cur++[c]);simp;omega
theorem NW(l:Bs):(AB l).length<=l.length+1:=Jv l []
theorem bH(ls:List Bs)(i:Nat)(h:i<ls.length):EK (ls.take (i+1))=EK (ls.take i)+(AB ls[i]).length:=by
 unfold EK;rw[Af h,Cr,List.sum_append];simp
theorem T5:∀{l:List Nat}{n:Nat},n∈l->n<=l.sum
 |x::l,n,h=>by
  rw[Jh];rcases FB.1 h with rfl|h;·omega
  ·have:=T5 h;omega
theorem Ma:∀(ls:List Bs),(∀l∈ls,l.length<=1000)->EK ls<=ls.length*1001
 |[],_=>by simp[EK]
 |l::ls,h=>by
  have:=Ma ls λx hx=>h x (by simp[hx])
  have h1:=NW l;have h2:=h l (by simp)
  unfold EK at*;simp only[Ef,Jh,Fi];omega
abbrev dM(a:Ad)(n:Nat):List AV:=[.str a.pe,.str a.st,.str a.co,.str a.to,.int .i64 a.nu,.own 7 5 0 n]
abbrev HS(a:Ad)(es:List Ad):List HO:=[.dead,.dead,.dead,.cells (dM a es.length),.dead,.dead,.dead,.arr 38 5 (es.map Ad.v)]
theorem A9(es:List Ad):∀x∈es.map Ad.v,closed x=true:=by
 intro x hx;obtain⟨y,_,rfl⟩:=BY.1 hx;rfl
theorem oP(a:Ad)(es:List Ad)(hl:es.length<=1000):F7 Tryz.prog 55 [.ptr 3 0] (HS a es) (λr H=>r=.tuple []/\H=HS a (es++[a])) (λ_ _=>False):=by
 refine F7.A3 Tryz.func55 rfl Ag (by kernel_rfl) rfl ?_
 conv=>whnf
 repeat(refine sT rfl ?_;conv=>whnf)
 refine Aa.Ry [31] [32,35] Ag mO (by kernel_rfl) ?_
 conv=>whnf
 refine⟨⟨by simp,by simp;omega⟩,?_⟩
 refine kW ?_;have e:es.map Ad.v++[AV.agg [.str a.pe,.str a.st,.int .i64 a.nu,.str a.co,.str a.to]]=(es++[a]).map Ad.v:=by rw[Cr];rfl
 rw[e];have e2:((es++[a]).map Ad.v).length=(es++[a]).length:=C2 ..;rw[e2];refine⟨A9 _,?_⟩;conv=>whnf
 exact⟨rfl,rfl⟩
theorem eI(a:Ad)(es:List Ad)(p:Pt)(w:Bs)(hw:w.length<=20)(yD:∀c∈w,c.toNat<128)(ht:p.t.length<=20)(hta:∀c∈p.t,c.toNat<128):F7 Tryz.prog 84 [.ptr 3 0,.str p.t,AQ [w]] (HS a es) (λr H=>r=.bool (decide (CF w=CF p.t))/\H=HS a es) (λ_ _=>False):=by
 refine F7.A3 Tryz.func84 rfl Ag (by kernel_rfl) rfl ?_
 conv=>whnf
 repeat(refine sT rfl ?_;conv=>whnf)
 refine⟨by omega,_,rfl,?_⟩
 refine kW ?_;refine kC (N3 w (by omega) yD) ?_
 refine kC (N3 p.t (by omega) hta) ?_
 refine⟨A9 _,?_⟩;conv=>whnf
 refine⟨congrArg AV.bool ?_,rfl⟩;rw[Bm];simp
theorem eH(a:Ad)(es:List Ad)(p:Pt)(w:Bs)(A7:1<=w.length)(hw:w.length<=20):F7 Tryz.prog 86 [.ptr 3 0,.str p.t,AQ [w]] (HS a es) (λr H=>r=.bool (Et w)/\H=HS ⟨a.pe,a.st,if Et w then Km w else 0,a.co,a.to⟩ es) (λ_ _=>False):=by
 refine F7.A3 Tryz.func86 rfl Ag (by kernel_rfl) rfl ?_
 conv=>whnf
 repeat(refine sT rfl ?_;conv=>whnf)
 refine⟨by omega,_,rfl,?_⟩
 refine kW ?_;refine kC (Qm w A7 (by omega)) ?_
 refine⟨A9 _,?_⟩;conv=>whnf
 exact⟨rfl,rfl⟩
theorem eG(a:Ad)(es:List Ad)(p:Pt)(w:Bs)(hw:w.length<=20)(yD:∀c∈w,c.toNat<128):F7 Tryz.prog 88 [.ptr 3 0,.str p.t,AQ [w]] (HS a es) (λr H=>r=.bool (Ce w p.t)/\H=HS ⟨a.pe,a.st,a.nu,qU w,a.to⟩ es) (λ_ _=>False):=by
 refine F7.A3 Tryz.func88 rfl Ag (by kernel_rfl) rfl ?_
 conv=>whnf
 repeat(refine sT rfl ?_;conv=>whnf)
 refine⟨by omega,_,rfl,?_⟩
 refine kW ?_;refine kC (N2 w (by omega) yD) ?_
 refine⟨by omega,_,rfl,?_⟩
 refine kW ?_;refine kC (OM w p.t (by omega)) ?_
 refine⟨A9 _,?_⟩;conv=>whnf
 exact⟨rfl,rfl⟩
theorem eF(a:Ad)(es:List Ad)(p:Pt)(l:List Bs)(hl:l.length<=1000)(hj:(Lib.join l [32]).length<=100000):F7 Tryz.prog 91 [.ptr 3 0,.str p.t,AQ l] (HS a es) (λr H=>r=.lit true/\H=HS ⟨a.pe,Lib.join l [32],a.nu,a.co,a.to⟩ es) (λ_ _=>False):=by
 refine F7.A3 Tryz.func91 rfl Ag (by kernel_rfl) rfl ?_
 conv=>whnf
 repeat(refine sT rfl ?_;conv=>whnf)
 refine kC (FV l (by omega) (by omega)) ?_
 refine⟨A9 _,?_⟩;conv=>whnf
 exact⟨rfl,rfl⟩
theorem eE(a:Ad)(es:List Ad)(p:Pt)(l:List Bs)(hl:l.length<=1000)(hj:(Lib.join l [32]).length<=100000):F7 Tryz.prog 92 [.ptr 3 0,.str p.t,AQ l] (HS a es) (λr H=>r=.lit true/\H=HS ⟨a.pe,a.st,a.nu,a.co,Lib.join l [32]⟩ es) (λ_ _=>False):=by
 refine F7.A3 Tryz.func92 rfl Ag (by kernel_rfl) rfl ?_
 conv=>whnf
 repeat(refine sT rfl ?_;conv=>whnf)
 refine kC (FV l (by omega) (by omega)) ?_
 refine⟨A9 _,?_⟩;conv=>whnf
 exact⟨rfl,rfl⟩
theorem eD(a:Ad)(es:List Ad)(p:Pt)(l:List Bs)(hl:l.length<=1000)(hj:(Lib.join l [32]).length<=100000):F7 Tryz.prog 93 [.ptr 3 0,.str p.t,AQ l] (HS a es) (λr H=>r=.lit true/\H=HS ⟨Lib.join l [32],a.st,a.nu,a.co,a.to⟩ es) (λ_ _=>False):=by
 refine F7.A3 Tryz.func93 rfl Ag (by kernel_rfl) rfl ?_
 conv=>whnf
 repeat(refine sT rfl ?_;conv=>whnf)
 refine kC (FV l (by omega) (by omega)) ?_
 refine⟨A9 _,?_⟩;conv=>whnf
 exact⟨rfl,rfl⟩
theorem SJ(c:UInt8)(hc:Ej c=true)(r:Bs):∀(x cur:Bs),Fz cur (x++c::r)=Fz cur x++Fz [] r
 |[],cur=>by
  rw[FZ,Fz,Fz,if_pos hc];by_cases h:cur=[];·rw[if_pos h,if_pos h];rfl
  ·rw[if_neg h,if_neg h];rfl
 |d::x,cur=>by
  rw[List.cons_append,Fz,Fz];by_cases h:Ej d=true
  ·rw[if_pos h,if_pos h,SJ c hc r x []];by_cases h2:cur=[];·rw[if_pos h2,if_pos h2]
   ·rw[if_neg h2,if_neg h2];rfl
  ·rw[if_neg h,if_neg h,SJ c hc r x (cur++[d])]
theorem VQ(x r:Bs)(c:UInt8)(hc:Ej c=true):AB (x++c::r)=AB x++AB r:=SJ c hc r x []
def isW(w:Bs):Prop:=w≠[]/\∀c∈w,Ej c=false
theorem IT{w:Bs}(h:isW w):AB w=[w]:=by
 have:=PD w [] [] h.2;rw[C1,FZ]at this;unfold AB;rw[this,Fz,if_neg h.1]
theorem Hw(a b:Bs)(l:List Bs):Lib.join (a::b::l) [32]=a++32::Lib.join (b::l) [32]:=by
 simp[Lib.join,Lib.joinTail]
theorem SL:∀(l:List Bs),(∀w∈l,isW w)->AB (Lib.join l [32])=l
 |[],_=>by simp[Lib.join,AB,Fz]
 |[a],h=>by
  have:Lib.join [a] [32]=a:=by simp[Lib.join,Lib.joinTail]
  rw[this];exact IT (h a (by simp))
 |a::b::l,h=>by
  rw[Hw,VQ _ _ _ (by decide),IT (h a (by simp)),SL (b::l) λw hw=>h w (by simp[hw])]
  rfl
theorem SF{w:Bs}(h:DL w=true):isW w:=by
 unfold DL at h;simp only[Ax,decide_eq_true_eq]at h;refine⟨λh0=>by rw[h0]at h;simp at h,λc hc=>?_⟩
 have hf:=Bl.1 h.2 c hc;simp only[IK,DF,BJ,F6,Dg,DG,Ax,decide_eq_true_eq]at hf;unfold Ej;simp;omega
structure xS(p:Pt)(l:List Bs)(x:Ad):Prop where
 ne:l≠[]
 le:l.length<=Cy p
 ok:Q7 p l=true
 h2:p.k=2->x.nu=Km (l.headD [])
 h3:p.k=3->x.co=qU (l.headD [])
 h4:p.k=4->x.st=Lib.join l [32]
 h5:p.k=5->x.to=Lib.join l [32]
 h6:p.k=6->x.pe=Lib.join l [32]
def Zbt:List Pt->List Bs->Ad->Prop
 |[],ws,_=>ws=[]
 |p::ps,ws,x=>∃l r,ws=l++r/\xS p l x/\Zbt ps r x
def xT:List (List Pt)->List (List Bs)->Ad->Prop
 |[],W,_=>W=[]
 |l::ls,W,x=>∃w V,W=w::V/\Zbt l w x/\xT ls V x
theorem tD{p:Pt}{l:List Bs}{R:List Pt}{a x:Ad}(hg:p.k=1\/p.k=2\/p.k=3\/p.k=4\/p.k=5\/p.k=6)(h:HN (p::R) a x)(t:xS p l x):HN R (Df p l a) x:=by
 have ho:=t.ok;unfold Q7 at ho;unfold Df
 rcases hg with hk|hk|hk|hk|hk|hk<;>simp only[hk]at ho ⊢<;>constructor<;>intro y<;>first
  |exact h.nu (BT (by omega) y)
  |exact h.co (BT (by omega) y)
  |exact h.st (BT (by omega) y)
  |exact h.to (BT (by omega) y)
  |exact h.pe (BT (by omega) y)
  |exact(t.h3 hk).symm
  |exact(t.h4 hk).symm
  |exact(t.h5 hk).symm
  |exact(t.h6 hk).symm
  |(rw[t.h2 hk];have ho:Et (l.headD [])=true:=ho;rw[ho];rfl)
theorem S2(R:List Pt):∀(ps:List Pt)(ws:List Bs)(a x:Ad),Ih ps->Zbt ps ws x->HN (ps++R) a x->∃b∈Er ps ws a,HN R b x
 |[],ws,a,x,_,h,hA=>by
  have h:ws=[]:=h;subst h;exact⟨a,by show a∈[a];simp,hA⟩
 |p::ps,ws,a,x,hg,⟨l,r,e,t1,t2⟩,hA=>by
  have hl:=I0.2 t1.ne;have hle:=t1.le;obtain⟨b,hb,hR⟩:=S2 R ps r (Df p l a) x (λq hq=>hg q (by simp[hq])) t2 (tD (hg p (by simp)) hA t1)
  refine⟨b,?_,hR⟩;rw[EE];refine Kr.2 ⟨l.length-1,List.mem_range.2 ?_,?_⟩;·rw[e,CL];omega
  ·unfold Kb;have e1:l.length-1+1=l.length:=by omega
   rw[e1,e,List.take_left,List.drop_left,if_pos t1.ok];exact hb
theorem S3:∀(ls:List (List Pt)) (W:List (List Bs)) (a x:Ad),Ih ls.flatten->xT ls W x->HN ls.flatten a x->x∈ER ls W a
 |[],W,a,x,_,h,hA=>by
  have h:W=[]:=h;subst h;have e:a=x:=HN.nil (by simpa using hA)
  rw[<-e];show a∈[a]
  simp
 |l::ls,W,a,x,hg,⟨w,V,e,t1,t2⟩,hA=>by
  subst e;rw[C4]at hg hA;obtain⟨b,hb,hR⟩:=S2 ls.flatten l w a x (λq hq=>hg q (Fy _ hq)) t1 hA
  exact Kr.2 ⟨b,hb,S3 ls V b x (λq hq=>hg q (E8 _ hq)) t2 hR⟩
theorem _root_.Go.Av.F7.lits{P:Go.Program}{f:Go.FuncId}{args:List AV}{H0:List HO}{R':Bool->List HO->Prop}{X:AV->List HO->Prop}(h:F7 P f args H0 (λr H=>∃b,(r=.lit b\/r=.bool b)/\R' b H) X):
  F7 P f args H0 (λr H=>∃b,r=.bool b/\R' b H) X:=
 ⟨h.Eh,λC mu w vs h1 h2 h3=>(h.out C mu w vs h1 h2 h3).mono λe w' hp=>by
  obtain⟨r,v,H1,C',mu',ho,hp,hh,hr,rest⟩:=hp
  rcases ho with⟨he,b,hb,hR⟩|⟨he,hX⟩
  ·refine⟨.bool b,v,H1,C',mu',.inl ⟨he,b,rfl,hR⟩,hp,hh,?_,rest⟩
   rcases hb with rfl|rfl<;>(unfold Ah at*;exact hr)
  ·exact⟨r,v,H1,C',mu',.inr ⟨he,hX⟩,hp,hh,hr,rest⟩⟩
theorem _root_.Go.Av.F7.mP{P:Go.Program}{f:Go.FuncId}{args:List AV}{H0:List HO}{R R':AV->List HO->Prop}{X:AV->List HO->Prop}(h:F7 P f args H0 R X)(hR:∀r H,R r H->R' r H):F7 P f args H0 R' X:=
 ⟨h.Eh,λC mu w vs h1 h2 h3=>(h.out C mu w vs h1 h2 h3).mono λe w' hp=>by
  obtain⟨r,v,H1,C',mu',ho,rest⟩:=hp
  exact⟨r,v,H1,C',mu',ho.imp (λ⟨x,y⟩=>⟨x,hR _ _ y⟩) id,rest⟩⟩
def gP(p:Pt):Nat:=if p.k=1 then 84 else if p.k=2 then 86 else if p.k=3 then 88 else if p.k=4 then 91 else if p.k=5 then 92 else 93
theorem wF(p:Pt)(h:p.k=1\/p.k=2\/p.k=3\/p.k=4\/p.k=5\/p.k=6):Qg (.int .i64 p.k) [.int .i64 1,.int .i64 2,.int .i64 3,.int .i64 4,.int .i64 5,.int .i64 6]
 [.agg [.int .i64 1,.fn 84 []],.agg [.int .i64 1,.fn 86 []],.agg [.int .i64 1,.fn 88 []],
  .agg [.int .i64 4,.fn 91 []],.agg [.int .i64 4,.fn 92 []],.agg [.int .i64 4,.fn 93 []]]=some (.agg [.int .i64 (Cy p:Nat),.fn (gP p) []]):=by
 unfold Cy gP;rcases h with h|h|h|h|h|h<;>rw[h]<;>rfl
theorem Jl{w:Bs}(h:DL w=true):(1<=w.length/\w.length<=20)/\∀c∈w,c.toNat<128:=by
 unfold DL at h;simp only[Ax,decide_eq_true_eq]at h;exact⟨h.1,λc hc=>gZ (Bl.1 h.2 c hc)⟩
theorem TR{p:Pt}{l:List Bs}(hk:p.k=1\/p.k=2\/p.k=3)(h1:1<=l.length)(h2:l.length<=Cy p):∃w,l=[w]:=by
 unfold Cy at h2;rw[if_pos hk]at h2;match l,h1,h2 with
 |[w],_,_=>exact⟨w,rfl⟩
 |_::_::_,_,h2=>simp at h2
theorem kO(p:Pt):Cy p<=4:=by unfold Cy;split<;>omega
theorem eB(p:Pt)(hp:BV p=true)(a:Ad)(es:List Ad)(l:List Bs)(h1:1<=l.length)(h2:l.length<=Cy p)(hf:∀x∈l,DL x=true):
  F7 Tryz.prog (gP p) [.ptr 3 0,.str p.t,AQ l] (HS a es) (λr H=>∃b,r=.bool b/\(b=Q7 p l/\H=HS (Df p l a) es)) (λ_ _=>False):=by
 refine F7.lits ?_;have Va:=OU [32] 20 l λx hx=>(Jl (hf x hx)).1.2
 have hl4:=kO p
 have ZaO:(Lib.join l [32]).length<=100000:=by
  refine E1 Va ?_;have:l.length*(20+([32]:Bs).length)<=4*(20+([32]:Bs).length):=H4 _ (by omega)
  simp only[Fi,FY]at this;simp only[Fi,FY];omega
 rcases C6 hp with hk|hk|hk|hk|hk|hk
 ·obtain⟨w,rfl⟩:=TR (.inl hk) h1 h2;have hw:=Jl (hf w (by simp))
  have ht:DL p.t=true:=by unfold BV at hp;rwa [if_pos hk]at hp
  have ht:=Jl ht;have h:=eI a es p w hw.1.2 hw.2 ht.1.2 ht.2;have hg:gP p=84:=by unfold gP;rw[hk];rfl
  have ho:Q7 p [w]=decide (CF w=CF p.t):=by unfold Q7;rw[hk];rfl
  have hu:Df p [w] a=a:=by unfold Df;rw[hk];rfl
  rw[hg,ho,hu];exact h.mP λr H ⟨x,y⟩=>⟨_,.inr x,rfl,y⟩
 ·obtain⟨w,rfl⟩:=TR (.inr (.inl hk)) h1 h2;have hw:=Jl (hf w (by simp))
  have h:=eH a es p w hw.1.1 hw.1.2;have hg:gP p=86:=by unfold gP;rw[hk];rfl
  have ho:Q7 p [w]=Et w:=by unfold Q7;rw[hk];rfl
  have hu:Df p [w] a=⟨a.pe,a.st,if Et w then Km w else 0,a.co,a.to⟩:=by unfold Df;rw[hk];rfl
  rw[hg,ho,hu];exact h.mP λr H ⟨x,y⟩=>⟨_,.inr x,rfl,y⟩
 ·obtain⟨w,rfl⟩:=TR (.inr (.inr hk)) h1 h2;have hw:=Jl (hf w (by simp))
  have h:=eG a es p w hw.1.2 hw.2;have hg:gP p=88:=by unfold gP;rw[hk];rfl
  have ho:Q7 p [w]=Ce w p.t:=by unfold Q7;rw[hk];rfl
  have hu:Df p [w] a=⟨a.pe,a.st,a.nu,qU w,a.to⟩:=by unfold Df;rw[hk];rfl
  rw[hg,ho,hu];exact h.mP λr H ⟨x,y⟩=>⟨_,.inr x,rfl,y⟩
 ·have h:=eF a es p l (by omega) ZaO
  have hg:gP p=91:=by unfold gP;rw[hk];rfl
  have ho:Q7 p l=true:=by unfold Q7;rw[hk];rfl
  have hu:Df p l a=⟨a.pe,Lib.join l [32],a.nu,a.co,a.to⟩:=by unfold Df;rw[hk];rfl
  rw[hg,ho,hu];exact h.mP λr H ⟨x,y⟩=>⟨_,.inl x,rfl,y⟩
 ·have h:=eE a es p l (by omega) ZaO
  have hg:gP p=92:=by unfold gP;rw[hk];rfl
  have ho:Q7 p l=true:=by unfold Q7;rw[hk];rfl
  have hu:Df p l a=⟨a.pe,a.st,a.nu,a.co,Lib.join l [32]⟩:=by unfold Df;rw[hk];rfl
  rw[hg,ho,hu];exact h.mP λr H ⟨x,y⟩=>⟨_,.inl x,rfl,y⟩
 ·have h:=eD a es p l (by omega) ZaO
  have hg:gP p=93:=by unfold gP;rw[hk];rfl
  have ho:Q7 p l=true:=by unfold Q7;rw[hk];rfl
  have hu:Df p l a=⟨Lib.join l [32],a.st,a.nu,a.co,a.to⟩:=by unfold Df;rw[hk];rfl
  rw[hg,ho,hu];exact h.mP λr H ⟨x,y⟩=>⟨_,.inl x,rfl,y⟩
abbrev xD:List AV:=[.ptr 0 0,.ptr 4 0,.ptr 2 0,.ptr 6 0,.ptr 5 0]
abbrev HD(f:Fm)(W:List (List Bs))(a:Ad)(es:List Ad):List HO:=
 [.cells [.str f.name,.sl 1 (f.lines.map CP)],.dead,.cells [.sl 1 (W.map AQ)],.cells (dM a es.length),.cells [.ptr 3 0],.cells [JS],.cells [.fn 54 xD],.arr 38 5 (es.map Ad.v)]
abbrev HL(f:Fm)(W:List (List Bs))(p:Pt)(a:Ad)(es:List Ad):List HO:=
 [.cells [.str f.name,.sl 1 (f.lines.map CP)],.dead,.cells [.sl 1 (W.map AQ)],.cells (dM a es.length),.cells [.ptr 3 0],.cells [JS],.cells [.fn 54 xD],.arr 38 5 (es.map Ad.v),
  .cells [.int .i64 p.k,.str p.t],.cells [.int .i64 (Cy p:Nat),.fn (gP p) []]]
theorem VH(g:Nat->List Ad)(m:Nat):∀N,m<=N->((G1 m).flatMap g).length<=((G1 N).flatMap g).length:=by
 intro N;induction N with
 |zero=>intro h;rw[Nat.le_zero.1 h];exact Ix _
 |succ N ih=>
  intro h;by_cases h2:m<=N
  ·rw[KA (n:=N),Jg,CL];have:=ih h2;omega
  ·rw[show m=N+1 by omega];exact Ix _
def dZ(F:List (List Pt))(i:Nat):Nat:=((F.drop i).map λl=>l.length+1).sum
theorem zY{F:List (List Pt)}{i:Nat}(h:i<F.length):dZ F i=F[i].length+1+dZ F (i+1):=by
 unfold dZ;rw[BM h,Ef,Jh]
structure Zcq(f:Fm)(W:List (List Bs)):Prop where
 s:QO f
 p:∀l∈f.lines,∀p∈l,BV p=true
 e:f.lines.length=W.length
 w:∀l∈W,∀x∈l,DL x=true
 n:∀l∈W,l.length<=1000
def Zhw(f:Fm)(W:List (List Bs))(i j w:Nat)(a:Ad)(es:List Ad):Prop:=
 F7 Tryz.prog 54 ([.int .i64 i,.int .i64 j,.int .i64 w]++xD) (HD f W a es) (λr H=>r=.tuple []/\∃a',HN (dY f.lines i j) a a'/\H=HD f W a' (es++Ik f.lines W i j w a)) (λ_ _=>False)
theorem bG(f:Fm)(W:List (List Bs))(hd:Zcq f W):∀(n i j w:Nat)(a:Ad)(es:List Ad),dZ f.lines i-j=n->i<=f.lines.length->(∀h:i<f.lines.length,j<=f.lines[i].length/\w<=(W[i]'(by have:=hd.e;omega)).length)->
  es.length+(Ik f.lines W i j w a).length<=1000->Zhw f W i j w a es:=by
 intro n;induction n using KF with
 |_ n ih=>
  intro i j w a es hn hi hin cI;have cH:=hd.s.l;have yM:(f.lines.map CP).length=f.lines.length:=by simp
  unfold Zhw;refine F7.A3 Tryz.func54 rfl Ag (by kernel_rfl) rfl ?_
  conv=>whnf
  repeat(refine sT rfl ?_;conv=>whnf)
  refine⟨λh1=>?_,λh1=>?_⟩
  ·have h1:i=f.lines.length:=by simp at h1;omega
   rw[QA (by omega)]at cI
   rw[QA (by omega)]
   refine kW ?_;refine Aj.tT (oP a es (by simp at cI;omega)) rfl ⟨rfl,rfl,rfl,A9 _,trivial⟩ ?_ (λ_ _ h=>h.elim)
   rintro r H1 ⟨rfl,rfl⟩;refine kW ?_;refine⟨A9 _,?_⟩;conv=>whnf
   exact⟨rfl,a,HN.refl _ _,rfl⟩
  ·have h1:i<f.lines.length:=by simp at h1;omega
   have h1W:i<W.length:=by have:=hd.e;omega
   obtain⟨hj,hw⟩:=hin h1;have hLl:=hd.s.l2 _ (Ak h1);have hWl:=hd.n _ (Ak h1W);have hLg:=EV f i h1;have hWg:=kV W i h1W;have Zjj:=zY h1;have hfd:=λj w a=>aS (j:=j) (w:=w) h1 h1W a
   have hrp:=λj=>kA (j:=j) h1
   have hgk:Ih f.lines.flatten:=λq hq=>by
    obtain⟨l,hl,hq⟩:=C3.1 hq;exact C6 (hd.p l hl q hq)
   rw[Zjj]at hn;rw[hfd]at cI;rw[hfd,hrp];have hpL:=hd.p _ (Ak h1);have htL:=hd.s.t _ (Ak h1);have hfW:=hd.w _ (Ak h1W);generalize hLe:f.lines[i]=L at*;generalize hYe:W[i]=Y at*;refine kW ?_;refine⟨by omega,_,hLg,?_⟩
   refine kW ?_;refine⟨λh2=>?_,λh2=>?_⟩
   ·have h2:j=L.length:=by simp at h2;omega
    subst h2;rw[Ds,FZ];rw[Ds]at cI;refine kW ?_;refine⟨by omega,_,hWg,?_⟩
    refine kW ?_;refine⟨λh3=>?_,λh3=>?_⟩
    ·have h3:w=Y.length:=by simp at h3;omega
     subst h3;rw[Ds];rw[Ds]at cI;have A7:=D4 i (by omega)
     have hnx:=Uz hd.e (i+1) (by omega) a
     have hrn:=nP (F:=f.lines) (i+1) (by omega)
     have e0:(Er [] [] a).flatMap (ER (f.lines.drop (i+1)) (W.drop (i+1)))=Ik f.lines W (i+1) 0 0 a:=by rw[hnx];show List.flatMap _ [a]=_;simp
     rw[e0]at cI;rw[e0,<-hrn];refine kW ?_;rw[A7];refine Aj.tT (ih (dZ f.lines (i+1)-0) (by omega) (i+1) 0 0 a es rfl (by omega) (λh=>⟨BW _,BW _⟩) cI) rfl ⟨rfl,rfl,rfl,rfl,rfl,rfl,rfl,rfl,rfl,rfl,rfl,rfl,rfl,A9 _,trivial⟩ ?_ (λ_ _ h=>h.elim)
     rintro r H1 ⟨rfl,a',gR,rfl⟩;refine kW ?_;refine⟨A9 _,?_⟩;conv=>whnf
     exact⟨rfl,a',gR,rfl⟩
    ·have e0:Er [] (Y.drop w) a=[]:=by
      have h4:w<Y.length:=by
       have:¬w=Y.length:=λe=>by subst e;simp at h3
       omega
      rw[BM h4];rfl
     rw[e0,Kw,C1];refine kW ?_;refine⟨A9 _,?_⟩;conv=>whnf
     exact⟨rfl,a,HN.refl _ _,rfl⟩
   ·have h2:j<L.length:=by simp at h2;omega
    refine kW ?_;refine⟨by omega,_,hLg,?_⟩
    refine kW ?_;refine⟨by omega,_,EA L j h2,?_⟩
    have Z8:=hpL _ (Ak h2);have htp:=htL _ (Ak h2);have hdr:L.drop j=L[j]::L.drop (j+1):=BM h2;rw[hdr]at cI;rw[hdr];generalize L[j]=p at*;generalize qZ:L.drop (j+1)=ps at*;refine kW ?_;have hk:=wF p (C6 Z8);refine⟨λx hx=>?_,λe=>absurd (hk.symm.trans e) (by simp),λv hv=>?_⟩
    ·simp only[FB,List.not_mem_nil,or_false]at hx;rcases hx with rfl|rfl|rfl|rfl|rfl|rfl<;>rfl
    obtain rfl:=G2.inj (hk.symm.trans hv);clear hv;refine kW ?_;have hyl:(Y.drop w).length=Y.length-w:=List.length_drop;rw[EE]at cI;rw[EE];rw[hyl,Ji]at cI;rw[hyl,Ji];generalize hg:(λx=>(Kb p ps (Y.drop w) a x).flatMap (ER (f.lines.drop (i+1)) (W.drop (i+1))))=g at*
    have ZmI:=kO p
    refine Aa.Aw (λx:Nat×Ad×List Ad=>mk 94 [(0,.int .i64 i),(1,.int .i64 j),(2,.int .i64 w),(3,.ptr 0 0),(4,.ptr 4 0),(5,.ptr 2 0),(6,.ptr 6 0),(7,.ptr 5 0),(11,.ptr 8 0),(12,.ptr 9 0),(13,.int .i64 ((x.1+1:Nat):Int))])
     (λx=>HL f W p x.2.1 x.2.2)
     (λx=>x.1<=min (Cy p) (Y.length-w)/\HN (p::ps++(f.lines.drop (i+1)).flatten) a x.2.1/\x.2.2=es++(G1 x.1).flatMap g) (λx=>5-x.1) (λx _=>⟨rfl,rfl,rfl,rfl,rfl,rfl,rfl,A9 _,rfl,rfl,trivial⟩) ⟨(0,a,es),?_⟩ (λ_=>rfl) ?_
    ·refine kQ ?_;exact⟨HN.refl _ _,by simp⟩
    ·rintro⟨m,b,fs⟩ ⟨hm,pH,hfs⟩;simp only at hm pH hfs;dsimp only;have hmY:Y.length<=1000:=hWl;have ZbV:m=min (Cy p) (Y.length-w)->HN (p::ps++(f.lines.drop (i+1)).flatten) a b/\fs=es++(G1 (min (Cy p) (Y.length-w))).flatMap g:=λe=>⟨pH,by rw[<-e];exact hfs⟩
     refine kR ?_;refine⟨λh3=>?_,λh3=>?_⟩
     ·have h3:m+1<=Cy p:=by have:=of_decide_eq_true h3;omega
      have A7:Wr .i64 ((w:Int)+((m+1:Nat):Int))=((w+m+1:Nat):Int):=by rw[Em (by omega)];omega
      refine kW ?_;refine⟨by omega,_,hWg,?_⟩
      refine kW ?_;rw[A7];refine⟨λh4=>?_,λh4=>?_⟩
      ·have h4:w+m+1<=Y.length:=by have:=of_decide_eq_true h4;rw[Cu]at this;omega
       refine kW ?_
       refine Aa.draw [14] Ag mO (by kernel_rfl) ?_
       conv=>whnf
       refine⟨by omega,_,hWg,?_⟩
       conv=>whnf
       have fY:List.drop ((w:Nat):Int).toNat (List.take (((w+m+1:Nat):Nat):Int).toNat (strs Y))=strs ((Y.drop w).take (m+1)):=by
        simp only[C0,strs,List.map_take,List.map_drop]
        rw[List.drop_take,show w+m+1-w=m+1 by omega]
       rw[A7,fY]
       refine⟨⟨by omega,by omega,by rw[Cu];omega⟩,?_⟩
       conv=>whnf
       have ZmO:((Y.drop w).take (m+1)).length=m+1:=by rw[Fk,hyl];omega
       have Fl:∀x∈(Y.drop w).take (m+1),DL x=true:=λx hx=>hfW x (List.mem_of_mem_drop (Is hx))
       have hgm:g m=(Kb p ps (Y.drop w) a m).flatMap (ER (f.lines.drop (i+1)) (W.drop (i+1))):=by rw[<-hg]
       unfold Kb at hgm
       rw[List.drop_drop,show w+(m+1)=w+m+1 by omega]at hgm
       have Zdn:=qZ
       generalize (Y.drop w).take (m+1)=l at*
       have Z9:=C6 Z8
       have PC:HN (p::ps++(f.lines.drop (i+1)).flatten) b (Df p l b):=(tE Z9).mono (by simp)
       have G0:HN (ps++(f.lines.drop (i+1)).flatten) (Df p l a) (Df p l b):=kE Z9 pH
       have hrm:=KA (n:=m)
       have Uo:(G1 (m+1)).flatMap g=(G1 m).flatMap g++g m:=by rw[hrm,Jg];simp
       have hle:=VH g (m+1) (min (Cy p) (Y.length-w)) (by omega)
       rw[Uo]at hle
       have E5:Wr .i64 (((m+1:Nat):Int)+1)=((m+1+1:Nat):Int):=by rw[Em (by omega)];rfl
       have fX:=D4 j (by omega)
       refine Aj.tT (eB p Z8 b fs l (by omega) (by omega) Fl) rfl ⟨rfl,rfl,rfl,A9 _,trivial⟩ ?_ (λ_ _ h=>h.elim)
       rintro r H1 ⟨bb,rfl,rfl,rfl⟩
       refine kW ?_
       refine⟨λh5=>?_,λh5=>?_⟩
       ·rw[if_pos h5]at hgm
        have ZgP:g m=Ik f.lines W i (j+1) (w+m+1) (Df p l b):=by
         rw[hgm,<-pS hd.e hgk (i:=i) (j:=j+1) (w:=w+m+1) (a:=Df p l a) (by rw[hrp,Zdn];exact G0),hfd,Zdn]
        have Bq:HN (p::ps++(f.lines.drop (i+1)).flatten) a (Df p l b):=pH.trans PC
        have hbd:fs.length+(Ik f.lines W i (j+1) (w+m+1) (Df p l b)).length<=1000:=by
         rw[<-ZgP,hfs];rw[CL]at hle ⊢
         omega
        have hIH:=ih (dZ f.lines i-(j+1)) (by omega) i (j+1) (w+m+1) (Df p l b) fs rfl hi (λh=>⟨by rw[hLe];omega,by rw[hYe];omega⟩) hbd
        refine kW ?_
        rw[fX,A7]
        refine Aj.tT hIH rfl ⟨rfl,rfl,rfl,rfl,rfl,rfl,rfl,rfl,rfl,rfl,rfl,rfl,rfl,A9 _,trivial⟩ ?_ (λ_ _ h=>h.elim)
        rintro r H1 ⟨rfl,c,hc,rfl⟩
        rw[hrp,Zdn]at hc
        refine kW ?_
        refine⟨(m+1,c,fs++Ik f.lines W i (j+1) (w+m+1) (Df p l b)),?_⟩
        refine CV E5 ?_
        dsimp only
        refine⟨⟨by omega,Bq.trans (hc.mono λq hq=>List.mem_cons_of_mem _ hq),?_⟩,by omega⟩
        rw[Uo,<-EI,<-hfs,<-ZgP]
       ·rw[if_neg (by rw[h5];simp)]at hgm
        refine kW ?_
        refine⟨(m+1,Df p l b,fs),?_⟩
        refine CV E5 ?_
        dsimp only
        refine⟨⟨by omega,pH.trans PC,?_⟩,by omega⟩
        rw[Uo,hgm,Kw,C1]
        exact hfs
      ·have h4:Y.length<w+m+1:=by have:=of_decide_eq_false h4;rw[Cu]at this;omega
       obtain⟨Vv,rfl⟩:=ZbV (by omega)
       refine kW ?_
       refine⟨A9 _,?_⟩
       conv=>whnf
       exact⟨rfl,b,Vv,rfl⟩
     ·have h3:Cy p<m+1:=by have:=of_decide_eq_false h3;omega
      obtain⟨Vv,rfl⟩:=ZbV (by omega)
      refine kW ?_;refine⟨A9 _,?_⟩;conv=>whnf
      exact⟨rfl,b,Vv,rfl⟩
def Br(f:Fm)(ls:List Bs):List Ad×Int:=
 if A1 f=true then
  if EK ls<=40 then
   if ls.length=f.lines.length/\Fu (ls.map AB)=true then (ER f.lines (ls.map AB) HT,0)else ([],0)
  else ([],2)
 else ([],1)
theorem JO(f:Fm)(ls:List Bs)(hf:QO f)(hl:ls.length<=1000)(ND:∀l∈ls,l.length<=1000):AO Tryz.prog 26 [f.v,AQ ls]
  (λr=>r=.tuple [.sl 5 ((Br f ls).1.map Ad.v),.int .i64 (Br f ls).2]):=by
 refine kB Tryz.func26 rfl ?_;refine kC (Ct f hf.n hf.t hf.l hf.l2) ?_;refine⟨λh1=>?_,λh1=>?_⟩
 ·have h1:A1 f=false:=by simpa using h1
  have hR:Br f ls=([],1):=by unfold Br;rw[h1];rfl
  rw[hR];refine kW ?_;refine⟨5,?_⟩;conv=>whnf
  rfl
 ·have h1:A1 f=true:=by simpa using h1
  have hp:=HW h1;have fY:(strs ls).length=ls.length:=Cu ls;have yM:(f.lines.map CP).length=f.lines.length:=by simp
  refine kW ?_;refine⟨⟨by omega,by omega,by omega⟩,?_⟩
  refine kW ?_;refine Aa.Aw (λi:Nat=>mk 62 [(1,AQ ls),(2,.ptr 0 0),(4,.raw (Value.slice none 0 0)),(5,.int .i64 0),(6,.ptr 2 0),(7,.int .i64 (EK (ls.take i))),(19,AQ ls),(20,.int .i64 ls.length),(21,.int .i64 i)]) (λi=>[.cells [.str f.name,.sl 1 (f.lines.map CP)],.arr 25 1 (CY ls i),.cells [.own 1 1 0 ls.length]]) (λi=>i<=ls.length) (λi=>ls.length-i) (λ_ _=>⟨rfl,rfl,Vh _ _,rfl,trivial⟩) ⟨0,?_⟩ (λ_=>rfl) λi hi=>?_
  ·conv=>whnf
   repeat(refine A0 ?_ ?_;(focus (first|rfl|(simp;done)|(first|exact congrArg (AV.int .i64) (by omega)|exact congrArg (AV.own 1 1 0) (by simp)|(refine congrArg (HO.arr _ 1) ?_;simp[CY];done)|(refine congrArg HO.cells ?_;simp;done);done)));conv=>whnf)
   refine⟨?_,BW _⟩;have e1:((strs ls).length:Int).toNat=ls.length:=by simp
   rw[e1];have e2:CY ls 0=Cg ls.length (.raw (Value.slice none 0 0)):=by simp[CY]
   rw[e2]
  ·refine kR ?_;refine⟨λh=>?_,λh=>?_⟩
   ·have h:i<ls.length:=by simp at h;omega
    have A7:=D4 i (by omega)
    refine kW ?_;refine⟨by omega,_,Ep ls i h,?_⟩
    refine kW ?_;have hwl:=cU ls i hi;have hli:=ND _ (Ak h);refine Aa.draw [5] Ag mO (by kernel_rfl) ?_
    conv=>whnf
    refine⟨_,⟨cQ ls[i] (by omega),rfl⟩,?_⟩
    conv=>whnf
    refine⟨⟨by omega,by omega⟩,?_⟩
    refine kW ?_;refine⟨_,cT ls i h,?_⟩;conv=>whnf
    rw[YF ls i h];refine kW ?_;refine⟨⟨by omega,by omega⟩,?_⟩
    refine kW ?_;refine⟨_,YG ls i h,?_⟩;refine kW ?_;refine⟨i+1,?_⟩;have hct:=bH ls i h;have HC:=Ma ls ND
    have Znd:EK (ls.take i)<=1000*1001:=by
     refine E1 (Ma _ λl hl=>ND l (Is hl)) ?_
     rw[Fk];exact H4 _ (by omega)
    have hwc:=NW ls[i]
    have E5:Wr .i64 (((EK (ls.take i):Nat):Int)+(((strs (AB ls[i])).length:Nat):Int))=((EK (ls.take (i+1)):Nat):Int):=by
     rw[hct,Cu,Em (by omega)];rfl
    conv=>whnf
    repeat(refine A0 ?_ ?_;(focus (first|rfl|(simp;done)|(first|exact A7|exact E5;done)));conv=>whnf)
    exact⟨by omega,by omega⟩
   ·have h:i=ls.length:=by simp at h;omega
    subst h;rw[Bh];have HC:=Ma ls ND;have hwA:CY ls ls.length=(ls.map AB).map AQ:=by unfold CY;simp
    rw[hwA];refine kW ?_;refine⟨λh2=>?_,λh2=>?_⟩
    ·have h2:¬EK ls<=40:=by simp at h2;omega
     have hR:Br f ls=([],2):=by unfold Br;rw[h1,if_pos rfl,if_neg h2]
     rw[hR];refine kW ?_;refine⟨5,?_⟩;conv=>whnf
     rfl
    ·have h2:EK ls<=40:=by simp at h2;omega
     conv=>whnf
     have hLl:((ls.map AB).map AQ).length=ls.length:=by simp
     refine Aa.freeze 1 ?_;conv=>whnf
     refine⟨(λx hx=>by obtain⟨y,_,rfl⟩:=BY.1 hx;rfl),?_⟩
     conv=>whnf
     repeat(refine⟨(by first|rfl|(simp;done):(_:Nat)=_),?_⟩;conv=>whnf)
     have Ll:∀l∈ls.map AB,l.length<=1000/\∀w∈l,w.length<=1000:=λl hl=>by
      obtain⟨x,hx,rfl⟩:=BY.1 hl;have hm:(AB x).length∈ls.map λl=>(AB l).length:=BY.2 ⟨x,hx,rfl⟩
      have h3:=T5 hm;unfold EK at h2;exact⟨by omega,λw hw=>by have:=SM x w hw;have:=ND x hx;omega⟩
     have hR0:¬(ls.length=f.lines.length/\Fu (ls.map AB)=true)->Br f ls=([],0):=λh=>by unfold Br;rw[h1,if_pos rfl,if_pos h2,if_neg h]
     repeat' (first|(refine A0 (λ_=>?_) (λ_=>?_)<;>conv=>whnf)|(refine kC (bT (ls.map AB) (by simp;omega) (λl hl=>(Ll l hl).1) (λl hl=>(Ll l hl).2)) ?_)|(refine kC (eO) ?_)|refine Dd ?_|fail)
     ·rename_i h3 h4;rw[hR0 λh=>by rw[h.2]at h4;simp at h4]
      refine⟨5,?_⟩;conv=>whnf
      rfl
     ·rename_i h3 h4;have h3:ls.length=f.lines.length:=by simp at h3;omega
      have h4:Fu (ls.map AB)=true:=by simpa using h4
      have hR:Br f ls=(ER f.lines (ls.map AB) HT,0):=by unfold Br;rw[h1,if_pos rfl,if_pos h2,if_pos ⟨h3,h4⟩]
      rw[hR];have Fj:=G6 f;rw[h1]at Fj
      have Fj:cB f.lines.flatten=true:=by
       have:=Fj.symm;simp only[Ax]at this;exact this.2
      unfold cB at Fj;simp only[Ax,decide_eq_true_eq]at Fj;have hgk:Ih f.lines.flatten:=λq hq=>C6 (Bl.1 Fj.1 q hq)
      have hdv:Zcq f (ls.map AB):=⟨hf,hp,by simp[h3],λl hl x hx=>Bl.1 (Bl.1 h4 l hl) x hx,λl hl=>(Ll l hl).1⟩
      have hnx:=Uz (F:=f.lines) (W:=ls.map AB) (by simp[h3]) 0 (BW _) HT
      rw[K2,K2]at hnx;have Qs:=Wn hgk Fj.2 (ls.map AB) HT;refine Aj.GX 3 5 38 5 rfl rfl ?_;refine Aj.tT (bG f (ls.map AB) hdv (dZ f.lines 0-0) 0 0 0 HT [] rfl (BW _) (λ_=>⟨BW _,BW _⟩) (by rw[hnx,FY];omega)) rfl ⟨rfl,rfl,rfl,rfl,rfl,rfl,rfl,rfl,rfl,rfl,rfl,rfl,rfl,A9 _,trivial⟩ ?_ (λ_ _ h=>h.elim)
      rintro r H1 ⟨rfl,c,hc,rfl⟩;rw[hnx,FZ];refine kW ?_;refine⟨⟨by simp,A9 _⟩,?_⟩
      conv=>whnf
     ·rename_i h3;rw[hR0 λh=>by rw[Cu,yM,h.1]at h3;simp at h3]
      refine⟨5,?_⟩;conv=>whnf
      rfl
theorem Qj(a:Bs):Lib.join [a] [32]=a:=by simp[Lib.join,Lib.joinTail]
theorem J8:∀(l:List Bs),AB (Lib.join l [32])=l.flatMap AB
 |[]=>rfl
 |[a]=>by rw[Qj];simp
 |a::b::l=>by
  rw[Hw,VQ _ _ _ (by decide),J8 (b::l)]
  rfl
theorem T8:∀(s:Bs),Lib.join (splitB s) [32]=s
 |[]=>rfl
 |x::r=>by
  have ih:=T8 r;have hp:=FN r;rw[DN];cases hs:splitB r with
  |nil=>rw[hs]at hp;simp at hp
  |cons y ys=>
   rw[hs]at ih;by_cases hx:x=32;·rw[if_pos hx,Hw,ih,hx];rfl
   ·rw[if_neg hx];show Lib.join ((x::y)::ys) [32]=x::r
    rw[<-ih];cases ys with
    |nil=>rw[Qj,Qj]
    |cons z zs=>rw[Hw,Hw];rfl
theorem wY:∀(u:Nat),1<=u->(Lib.decDigits u).head?≠some 48:=by
 intro u;induction u using KF with
 |_ u ih=>
  intro h1 h2;rw[Lib.decDigits]at h2;split at h2
  ·rename_i h;have h3:UInt8.ofNat (48+u)=48:=by simpa using h2
   have:=Lw u h;rw[h3]at this;have h48:(48:UInt8).toNat=48:=rfl;omega
  ·rename_i h;have Bq:=iK (u/10);cases hd:Lib.decDigits (u/10)with
   |nil=>exact Bq hd
   |cons c r=>
    have:=ih (u/10) (by omega) (by omega)
    rw[hd]at h2 this;exact this h2
theorem UP(u:Nat):(Lib.decDigits u).all Dg=true:=by
 rw[Bl];intro c hc;exact(Fp c).2 (WU u c hc)
theorem ZU(u:Nat):Lib.itoa (u:Int)=Lib.decDigits u:=by unfold Lib.itoa;rw[if_neg (by omega)];simp
theorem uW{n:Int}(h0:1<=n)(h1:n<=9999):Et (Lib.itoa n)=true/\(Km (Lib.itoa n):Int)=n/\DL (Lib.itoa n)=true/\isW (Lib.itoa n):=by
 have ha:=qN (n:=n) (by omega) (by omega)
 obtain⟨u,rfl⟩:∃u:Nat,n=u:=⟨n.toNat,by omega⟩
 rw[ZU]at ha ⊢;have hl:=Yd 3 u (by omega)
 have hn:=I0.2 (iK u);have hv:=(bO (UP u) hn hl).1;rw[ha]at hv
 have hf:DL (Lib.decDigits u)=true:=by
  unfold DL;simp only[Ax,decide_eq_true_eq];refine⟨⟨hn,by omega⟩,?_⟩
  rw[Bl];intro c hc;have:=Bl.1 (UP u) c hc;unfold IK;rw[this];simp
 refine⟨?_,?_,hf,SF hf⟩
 ·unfold Et;rw[UP u];simp only[Hs,Ax,decide_eq_true_eq,El,decide_eq_false_iff_not];exact⟨⟨hl,wY u (by omega)⟩,hn⟩
 ·injection hv with hv
  exact hv.symm
theorem UO(u d:Nat)(h:1<=u)(hd:d<10):Lib.decDigits (10*u+d)=Lib.decDigits u++[UInt8.ofNat (48+d)]:=by
 conv=>lhs;rw[Lib.decDigits]
 rw[dif_neg (by omega),show(10*u+d)/10=u by omega,show(10*u+d)%10=d by omega]
theorem J0{c:UInt8}(h:Dg c=true):UInt8.ofNat (48+(c.toNat-48))=c:=by
 have:=(Fp c).1 h;rw[show 48+(c.toNat-48)=c.toNat by omega]
 simp
theorem rT{w:Bs}(h:Et w=true):Lib.itoa (Km w:Int)=w/\1<=Km w/\Km w<=9999:=by
 unfold Et at h;simp only[Ax,decide_eq_true_eq,El,decide_eq_false_iff_not]at h;obtain⟨⟨⟨h1,h2⟩,h3⟩,h4⟩:=h;rw[ZU];cases w with
 |nil=>simp at h4
 |cons a w=>
  simp only[Cb,Ax]at h3;obtain⟨ha,h3⟩:=h3;have ba:=(Fp a).1 ha
  have a0:1<=a.toNat-48:=by
   have h2:a≠48:=by simpa using h2
   have:a.toNat≠48:=λe=>h2 (UInt8.toNat_inj.1 e)
   omega
  have va:Lib.decDigits (a.toNat-48)=[a]:=by rw[Lib.decDigits,dif_pos (by omega),J0 ha]
  cases w with
  |nil=>
   unfold Km;simp only[D0,GK,HU,CM];exact⟨va,by omega,by omega⟩
  |cons b w=>
   simp only[Cb,Ax]at h3;obtain⟨hb,h3⟩:=h3;have bb:=(Fp b).1 hb;have vb:=UO (a.toNat-48) (b.toNat-48) a0 (by omega)
   rw[va,J0 hb]at vb;cases w with
   |nil=>
    unfold Km;simp only[D0,GK,HU,CM];exact⟨vb,by omega,by omega⟩
   |cons c w=>
    simp only[Cb,Ax]at h3;obtain⟨hc,h3⟩:=h3;have bc:=(Fp c).1 hc;have vc:=UO (10*(a.toNat-48)+(b.toNat-48)) (c.toNat-48) (by omega) (by omega)
    rw[vb,J0 hc]at vc;cases w with
    |nil=>
     unfold Km;simp only[D0,GK,HU,CM];exact⟨vc,by omega,by omega⟩
    |cons d w=>
     simp only[Cb,Ax]at h3;obtain⟨hd,h3⟩:=h3;have bd:=(Fp d).1 hd;have vd:=UO (10*(10*(a.toNat-48)+(b.toNat-48))+(c.toNat-48)) (d.toNat-48) (by omega) (by omega)
     rw[vc,J0 hd]at vd;cases w with
     |nil=>
      unfold Km;simp only[D0,GK,HU,CM];exact⟨vd,by omega,by omega⟩
     |cons e w=>simp at h1
theorem TW:∀(w q:Bs),Ce w q=true->w.length=q.length
 |[],[],_=>rfl
 |[],_::_,h|_::_,[],h=>by simp[Ce]at h
 |c::w,d::q,h=>by
  simp only[Ce,Ax]at h;simp[TW w q h.2]
theorem Wy:∀(w q:Bs),q.all JN=true->Ce w q=true->w.all IK=true
 |[],_,_,_=>rfl
 |_::_,[],_,h=>by simp[Ce]at h
 |c::w,d::q,hq,h=>by
  simp only[Ce,Ax]at h;simp only[Cb,Ax]at hq ⊢;refine⟨?_,Wy w q hq.2 h.2⟩;have h1:=hq.1;unfold JN at h1;simp only[DG,decide_eq_true_eq]at h1;unfold IK;rcases h1 with h1|h1
  ·have h2:=h.1.1;simp only[h1,decide_true,Li,Lk]at h2;rw[h2];simp
  ·have h2:=h.1.2;simp only[h1,decide_true,Li,Lk]at h2;rw[h2];simp
theorem xA{p:Pt}(hp:BV p=true)(hk:p.k=3){w:Bs}(h:Ce w p.t=true):DL w=true:=by
 have h1:=Zt hp hk;have h2:=Wy w p.t h1 h;have h3:=TW w p.t h;unfold BV at hp;rw[if_neg (by omega),if_pos hk]at hp
 unfold Vq at hp;simp only[Ax,decide_eq_true_eq]at hp;unfold DL;simp only[Ax,decide_eq_true_eq];exact⟨⟨by omega,by omega⟩,h2⟩
theorem Hb{s:Bs}(h:Cz s=true):AB s=splitB s/\Lib.join (splitB s) [32]=s/\(∀w∈splitB s,DL w=true)/\splitB s≠[]/\(splitB s).length<=4:=by
 unfold Cz at h;simp only[Ax,decide_eq_true_eq]at h;have hf:∀w∈splitB s,DL w=true:=Bl.1 h.2;have hj:=T8 s;refine⟨?_,hj,hf,λe=>by have:=FN s;rw[e]at this;simp at this,h.1.2⟩
 conv=>lhs;rw[<-hj]
 exact SL _ λw hw=>SF (hf w hw)
theorem eL{p:Pt}{x:Ad}(hp:BV p=true)(hx:Dz x p=true):xS p (AB (Bn p x)) x/\∀w∈AB (Bn p x),DL w=true:=by
 have hp0:=hp;unfold BV at hp;unfold Dz at hx;rcases C6 hp0 with hk|hk|hk|hk|hk|hk
 ·simp only[hk,if_true]at hp;have e:AB (Bn p x)=[p.t]:=by unfold Bn;rw[if_pos hk];exact IT (SF hp)
  rw[e];refine⟨⟨by simp,by unfold Cy;simp[hk],by unfold Q7;simp[hk],?_,?_,?_,?_,?_⟩,λw hw=>by rw[DE.1 hw];exact hp⟩<;>(intro h;omega)
 ·rw[if_pos hk]at hx;simp only[Ax,decide_eq_true_eq]at hx;obtain⟨n1,n2,n3,n4⟩:=uW hx.1 hx.2;have e:AB (Bn p x)=[Lib.itoa x.nu]:=by unfold Bn;rw[if_neg (by omega),if_pos hk];exact IT n4
  rw[e];refine⟨⟨by simp,by unfold Cy;simp[hk],by unfold Q7;simp[hk,n1],λ_=>n2.symm,?_,?_,?_,?_⟩,λw hw=>by rw[DE.1 hw];exact n3⟩<;>(intro h;omega)
 ·rw[if_neg (by omega),if_pos hk]at hx
  simp only[Ax,decide_eq_true_eq]at hx;have hf:=xA hp0 hk hx.1;have e:AB (Bn p x)=[x.co]:=by unfold Bn;rw[if_neg (by omega),if_neg (by omega),if_pos hk];exact IT (SF hf)
  rw[e];refine⟨⟨by simp,by unfold Cy;simp[hk],by unfold Q7;simp[hk,hx.1],?_,λ_=>hx.2,?_,?_,?_⟩,λw hw=>by rw[DE.1 hw];exact hf⟩<;>(intro h;omega)
 ·rw[if_neg (by omega),if_neg (by omega),if_pos hk]at hx
  obtain⟨w1,w2,w3,w4,w5⟩:=Hb hx;have e:AB (Bn p x)=splitB x.st:=by unfold Bn;rw[if_neg (by omega),if_neg (by omega),if_neg (by omega),if_pos hk];exact w1
  rw[e];exact⟨⟨w4,by unfold Cy;simpa[hk]using w5,by unfold Q7;simp[hk],λh=>by omega,λh=>by omega,λ_=>w2.symm,λh=>by omega,λh=>by omega⟩,w3⟩
 ·rw[if_neg (by omega),if_neg (by omega),if_neg (by omega),if_pos hk]at hx
  obtain⟨w1,w2,w3,w4,w5⟩:=Hb hx;have e:AB (Bn p x)=splitB x.to:=by unfold Bn;rw[if_neg (by omega),if_neg (by omega),if_neg (by omega),if_neg (by omega),if_pos hk];exact w1
  rw[e];exact⟨⟨w4,by unfold Cy;simpa[hk]using w5,by unfold Q7;simp[hk],λh=>by omega,λh=>by omega,λh=>by omega,λ_=>w2.symm,λh=>by omega⟩,w3⟩
 ·rw[if_neg (by omega),if_neg (by omega),if_neg (by omega),if_neg (by omega),if_pos hk]at hx
  obtain⟨w1,w2,w3,w4,w5⟩:=Hb hx;have e:AB (Bn p x)=splitB x.pe:=by unfold Bn;rw[if_neg (by omega),if_neg (by omega),if_neg (by omega),if_neg (by omega),if_neg (by omega)];exact w1
  rw[e];exact⟨⟨w4,by unfold Cy;simpa[hk]using w5,by unfold Q7;simp[hk],λh=>by omega,λh=>by omega,λh=>by omega,λh=>by omega,λ_=>w2.symm⟩,w3⟩
theorem fN(x:Ad):∀(l:List Pt),AB (Lg x l)=l.flatMap λp=>AB (Bn p x):=by
 intro l;unfold Lg;rw[J8,List.flatMap_map]
theorem oL{x:Ad}:∀(l:List Pt),(∀p∈l,BV p=true)->(∀p∈l,Dz x p=true)->Zbt l (AB (Lg x l)) x/\∀w∈AB (Lg x l),DL w=true:=by
 intro l;induction l with
 |nil=>intro _ _;exact⟨rfl,λw hw=>by have hw:w∈([]:List Bs):=hw;cases hw⟩
 |cons p l ih=>
  intro hp hx;obtain⟨i1,i2⟩:=ih (λq hq=>hp q (by simp[hq])) λq hq=>hx q (by simp[hq])
  obtain⟨t1,t2⟩:=eL (hp p (by simp)) (hx p (by simp))
  rw[fN]at i1 i2 ⊢;rw[List.flatMap_cons];refine⟨⟨_,_,rfl,t1,i1⟩,λw hw=>?_⟩
  rcases HQ.1 hw with hw|hw;·exact t2 w hw
  ·exact i2 w hw
theorem T1{x:Ad}:∀(ls:List (List Pt)),(∀p∈ls.flatten,BV p=true)->(∀p∈ls.flatten,Dz x p=true)->xT ls ((ls.map (Lg x)).map AB) x/\Fu ((ls.map (Lg x)).map AB)=true
 |[],_,_=>⟨rfl,rfl⟩
 |l::ls,hp,hx=>by
  rw[C4]at hp hx;obtain⟨i1,i2⟩:=T1 ls (λq hq=>hp q (E8 _ hq)) λq hq=>hx q (E8 _ hq)
  obtain⟨t1,t2⟩:=oL l (λq hq=>hp q (Fy _ hq)) λq hq=>hx q (Fy _ hq)
  refine⟨⟨_,_,rfl,t1,i1⟩,?_⟩;unfold Fu at i2⊢;rw[Ef,Ef,Cb,i2,Bl.2 t2];rfl
theorem MW{f:Fm}(h:A1 f=true):Ih f.lines.flatten/\(EH f.lines.flatten).Nodup/\∀p∈f.lines.flatten,BV p=true:=by
 have hp:∀p∈f.lines.flatten,BV p=true:=λp hp=>by
  obtain⟨l,hl,hp⟩:=C3.1 hp;exact HW h l hl p hp
 refine⟨λp hq=>C6 (hp p hq),?_,hp⟩
 unfold A1 at h;simp only[Ax,decide_eq_true_eq]at h;exact h.2
theorem eM{f:Fm}{x:Ad}(hv:A1 f=true)(hx:Iq f x=true):Fu ((IF f x).map AB)=true/\x∈ER f.lines ((IF f x).map AB) HT:=by
 obtain⟨hg,hn,hp⟩:=MW hv;unfold Iq at hx;simp only[Ax,decide_eq_true_eq]at hx;obtain⟨t1,t2⟩:=T1 f.lines hp (Bl.1 hx.1);refine⟨t2,S3 _ _ _ _ hg t1 ?_⟩;have:=QI (x:=x) f.lines.flatten hg x;rw[hx.2]at this;exact this.symm
theorem Xm(b:UInt8):AO Tryz.prog 133 [.int .u8 b.toNat] (λr=>r=.bool (DF b)):=by
 refine kB Tryz.func133 rfl ?_;repeat' (first|(refine A0 (λ_=>?_) (λ_=>?_)<;>conv=>whnf)|refine Dd ?_|fail)
 all_goals (refine congrArg AV.bool ?_;rw[Bm];simp_all[DF,BJ,F6]<;>omega)
theorem QZ(b:UInt8):AO Tryz.prog 99 [.int .u8 b.toNat] (λr=>r=.bool (Dg b)):=by
 refine kB Tryz.func99 rfl ?_;repeat' (first|(refine A0 (λ_=>?_) (λ_=>?_)<;>conv=>whnf)|refine Dd ?_|fail)
 all_goals (refine congrArg AV.bool ?_;rw[Bm];simp_all[Dg]<;>omega)
theorem nN(w:Bs)(hw:w.length<=100000):AO Tryz.prog 100 [.str w] (λr=>r=.bool (DL w)):=by
 refine kB Tryz.func100 rfl ?_;repeat' (first|(refine A0 (λ_=>?_) (λ_=>?_)<;>conv=>whnf)|refine Dd ?_|fail)
 ·exact congrArg AV.bool (by rename_i h1 h2;simp at h2;unfold DL;rw[decide_eq_false (show ¬w.length<=20 by omega)];simp)
 ·rename_i h1 h2;have h1:1<=w.length:=by simp at h1;omega
  have h2:w.length<=20:=by simp at h2;omega
  have hf:DL w=w.all IK:=by unfold DL;simp[h1,h2]
  refine Aa.Aw (λk:Nat=>mk 48 [(0,.str w),(2,.lit false),(3,.int .i64 k)]) (λ_=>[]) (λk=>k<=w.length/\(w.take k).all IK=true) (λk=>w.length-k) (λ_ _=>⟨rfl,trivial⟩) ⟨0,?_⟩ (λ_=>rfl) λk hk=>?_
  ·refine kQ ?_;simp
  ·obtain⟨hk,ha⟩:=hk;refine kR ?_;refine⟨λh=>?_,λh=>?_⟩
   ·have h:k<w.length:=by simpa using h
    have A7:=D4 k (by omega)
    have hgk:w.getD (k:Int).toNat 0=w[k]:=by simp[Hx,h]
    have Yx:IK w[k]=(DF w[k]||Dg w[k]||decide (w[k].toNat=45)||decide (w[k].toNat=39)||decide (w[k].toNat=46)):=rfl
    have ht:=Ez IK w k h;have Ll:=all_false IK w k h;refine kW ?_;repeat' (first|(refine A0 (λ_=>?_) (λ_=>?_)<;>conv=>whnf)|(refine A0 ⟨by omega,by omega⟩ ?_;(conv=>whnf);first|rw[hgk])|(refine cS (Xm w[k]) rfl ?_;conv=>whnf)|(refine cS (QZ w[k]) rfl ?_;conv=>whnf)|(refine sT rfl ?_;conv=>whnf))
    all_goals first
     |(refine congrArg AV.bool ?_
       have hn:IK w[k]=false:=by rw[Yx];clear ha ht Ll hf;simp_all<;>omega
       rw[hf,Ll hn])
     |(have hy:IK w[k]=true:=by rw[Yx];clear ha ht Ll hf;simp_all<;>omega
       refine⟨k+1,?_⟩
       refine CV A7 ?_
       exact⟨⟨by omega,by rw[ht,ha,hy];rfl⟩,by omega⟩)
     |trace_state
   ·have h:k=w.length:=by simp at h;omega
    rw[h,Bh]at ha;refine kW ?_;exact congrArg AV.bool (by rw[hf,ha])
 ·exact congrArg AV.bool (by rename_i h1;simp at h1;unfold DL;rw[decide_eq_false (show ¬1<=w.length by omega)];simp)
theorem Vn(w:Bs)(hw:w.length<=100000):AO Tryz.prog 101 [.str w] (λr=>r=.bool (Vq w)):=by
 refine kB Tryz.func101 rfl ?_;refine Aa.Aw (λk:Nat=>mk 28 [(0,.str w),(2,.lit false),(3,.int .i64 k)]) (λ_=>[]) (λk=>k<=w.length/\(w.take k).all JN=true) (λk=>w.length-k) (λ_ _=>⟨rfl,trivial⟩) ⟨0,?_⟩ (λ_=>rfl) λk hk=>?_
 ·refine kQ ?_;simp
 ·obtain⟨hk,ha⟩:=hk;refine kR ?_;refine⟨λh=>?_,λh=>?_⟩
  ·have h:k<w.length:=by simpa using h
   have A7:=D4 k (by omega)
   have hgk:w.getD (k:Int).toNat 0=w[k]:=by simp[Hx,h]
   have Yx:JN w[k]=(decide (w[k].toNat=57)||decide (w[k].toNat=65)):=rfl
   have ht:=Ez JN w k h;have Ll:=all_false JN w k h;refine kW ?_;repeat' (first|(refine A0 (λ_=>?_) (λ_=>?_)<;>conv=>whnf)|(refine A0 ⟨by omega,by omega⟩ ?_;(conv=>whnf);first|rw[hgk])|(refine sT rfl ?_;conv=>whnf))
   all_goals first
    |(refine congrArg AV.bool ?_
      have hn:JN w[k]=false:=by rw[Yx];clear ha ht Ll;simp_all<;>omega
      unfold Vq;rw[Ll hn,E4])
    |(have hy:JN w[k]=true:=by rw[Yx];clear ha ht Ll;simp_all<;>omega
      refine⟨k+1,?_⟩
      refine CV A7 ?_
      exact⟨⟨by omega,by rw[ht,ha,hy];rfl⟩,by omega⟩)
    |trace_state
  ·have h:k=w.length:=by simp at h;omega
   rw[h,Bh]at ha;refine kW ?_;repeat' (first|(refine A0 (λ_=>?_) (λ_=>?_)<;>conv=>whnf)|refine Dd ?_|fail)
   ·rename_i h1;refine congrArg AV.bool ?_;unfold Vq;rw[ha,decide_eq_true (p:=1<=w.length) (by simp at h1;omega)]
    rw[Bm];simp;omega
   ·rename_i h1;refine congrArg AV.bool ?_;unfold Vq;rw[decide_eq_false (p:=1<=w.length) (by simp at h1;omega)]
    simp
def lL(s:Bs):Bool:=match s with|c::_=>BJ c|[]=>false
theorem TQ(s:Bs):H9 s=(decide (1<=s.length)&&decide (s.length<=16)&&lL s&&s.all B5):=rfl
theorem Ze(w:Bs)(hw:w.length<=100000):AO Tryz.prog 62 [.str w] (λr=>r=.bool (H9 w)):=by
 refine kB Tryz.func62 rfl ?_;refine Aa.Aw (λk:Nat=>mk 48 [(0,.str w),(2,.lit false),(3,.int .i64 k)]) (λ_=>[]) (λk=>k<=w.length/\(w.take k).all B5=true/\(1<=k->lL w=true)) (λk=>w.length-k) (λ_ _=>⟨rfl,trivial⟩) ⟨0,?_⟩ (λ_=>rfl) λk hk=>?_
 ·refine kQ ?_;simp
 ·obtain⟨hk,ha,hs⟩:=hk;refine kR ?_;refine⟨λh=>?_,λh=>?_⟩
  ·have h:k<w.length:=by simpa using h
   have A7:=D4 k (by omega)
   have hgk:w.getD (k:Int).toNat 0=w[k]:=by simp[Hx,h]
   have Yx:B5 w[k]=(BJ w[k]||Dg w[k]||decide (w[k].toNat=95)):=rfl
   have qX:BJ w[k]=(decide (97<=w[k].toNat)&&decide (w[k].toNat<=122)):=rfl;have hs0:k=0->lL w=BJ w[k]:=λe=>by subst e;cases w with|nil=>simp at h|cons c r=>rfl
   have hh:BJ w[k]=true->lL w=true:=λe=>by
    by_cases h0:k=0;·rw[hs0 h0,e]
    ·exact hs (by omega)
   have ht:=Ez B5 w k h;have Ll:=all_false B5 w k h;refine kW ?_;repeat' (first|(refine A0 (λ_=>?_) (λ_=>?_)<;>conv=>whnf)|(refine A0 ⟨by omega,by omega⟩ ?_;(conv=>whnf);first|rw[hgk])|(refine cS (QZ w[k]) rfl ?_;conv=>whnf)|(refine sT rfl ?_;conv=>whnf))
   all_goals first
    |(refine congrArg AV.bool ?_
      have hn:(k=0/\BJ w[k]=false)\/B5 w[k]=false:=by rw[Yx,qX];clear ha hs ht Ll hs0 hh Yx qX;simp_all<;>omega
      rw[TQ]
      rcases hn with⟨h0,hn⟩|hn
      · rw[hs0 h0,hn,E4,Bool.false_and]
      · rw[Ll hn,E4])
    |(have hy:B5 w[k]=true/\(k=0->BJ w[k]=true):=by
         rw[Yx,qX];clear ha hs ht Ll hs0 hh Yx qX
         first|(simp_all<;>omega;done)|(simp only[decide_eq_true_eq,decide_eq_false_iff_not,El,Bool.not_eq_false',DG,Ax]at *;refine⟨?_,λ_=>?_⟩<;>omega)
      refine⟨k+1,?_⟩
      refine CV A7 ?_
      refine⟨⟨by omega,by rw[ht,ha,hy.1];rfl,λ_=>?_⟩,by omega⟩
      by_cases h0:k=0
      · rw[hs0 h0];exact hy.2 h0
      · exact hs (by omega))
    |trace_state
  ·have h:k=w.length:=by simp at h;omega
   rw[h,Bh]at ha;refine kW ?_;repeat' (first|(refine A0 (λ_=>?_) (λ_=>?_)<;>conv=>whnf)|refine Dd ?_|fail)
   ·rename_i h1;refine congrArg AV.bool ?_;rw[TQ,ha,hs (by simp at h1;omega),decide_eq_true (p:=1<=w.length) (by simp at h1;omega)]
    rw[Bm];simp;omega
   ·rename_i h1;refine congrArg AV.bool ?_;rw[TQ,decide_eq_false (p:=1<=w.length) (by simp at h1;omega)]
    simp
theorem dT(p:Pt)(ht:p.t.length<=1000):AO Tryz.prog 63 [p.v] (λr=>r=.bool (BV p)):=by
 refine kB Tryz.func63 rfl ?_;repeat' (first|(refine A0 (λ_=>?_) (λ_=>?_)<;>conv=>whnf)|(refine kC (nN p.t (by omega)) ?_)|(refine kC (Vn p.t (by omega)) ?_)|refine Dd ?_|fail)
 all_goals
  refine congrArg AV.bool ?_;unfold BV;try simp only[decide_eq_true_eq,decide_eq_false_iff_not]at *
  try simp only[*,if_true,if_false,reduceIte,or_self,or_false,false_or,true_or,or_true]
  try first|done|(rw[Bm];simp_all;done)|(rw[Bm];simp_all<;>omega)|trace_state
theorem Tu(l:List Pt):∀x∈l.map Pt.v,closed x=true:=by
 intro x hx;obtain⟨y,_,rfl⟩:=BY.1 hx;rfl
theorem UF:∀(ls:List (List Pt)),(∀l∈ls,l.length<=1000)->∀i,(ls.take i).flatten.length<=1000*i
 |[],_,i|l::ls,h,0=>by simp
 |l::ls,h,i+1=>by
  have:=UF ls (λx hx=>h x (by simp[hx])) i
  have h1:=h l (by simp)
  rw[List.take_succ_cons,C4,CL];omega
theorem QB(ls:List (List Pt))(h:∀l∈ls,l.length<=1000):ls.flatten.length<=1000*ls.length:=by
 have:=UF ls h ls.length;rwa [Bh]at this
theorem KR(f:Fm)(hl:f.lines.length<=1000)(ND:∀l∈f.lines,l.length<=1000):AO Tryz.prog 56 [f.v] (λr=>r=CP f.lines.flatten):=by
 refine kB Tryz.func56 rfl ?_;have yM:(f.lines.map CP).length=f.lines.length:=by simp
 refine Aa.Aw (λi:Nat=>mk 21 [(1,.ptr 0 0),(3,.own 1 2 0 (f.lines.take i).flatten.length),(4,.int .i64 i)]) (λi=>[.cells [.str f.name,.sl 1 (f.lines.map CP)],.arr 124 2 ((f.lines.take i).flatten.map Pt.v)]) (λi=>i<=f.lines.length) (λi=>f.lines.length-i) (λ_ _=>⟨rfl,rfl,Tu _,trivial⟩) ⟨0,?_⟩ (λ_=>rfl) λi hi=>?_
 ·refine kQ ?_;exact BW _
 ·refine kR ?_;refine⟨λh=>?_,λh=>?_⟩
  ·have h:i<f.lines.length:=by have:=of_decide_eq_true h;omega
   have A7:=D4 i (by omega)
   have KB:=UF f.lines ND (i+1);have Yw:(f.lines.take (i+1)).flatten=(f.lines.take i).flatten++f.lines[i]:=by rw[Af h,FX,C4,Kn,C1]
   rw[Yw]at KB;rw[CL]at KB;refine kW ?_;refine⟨by omega,_,EV f i h,?_⟩
   refine kW ?_;refine⟨⟨by rw[C2],by rw[CL,C2,C2];omega⟩,?_⟩
   rw[<-Cr,<-Yw];refine kW ?_;refine⟨i+1,?_⟩;conv=>whnf
   repeat(refine A0 ?_ ?_;(focus (first|rfl|(simp;done)|(first|exact A7|exact congrArg (AV.own 1 2 0) (C2 ..);done)));conv=>whnf)
   exact⟨h,by omega⟩
  ·have h:i=f.lines.length:=by have:=of_decide_eq_false h;omega
   rw[h,Bh];refine kW ?_;refine⟨⟨by rw[C2],Tu _⟩,?_⟩
   rfl
def JW(l:List Pt)(k:Int):Nat:=(l.filter λp=>decide (p.k=k)).length
theorem pG(L:List Pt)(k:Int)(i:Nat)(h:i<L.length):JW (L.take (i+1)) k=JW (L.take i) k+(if L[i].k=k then 1 else 0):=by
 unfold JW;rw[Af h,Gs,CL];by_cases hk:L[i].k=k;·simp[hk]
 ·simp[hk]
theorem C5(f:Fm)(k:Int)(hl:f.lines.length<=1000)(ND:∀l∈f.lines,l.length<=1000):AO Tryz.prog 29 [f.v,.int .i64 k] (λr=>r=.int .i64 (JW f.lines.flatten k)):=by
 refine kB Tryz.func29 rfl ?_;refine kC (KR f hl ND) ?_;have KB:=QB f.lines ND;have ZgR:f.lines.flatten.length<=1000000:=E1 KB (Nat.mul_le_mul_left 1000 hl)
 have HC:∀x∈f.lines.map CP,closed x=true:=λx hx=>by
  obtain⟨y,_,rfl⟩:=BY.1 hx;rfl
 generalize f.lines.map CP=M at*;generalize f.lines.flatten=L at*;have hmL:(L.map Pt.v).length=L.length:=by simp
 refine Aa.Aw (λi:Nat=>mk 26 [(1,.int .i64 k),(5,.int .i64 (JW (L.take i) k)),(6,CP L),(7,.int .i64 i)]) (λi=>[.cells [.str f.name,.sl 1 M]]) (λi=>i<=L.length) (λi=>L.length-i) (λ_ _=>⟨rfl,rfl,trivial⟩) ⟨0,?_⟩ (λ_=>rfl) λi hi=>?_
 ·refine kQ ?_;exact BW _
 ·refine kR ?_;refine⟨λh=>?_,λh=>?_⟩
  ·have h:i<L.length:=by have:=of_decide_eq_true h;omega
   have A7:=D4 i (by omega)
   have hn:=pG L k i h
   have rA:JW (L.take i) k<=i:=by
    unfold JW;refine E1 (List.length_filter_le _ _) ?_;rw[Fk];omega
   have E5:Wr .i64 (((JW (L.take i) k:Nat):Int)+1)=((JW (L.take i) k+1:Nat):Int):=by rw[Em (by omega)];rfl
   refine kW ?_;refine⟨by omega,_,EA L i h,?_⟩
   refine kW ?_;repeat' (first|(refine A0 (λ_=>?_) (λ_=>?_)<;>conv=>whnf)|refine Dd ?_|fail)
   ·rename_i hk;have hk:L[i].k=k:=by simpa using hk
    rw[if_pos hk]at hn;refine⟨i+1,?_⟩;conv=>whnf
    repeat(refine A0 ?_ ?_;(focus (first|rfl|(simp;done)|(first|exact A7|(rw[E5,hn]);done)));conv=>whnf)
    exact⟨h,by omega⟩
   ·rename_i hk;have hk:¬L[i].k=k:=by simpa using hk
    rw[if_neg hk]at hn;refine⟨i+1,?_⟩;conv=>whnf
    repeat(refine A0 ?_ ?_;(focus (first|rfl|(simp;done)|(first|exact A7|(rw[hn];rfl);done)));conv=>whnf)
    exact⟨h,by omega⟩
  ·have h:i=L.length:=by have:=of_decide_eq_false h;omega
   rw[h,Bh];exact GA
theorem WW(L:List Pt)(k:Int)(hk:k≠1):(EH L).count k=JW L k:=by
 unfold EH JW;rw[List.count_eq_countP,List.countP_map,List.countP_filter,List.countP_eq_length_filter];congr 1;refine List.filter_congr λp _=>?_
 simp only[Function.comp];by_cases h:p.k=k;·simp[h,hk]
 ·simp[h]
def Kg(L:List Pt)(p:Pt):Bool:=BV p&&(decide (p.k=1)||decide (JW L p.k<=1))
theorem oC(L:List Pt):decide (EH L).Nodup=L.all λp=>decide (p.k=1)||decide (JW L p.k<=1):=by
 rw[Bm,decide_eq_true_eq,Bl,List.nodup_iff_count];constructor
 ·intro h p hp;by_cases hk:p.k=1;·simp[hk]
  ·have:=h p.k;rw[WW L p.k hk]at this;simp[this]
 ·intro h k;by_cases hm:k∈EH L
  ·unfold EH at hm;obtain⟨p,hp,rfl⟩:=BY.1 hm;obtain⟨h1,h2⟩:=HB.1 hp;have hk:p.k≠1:=by simpa using h2
   have:=h p h1;rw[WW L p.k hk];simpa[hk]using this
  ·rw[List.count_eq_zero.2 hm];exact BW _
theorem Hd(f:Fm):A1 f=(H9 f.name&&decide (1<=f.lines.length)&&decide (f.lines.length<=8)&&f.lines.all FE&&f.lines.flatten.all (Kg f.lines.flatten)):=by
 unfold A1;rw[oC,KT _ (f.lines.flatten.all BV)];congr 1;generalize f.lines.flatten=L;generalize hg:(λp:Pt=>decide (p.k=1)||decide (JW L p.k<=1))=g
 have:Kg L=λp=>BV p&&g p:=by funext p;unfold Kg;rw[<-hg]
 rw[this];clear this hg;induction L with
 |nil=>rfl
 |cons p L ih=>
  rw[Cb,Cb,Cb,<-ih];cases BV p<;>cases g p<;>simp
theorem QV(f:Fm)(hf:QO f):AO Tryz.prog 35 [f.v] (λr=>r=.bool (A1 f)):=by
 refine kB Tryz.func35 rfl ?_;repeat' (first|(refine A0 (λ_=>?_) (λ_=>?_)<;>conv=>whnf)|(refine kC (Ze f.name (by have:=hf.n;omega)) ?_)|refine Dd ?_|fail)
 ·rename_i h0 h1 h2;refine congrArg AV.bool ?_;rw[Hd,decide_eq_false (p:=f.lines.length<=8) (by simp at h2;omega)];simp
 rotate_left
 ·rename_i h0 h1;refine congrArg AV.bool ?_;rw[Hd,decide_eq_false (p:=1<=f.lines.length) (by simp at h1;omega)];simp
 ·rename_i h0;refine congrArg AV.bool ?_;rw[Hd,show H9 f.name=false by simpa using h0];simp
 ·rename_i h0 h1 h2
  have hv:A1 f=(f.lines.all FE&&f.lines.flatten.all (Kg f.lines.flatten)):=by
   rw[Hd,decide_eq_true (p:=f.lines.length<=8) (by simp at h2;omega),decide_eq_true (p:=1<=f.lines.length) (by simp at h1;omega),show H9 f.name=true by simpa using h0];simp
  have hL8:f.lines.length<=8:=by simp at h2;omega
  have cH:(f.lines.map CP).length=f.lines.length:=by simp
  conv=>whnf
  refine Aa.Aw (λi:Nat=>mk 77 [(1,.ptr 0 0),(2,.lit false),(3,.int .i64 i)]) (λi=>[.cells [.str f.name,.sl 1 (f.lines.map CP)]]) (λi=>i<=f.lines.length/\(f.lines.take i).all FE=true) (λi=>f.lines.length-i) (λ_ _=>⟨rfl,rfl,trivial⟩) ⟨0,?_⟩ (λ_=>rfl) λi hi=>?_
  ·refine kQ ?_;rfl
  ·obtain⟨hi,ha⟩:=hi;refine kR ?_;refine⟨λh=>?_,λh=>?_⟩
   ·have h:i<f.lines.length:=by have:=of_decide_eq_true h;omega
    have A7:=D4 i (by omega)
    have Ql:f.lines.take (i+1)=f.lines.take i++[f.lines[i]]:=Af h
    have aD:¬FE f.lines[i]=true->A1 f=false:=λhx=>by
     rw[hv,show f.lines.all FE=false from BI.2 ⟨f.lines[i],Ak h,by simpa using hx⟩];rfl
    refine kR ?_;refine⟨by omega,_,EV f i h,?_⟩
    refine kR ?_;refine⟨λg1=>?_,λg1=>?_⟩
    ·conv=>whnf
     refine⟨by omega,_,EV f i h,?_⟩
     refine kR ?_;repeat' (first|(refine A0 (λ_=>?_) (λ_=>?_)<;>conv=>whnf)|refine Dd ?_|fail)
     ·rename_i g2;exact congrArg AV.bool (aD (by simp at g2;simp[FE];omega)).symm
     ·rename_i g2;refine⟨i+1,?_⟩;refine CV A7 ?_;refine⟨⟨h,?_⟩,by omega⟩
      rw[Ql,Bv,ha];simp at g1 g2;simp[FE];omega
    ·refine kR ?_;repeat' (first|(refine A0 (λ_=>?_) (λ_=>?_)<;>conv=>whnf)|refine Dd ?_|fail)
     exact congrArg AV.bool (aD (by simp at g1;simp[FE];omega)).symm
   ·have h:i=f.lines.length:=by have:=of_decide_eq_false h;omega
    subst h;rw[Bh]at ha;rw[ha,E2]at hv;refine kR ?_;refine kC (KR f hf.l hf.l2) ?_;have KB:=QB f.lines hf.l2;have ZgR:f.lines.flatten.length<=8000:=by omega
    have hpt:∀p∈f.lines.flatten,p.t.length<=1000:=λp hp=>by
     obtain⟨l,hl,hp⟩:=C3.1 hp;exact hf.t l hl p hp
    have hrh:=λk=>C5 f k hf.l hf.l2
    generalize hL:f.lines.flatten=L at*;have hmL:(L.map Pt.v).length=L.length:=by simp
    refine Aa.Aw (λi:Nat=>mk 77 [(1,.ptr 0 0),(4,CP L),(5,.int .i64 i)]) (λi=>[.cells [.str f.name,.sl 1 (f.lines.map CP)]]) (λi=>i<=L.length/\(L.take i).all (Kg L)=true) (λi=>L.length-i) (λ_ _=>⟨rfl,rfl,trivial⟩) ⟨0,?_⟩ (λ_=>rfl) λi hi=>?_
    ·refine kQ ?_;rfl
    ·obtain⟨hi,hb⟩:=hi;refine kR ?_;refine⟨λh=>?_,λh=>?_⟩
     ·have h:i<L.length:=by have:=of_decide_eq_true h;omega
      have A7:=D4 i (by omega)
      have Ql:L.take (i+1)=L.take i++[L[i]]:=Af h
      have aI:¬Kg L L[i]=true->A1 f=false:=λhx=>by
       rw[hv];exact BI.2 ⟨L[i],Ak h,by simpa using hx⟩
      have WJ:Kg L L[i]=true->(L.take (i+1)).all (Kg L)=true:=λhx=>by
       rw[Ql,Bv,hb];simpa using hx
      refine kW ?_;refine Aa.draw [] Ag mO (by kernel_rfl) ?_
      conv=>whnf
      refine⟨by omega,_,EA L i h,?_⟩
      conv=>whnf
      refine⟨_,⟨dT L[i] (hpt _ (Ak h)),rfl⟩,?_⟩;conv=>whnf
      refine⟨λg1=>?_,λg1=>?_⟩
      ·conv=>whnf
       refine kR ?_
       refine⟨by omega,_,EA L i h,?_⟩
       conv=>whnf
       refine⟨λg2=>?_,λg2=>?_⟩
       ·conv=>whnf
        refine kR ?_
        refine⟨by omega,_,EA L i h,?_⟩
        conv=>whnf
        refine⟨_,⟨hrh L[i].k,rfl⟩,?_⟩
        conv=>whnf
        refine⟨λg3=>?_,λg3=>?_⟩
        ·conv=>whnf
         refine kR ?_
         repeat' (first|(refine A0 (λ_=>?_) (λ_=>?_)<;>conv=>whnf)|refine Dd ?_|fail)
         exact congrArg AV.bool (aI (by have:=of_decide_eq_true g3;unfold Kg;simp at g2;simp[g2];omega)).symm
        ·conv=>whnf
         refine kR ?_
         repeat' (first|(refine A0 (λ_=>?_) (λ_=>?_)<;>conv=>whnf)|refine Dd ?_|fail)
         refine⟨i+1,?_⟩
         refine CV A7 ?_
         exact⟨⟨h,WJ (by have:=of_decide_eq_false g3;unfold Kg;rw[g1];simp;omega)⟩,by omega⟩
       ·conv=>whnf
        refine kR ?_
        repeat' (first|(refine A0 (λ_=>?_) (λ_=>?_)<;>conv=>whnf)|refine Dd ?_|fail)
        refine⟨i+1,?_⟩
        refine CV A7 ?_
        exact⟨⟨h,WJ (by unfold Kg;rw[g1];simp at g2;simp[g2])⟩,by omega⟩
      ·conv=>whnf
       refine kR ?_
       repeat' (first|(refine A0 (λ_=>?_) (λ_=>?_)<;>conv=>whnf)|refine Dd ?_|fail)
       exact congrArg AV.bool (aI (by unfold Kg;simp[g1])).symm
     ·have h:i=L.length:=by have:=of_decide_eq_false h;omega
      rw[h,Bh]at hb;refine kW ?_;rw[hv,hb]
def NI(f:Fm)(ls:List Bs):Bool:=decide (ls.length<=8)&&decide (f.lines.length<=10)&&decide (f.name.length<=40)&&f.lines.all (λl=>decide (l.length<=10))&&f.lines.flatten.all (λp=>decide (p.t.length<=40))&&ls.all (λl=>decide (l.length<=200))
theorem Pb(f:Fm)(ls:List Bs):AO Tryz.prog 60 [f.v,AQ ls] (λr=>r=.bool (NI f ls)):=by
 refine kB Tryz.func60 rfl ?_;have cH:(f.lines.map CP).length=f.lines.length:=by simp
 have fY:(strs ls).length=ls.length:=by simp
 repeat' (first|(refine A0 (λ_=>?_) (λ_=>?_)<;>conv=>whnf)|refine Dd ?_|fail)
 ·rename_i h0 h1 h2;exact congrArg AV.bool (by unfold NI;rw[decide_eq_false (p:=f.name.length<=40) (by simp at h2;omega)];simp)
 rotate_left
 ·rename_i h0 h1;exact congrArg AV.bool (by unfold NI;rw[decide_eq_false (p:=f.lines.length<=10) (by simp at h1;omega)];simp)
 ·rename_i h0;exact congrArg AV.bool (by unfold NI;rw[decide_eq_false (p:=ls.length<=8) (by simp at h0;omega)];simp)
 ·rename_i h0 h1 h2
  have hv:NI f ls=(f.lines.all (λl=>decide (l.length<=10))&&f.lines.flatten.all (λp=>decide (p.t.length<=40))&&ls.all (λl=>decide (l.length<=200))):=by
   unfold NI;rw[decide_eq_true (p:=f.name.length<=40) (by simp at h2;omega),decide_eq_true (p:=f.lines.length<=10) (by simp at h1;omega),decide_eq_true (p:=ls.length<=8) (by simp at h0;omega)];simp
  have Znt:f.lines.length<=10:=by simp at h1;omega
  have hS8:ls.length<=8:=by simp at h0;omega
  conv=>whnf
  refine Aa.Aw (λi:Nat=>mk 65 [(1,AQ ls),(2,.ptr 0 0),(4,.lit false),(5,.int .i64 i)]) (λi=>[.cells [.str f.name,.sl 1 (f.lines.map CP)]]) (λi=>i<=f.lines.length/\(f.lines.take i).all (λl=>decide (l.length<=10))=true) (λi=>f.lines.length-i) (λ_ _=>⟨rfl,rfl,trivial⟩) ⟨0,?_⟩ (λ_=>rfl) λi hi=>?_
  ·refine kQ ?_;rfl
  ·obtain⟨hi,ha⟩:=hi;refine kR ?_;refine⟨λh=>?_,λh=>?_⟩
   ·have h:i<f.lines.length:=by have:=of_decide_eq_true h;omega
    have A7:=D4 i (by omega)
    have Ql:f.lines.take (i+1)=f.lines.take i++[f.lines[i]]:=Af h;refine kW ?_;refine⟨by omega,_,EV f i h,?_⟩
    refine kW ?_;repeat' (first|(refine A0 (λ_=>?_) (λ_=>?_)<;>conv=>whnf)|refine Dd ?_|fail)
    ·rename_i g;rw[hv,BI.2 ⟨f.lines[i],Ak h,by simp at g;simp;omega⟩]
     rfl
    ·rename_i g;refine⟨i+1,?_⟩;refine CV A7 ?_;refine⟨⟨h,?_⟩,by omega⟩
     rw[Ql,Bv,ha];simp at g;simp;omega
   ·have h:i=f.lines.length:=by have:=of_decide_eq_false h;omega
    subst h;rw[Bh]at ha;rw[ha,E2]at hv;have ND:∀l∈f.lines,l.length<=1000:=λl hl=>by have:=Bl.1 ha l hl;simp at this;omega
    refine kR ?_;refine kC (KR f (by omega) ND) ?_
    have KB:=QB f.lines ND;have ZgR:f.lines.flatten.length<=10000:=by omega
    generalize hL:f.lines.flatten=L at*;have hmL:(L.map Pt.v).length=L.length:=by simp
    refine Aa.Aw (λi:Nat=>mk 65 [(1,AQ ls),(4,.lit false),(6,CP L),(7,.int .i64 i)]) (λi=>[.cells [.str f.name,.sl 1 (f.lines.map CP)]]) (λi=>i<=L.length/\(L.take i).all (λp=>decide (p.t.length<=40))=true) (λi=>L.length-i) (λ_ _=>⟨rfl,rfl,trivial⟩) ⟨0,?_⟩ (λ_=>rfl) λi hi=>?_
    ·refine kQ ?_;rfl
    ·obtain⟨hi,hb⟩:=hi;refine kR ?_;refine⟨λh=>?_,λh=>?_⟩
     ·have h:i<L.length:=by have:=of_decide_eq_true h;omega
      have A7:=D4 i (by omega)
      have Ql:L.take (i+1)=L.take i++[L[i]]:=Af h;refine kW ?_;refine⟨by omega,_,EA L i h,?_⟩
      refine kW ?_;repeat' (first|(refine A0 (λ_=>?_) (λ_=>?_)<;>conv=>whnf)|refine Dd ?_|fail)
      ·rename_i g
       rw[hv,BI.2 ⟨L[i],Ak h,by simp at g;simp;omega⟩]
       rfl
      ·rename_i g
       refine⟨i+1,?_⟩
       refine CV A7 ?_
       refine⟨⟨h,?_⟩,by omega⟩
       rw[Ql,Bv,hb]
       simp at g
       simp
       omega
     ·have h:i=L.length:=by have:=of_decide_eq_false h;omega
      rw[h,Bh]at hb;rw[hb,E2]at hv;refine kR ?_;refine Aa.Aw (λi:Nat=>mk 65 [(1,AQ ls),(4,.lit false),(8,.int .i64 i)]) (λi=>[.cells [.str f.name,.sl 1 (f.lines.map CP)]]) (λi=>i<=ls.length/\(ls.take i).all (λl=>decide (l.length<=200))=true) (λi=>ls.length-i) (λ_ _=>⟨rfl,rfl,trivial⟩) ⟨0,?_⟩ (λ_=>rfl) λi hi=>?_
      ·refine kQ ?_
       rfl
      ·obtain⟨hi,hb⟩:=hi
       refine kR ?_
       refine⟨λh=>?_,λh=>?_⟩
       ·have h:i<ls.length:=by have:=of_decide_eq_true h;omega
        have A7:=D4 i (by omega)
        have Ql:ls.take (i+1)=ls.take i++[ls[i]]:=Af h
        refine kW ?_
        refine⟨by omega,_,Ep ls i h,?_⟩
        refine kW ?_
        repeat' (first|(refine A0 (λ_=>?_) (λ_=>?_)<;>conv=>whnf)|refine Dd ?_|fail)
        ·rename_i g
         rw[hv,BI.2 ⟨ls[i],Ak h,by simp at g;simp;omega⟩]
        ·rename_i g
         refine⟨i+1,?_⟩
         refine CV A7 ?_
         refine⟨⟨h,?_⟩,by omega⟩
         rw[Ql,Bv,hb]
         simp at g
         simp
         omega
       ·have h:i=ls.length:=by have:=of_decide_eq_false h;omega
        rw[h,Bh]at hb
        refine kW ?_
        rw[hv,hb]
end Go.Proofs.YtdadkhcdoaeabaaGreatDoor.Ff