/- The library's functions that the printer needs. -/
import Derived.Test.YtmmhehdlnjojjaaGreatDoorKg2
import Derived.Test.YtmmhehdlnjojjaaGreatDoorQm
set_option linter.unusedVariables false
set_option maxRecDepth 100000
set_option linter.unusedSectionVars false
set_option linter.unusedSimpArgs false
open Go.Proofs.Tryz
open Go.Proofs.Tryz renaming prog → Pg
open List renaming length_append → Ax, getElem?_eq_getElem → A0, take_succ_eq_append_getElem → A1, getElem?_map → A2, getElem_mem → A3, take_length → A4, map_append → A9, length_map → BU, all_eq_true → Cb, append_assoc → Ce, mem_map → Cz, intercalate → CJ, take_succ_cons → CT, length_cons → C1, take_of_length_le → C2, mem_of_getElem? → C4, flatMap_append → De, flatMap_cons → Dj, any_eq_true → Dp, cons_append → Dv, any_append → Dx, nil_append → Dy, length_nil → DL, length_zip → DP, map_cons → DT
open Bool renaming and_eq_true → A5, not_eq_false' → BG, not_eq_true' → BQ, true_and → CL, eq_iff_iff → C0
open And renaming intro → A6
open Nat renaming mul_le_mul_right → BK, zero_le → BR, min_eq_left → C3, le_of_lt → Dk
open Option renaming map_eq_some_iff → Cc, some → C5
namespace Go.Proofs.YtmmhehdlnjojjaaGreatDoor
theorem YaN{P:Prop}(e:P:=by
 refine⟨rfl,?_⟩;conv=>whnf
 refine⟨⟨by simp;omega,by simp;omega⟩,?_⟩;refine kW ?_;refine⟨Ga _ _,λhm=>?_,λv hm=>?_⟩;·(have hm:Gn l[k] a=none:=by rw[MB]at hm;simpa using hm);obtain⟨p1,p2⟩:=Zar l[k] k a hm;refine kW ?_;refine⟨Ga _ _,?_⟩;refine kW ?_;refine⟨(k+1,a++[(l[k],k)]),?_⟩;(conv=>whnf);(repeat(refine A6 ?_ ?_;(focus (first|rfl|(simp;done)|(first|exact EV|exact congr (congrArg HO.map p1) p2|exact congrArg (λx=>HO.cells [AV.own 3 1 0 x,AV.om 1]) (by simp;omega)|exact congrArg (HO.arr 9 1) (Iq l k h);done)));conv=>whnf));exact⟨⟨by show k+1<=l.length;omega,ha.new h hm⟩,by show l.length-(k+1)<l.length-k;omega⟩
 rw[MB]at hm;obtain⟨j,hj,rfl⟩:=Cc.1 hm;refine kW ?_;refine⟨(k+1,a),?_⟩;conv=>whnf
 repeat(refine A6 ?_ ?_;(focus (first|rfl|(simp;done)|(first|exact EV|exact congr (congrArg HO.map p1) p2|exact congrArg (λx=>HO.cells [AV.own 3 1 0 x,AV.om 1]) (by simp;omega)|exact congrArg (HO.arr 9 1) (Iq l k h);done)));conv=>whnf)
 exact⟨⟨by show k+1<=l.length;omega,ha.G5 h hj⟩,by show l.length-(k+1)<l.length-k;omega⟩):P:=e
theorem YaO{P:Prop}(e:P:=by
 refine kW ?_;refine⟨by omega,_,NB,?_⟩;refine kW ?_;refine⟨rfl,?_⟩;conv=>whnf
 refine⟨⟨by simp;omega,by simp;omega⟩,?_⟩;refine kW ?_;refine⟨k+1,?_⟩;conv=>whnf
 repeat(refine A6 ?_ ?_;(focus (first|rfl|(simp;done)|(first|exact EV|exact congrArg (AV.own 1 1 0) (by simp;omega)|exact congrArg (HO.arr 9 1) Ai.symm;done)));conv=>whnf)
 omega):P:=e
theorem YaP{P:Prop}(e:P:=by
 conv=>whnf
 repeat(refine A6 ?_ ?_;(focus (first|rfl|(simp;done)|(first|exact congrArg (AV.own 1 1 0) (by simp<;>omega);done)));conv=>whnf)
 exact⟨by simp[Gq,strs],BR _⟩):P:=e
theorem YaQ{P:Prop}(e:P:=by
 refine kW ?_;refine⟨k+1,?_⟩;conv=>whnf
 repeat(refine A6 ?_ ?_;(focus (first|rfl|(simp;done)|(first|exact EV|exact congrArg (λx=>HO.inv (Qo wT wE b x)) (by rw[Ai];simp);done)));conv=>whnf)
 omega):P:=e
theorem YaR{P:Prop}(e:P:=by
 refine kW ?_;refine Ah.BZ (hp l[k] (A3 h)) (by simp[AI,closed,hc]) λr hr=>?_;subst hr;refine kW ?_
 repeat' (first|(refine A6 (λ_=>?_) (λ_=>?_)<;>conv=>whnf)|refine Ql ?_|fail)
 ·rename_i h5;exact⟨_,rfl,by rw[show l.any p=true from Dp.2 ⟨l[k],A3 h,h5⟩];simp⟩
 rename_i h5;refine⟨k+1,?_⟩;refine gF EV ?_;exact⟨⟨by omega,by rw[A1 h,Dx,ha];simpa using h5⟩,by omega⟩):P:=e
theorem YaS{P:Prop}(e:P:=by
 have h:k=l.length:=by simp at h;omega
 subst h;refine kW ?_;refine⟨⟨by simp,Cm _⟩,?_⟩;conv=>whnf
 exact⟨a,by simp[eD],ha⟩):P:=e
theorem YaT{P:Prop}(e:P:=by
 conv=>whnf
 repeat(refine A6 ?_ ?_;(focus (first|rfl|(simp;done)|(first|exact congrArg (AV.int .i64) (by simp);done)));conv=>whnf)
 exact FI.zero l):P:=e
theorem YaU{P:Prop}(e:P:=by
 have h:k=l.length:=by simp at h;omega
 rw[h,A4]at ha;refine kW ?_;exact⟨_,rfl,by rw[ha];decide⟩):P:=e
theorem YaV{P:Prop}(e:P:=by (have q0:An x.name=false:=by simpa using q0);refine kW ?_;exact congrArg AV.bool (Zg5 q0).symm):P:=e
end Go.Proofs.YtmmhehdlnjojjaaGreatDoor
namespace Go.Proofs.YtmmhehdlnjojjaaGreatDoor.Np
open Go.Av Go.Av.Net Go.RowKit Go.Sort
theorem OW(w:World)(k:Nat)(os:Array Obj):Below w.heap.size w (grow (w.drewN k) os):=
 ⟨rfl,rfl,rfl,by simp[grow,World.drewN],λb hb=>by simp only[grow,World.drewN];rw[Array.getElem?_append_left hb]⟩
theorem Yv{C:Af}{w:World}(h:gE C w):Lib.TabIs Pg w "internal/strconv.uint64pow10" .u64 Lib.pow10Tab:=by
 have hx:(5,Lib.pow10Tab.map (AV.int .u64))∈MO:=C4 (i:=5) (by kernel_rfl);obtain⟨cur,e,fz,h1,h2⟩:=h.gs _ hx (by intro h;cases h);have hc:=h.gl _ hx;unfold Lib.TabIs World.var?;rw[show Pg.globalNamed "internal/strconv.uint64pow10"=some 5 by kernel_rfl];simp only[Option.bind_some]at h1 h2 hc ⊢;rw[h1];simp only[C5.injEq];apply Array.ext;simpa using h2;intro i h3 h4;have h5:i<(Lib.pow10Tab.map (AV.int .u64)).length:=by omega
 obtain⟨v,_,LS,hr⟩:=(Dc _ _).1 hc i h5;have:=LS.2;rw[Nat.zero_add,cell_of_row w _ i cur e fz h1]at this;simp only[List.getElem_map]at hr;unfold Aj at hr;obtain⟨rfl,_⟩:=hr;rw[Array.getElem?_eq_getElem h3]at this;simp only[C5.injEq]at this;rw[this];simp
theorem Hn(n:Int)(h0:-9223372036854775808<=n)(h1:n<=9223372036854775807)(hl:(Lib.itoa n).length<=9223372036854775807):Au Pg 24 [.int .i64 n] (λr=>r=.str (Lib.itoa n)):=by
 refine⟨by kernel_rfl,λC w vs AA hr=>?_⟩;unfold Ac at hr;obtain⟨v1,_,rfl,h2,hr⟩:=hr;unfold Ac at hr;subst hr;unfold Aj at h2;obtain⟨rfl,_⟩:=h2;refine(Tryz.strconv_Itoa n h0 h1 w (Yv AA)).mono λe w' ⟨h3,k,os,h4⟩=>?_;subst h4;exact⟨_,_,h3,rfl,OW w k os,by unfold Aj;exact⟨rfl,hl⟩⟩
theorem Nx(l:List Bs)(hN:l.length<=140737488355328)(hlen:(Lib.join l [32]).length<=140737488355328):Au Pg 77 [.sl 1 (strs l),.str [32]] (λr=>r=.str (Lib.join l [32])):=
 cW Tryz.PL Tryz.AN rfl (by kernel_rfl) l [32] hN hlen
open Go.Av
def oI:Go.Shelf.Ren:=⟨λ|167=>70|n=>Tryz.Cv.f n,Tryz.Cv.t,Tryz.Cv.g⟩
theorem pA:Go.Proofs.Lays.n167 Pg oI:={Tryz.PL,Tryz.AN with f167:=func70.trans (congrArg some (by kernel_rfl))}
theorem pB:Go.Proofs.Lays.n166 Pg Tryz.Cv:={Tryz.PL with}
theorem oZ:Go.Proofs.Lays.n169 Pg Tryz.Cv:={Tryz.PL with}
theorem ZfO:Builder.Extra Pg oI:={sizeBuilder:=Tryz.AN.sizeBuilder,liesBuilder:=Tryz.AN.liesBuilder,t5:=Tryz.AN.t5,a5:=Tryz.AN.a5,z5:=Tryz.AN.z5,v5:=Tryz.AN.v5,infoByte:=Tryz.AN.infoByte,cellsByte:=Tryz.AN.cellsByte,sizeByte:=Tryz.AN.sizeByte,neB5:=Tryz.AN.neB5}
abbrev wT:Nat:=115
abbrev wE:Nat:=5
theorem yU:liesAt Pg Pg.depth wT (2/Pg.cellsOf wT) 0 (Tryz.Cv.t 72) 1=true:=by kernel_rfl
theorem Zfc(c:UInt8):FO Pg wT wE 70 [.int .u8 c.toNat] [c]:=
 FO.byte (P:=Pg) (ρ:=oI) (T:=wT) (by kernel_rfl) pA ZfO yU (by decide) c
theorem yZ(s:List UInt8):FO Pg wT wE 69 [.str s] s:=
 FO.text (P:=Pg) (ρ:=Tryz.Cv) (T:=wT) (by kernel_rfl) pB Tryz.AN yU (by decide) s
theorem Zdd:nO Pg wT wE 57:=
 nO.of_string (P:=Pg) (ρ:=Tryz.Cv) (T:=wT) (by kernel_rfl) oZ Tryz.AN
open Go.Av Go.Av.Net
def LK(ws:List Bs):Bs:=Lib.join ws [32]++[10]
theorem uQ(ws:List Bs)(k:Nat)(h:k<ws.length):Lib.join (ws.take (k+1)) [32]=Lib.join (ws.take k) [32]++((if k=0 then []else [32])++ws[k]):=by
 cases ws with
 |nil=>simp at h
 |cons x r=>
  cases k with
  |zero=>simp[Lib.join_one,Lib.join_nil]
  |succ j=>
   (have hj:j<r.length:=by simpa using h);rw[CT,CT,Lib.join_cons,Lib.join_cons,Lib.joinTail_take_succ [32] r j r[j] (A0 hj)];simp
theorem Od(ws:List Bs)(k:Nat):(Lib.join (ws.take k) [32]).length<=(Lib.join ws [32]).length:=by
 cases ws with
 |nil=>simp
 |cons x r=>
  cases k with
  |zero=>simp[Lib.join_nil]
  |succ j=>
   rw[CT,Lib.join_cons,Lib.join_cons,Ax,Ax];have:=Lib.joinTail_take_le [32] r j;omega
set_option maxHeartbeats 2000000 in
theorem Un(ws:List Bs)(hws:ws.length<=100000):FO Pg wT wE 54 [.sl 1 (strs ws)] (LK ws):=by
 refine FO.Ak func54 rfl (by kernel_rfl) rfl λb bs hl=>?_;have gJ:(LK ws).length=(Lib.join ws [32]).length+1:=by simp[LK]
 refine kW ?_;refine Aa.Ar (λk:Nat=>mk 29 [(0,.raw (H9 b)),(1,.sl 1 (strs ws)),(6,.sl 1 (strs ws)),(7,.int .i64 ws.length),(8,.int .i64 k)]) (λk=>[.inv (Qo wT wE b (bs++Lib.join (ws.take k) [32]))]) (λk=>k<=ws.length) (λk=>ws.length-k) (λ_ _=>⟨rfl,trivial⟩) ⟨0,?_⟩ (λ_=>rfl) λk hk=>?_;refine kQ ?_;exact⟨by simp[Lib.join_nil],by omega⟩;have hsl:(strs ws).length=ws.length:=by simp[strs]
 have hle:=Od ws k;refine kR ?_;constructor<;>intro h
 ·have h:k<ws.length:=by simpa using h
  have EV:Wr .i64 ((k:Int)+1)=((k+1:Nat):Int):=by rw[qW];rfl
  have Ai:=uQ ws k h;have vQ:=Od ws (k+1);refine kW ?_;refine⟨by omega,_,CW ws k h,?_⟩;refine kW ?_;have nxt:∀(E':List AV),bs++Lib.join (ws.take (k+1)) [32]=bs++Lib.join (ws.take k) [32]++((if k=0 then []else [32])++ws[k]):=λ_=>by rw[Ai];simp
  constructor<;>intro h0;·(have h0:k≠0:=by simp at h0;omega);rw[if_neg h0]at Ai;refine kW ?_;refine Ah.F0 rfl (Zfc 32) rfl (by rw[Ai]at vQ;simp at vQ⊢;omega) ?_;refine kW ?_;refine Ah.F0 rfl (yZ ws[k]) rfl (by rw[Ai]at vQ;simp at vQ⊢;omega) ?_;refine kW ?_;refine⟨k+1,?_⟩;refine gF EV ?_;exact⟨by rw[Ai];simp,by omega,by omega⟩
  have h0:k=0:=by simp at h0;omega
  rw[if_pos h0]at Ai;refine kW ?_;refine Ah.F0 rfl (yZ ws[k]) rfl (by rw[Ai]at vQ;simp at vQ⊢;omega) ?_;refine kW ?_;refine⟨k+1,?_⟩;refine gF EV ?_;exact⟨by rw[Ai];simp,by omega,by omega⟩
 have h:k=ws.length:=by simp at h;omega
 rw[h,A4];refine kW ?_;refine Ah.F0 rfl (Zfc 10) rfl (by simp;omega) ?_;conv=>whnf
 exact⟨[],by simp[LK]⟩
def Rj(ws:List Bs):Bs:=[32,32]++(Lib.join ws [32]++[59])++[10]
set_option maxHeartbeats 2000000 in
theorem ZeJ(ws:List Bs)(hws:ws.length<=100000):FO Pg wT wE 56 [.sl 1 (strs ws)] (Rj ws):=by
 refine FO.Ak func56 rfl (by kernel_rfl) rfl λb bs hl=>?_;have gJ:(Rj ws).length=(Lib.join ws [32]).length+4:=by simp[Rj]
 refine kW ?_;refine Ah.F0 rfl (yZ [32,32]) rfl (by simp;omega) ?_;refine kW ?_;refine kC (Nx ws (by omega) (by omega)) ?_;refine⟨by simp;omega,?_⟩;refine kW ?_;refine Ah.freeze 1 ?_ (by kernel_rfl);conv=>whnf
 refine⟨by intro a ha;simp at ha;subst ha;rfl,?_⟩;conv=>whnf
 repeat(refine⟨(by first|rfl|(simp;done):(_:Nat)=_),?_⟩;conv=>whnf)
 refine Ah.F0 rfl (Un [Lib.join ws [32]++[59]] (by simp)) rfl (by simp[LK,Lib.join_one];omega) ?_;conv=>whnf
 exact⟨_,by simp[Rj,LK,Lib.join_one];rfl⟩
open Go.Av Go.Av.Net Pl
theorem RX(b:UInt8):Au Pg 88 [.int .u8 b.toNat] (λr=>r=.bool (BM b)):=by
 refine Au.Ak func88 rfl Ab (by kernel_rfl) ?_;conv=>whnf
 refine Ay Ab _ ?_;conv=>whnf
 repeat' (refine A6 (λ_=>?_) (λ_=>?_)<;>conv=>whnf)
 all_goals (refine congrArg AV.bool ?_;rw[C0];simp_all[BM]<;>omega)
theorem RY(b:UInt8):Au Pg 87 [.int .u8 b.toNat] (λr=>r=.bool (DG b)):=by
 refine Au.Ak func87 rfl Ab (by kernel_rfl) ?_;conv=>whnf
 refine Ay Ab _ ?_;conv=>whnf
 repeat' (refine A6 (λ_=>?_) (λ_=>?_)<;>conv=>whnf)
 all_goals (refine congrArg AV.bool ?_;rw[C0];simp_all[DG]<;>omega)
theorem jG(s:Bs)(hs:s.length<=8000):Au Pg 43 [.str s] (λr=>r=.bool (Bt s)):=by
 refine Au.Ak func43 rfl Ab (by kernel_rfl) ?_;conv=>whnf
 refine Ay Ab _ ?_;conv=>whnf
 constructor<;>intro h1
 ·have h1:1<=s.length:=by simp at h1;omega
  conv=>whnf
  constructor<;>intro h2;·(conv=>whnf);(have h2:¬s.length<=8:=by simp at h2;omega);simp[Bt,h2]
  have h2:s.length<=8:=by simp at h2;omega
  conv=>whnf
  refine Aa.G6 (λk:Nat=>mk 32 [(0,.str s),(14,.sl 1 (Gt s)),(15,.int .i64 (Gt s).length),(16,.int .i64 k)]) (λ_=>[]) (λk=>k<=s.length/\(s.all GP)=(s.drop k).all GP) (λk=>s.length-k) ⟨0,?_⟩ λk hk=>?_;refine kQ ?_;rfl;obtain⟨hk,he⟩:=hk;refine Ay Ab _ ?_;conv=>whnf
  refine⟨λAA=>?_,λET=>?_⟩
  ·(have AA:k<s.length:=by simpa using AA);rw[HR _ s k AA]at he;(conv=>whnf);refine⟨by omega,.int .u8 s[k].toNat,I6 _ _ AA,?_⟩;(conv=>whnf);refine cS (RY s[k]) rfl ?_;conv=>whnf
   repeat' (refine A6 (λ_=>?_) (λ_=>?_)<;>conv=>whnf)
   all_goals first
    |(refine⟨k+1,?_⟩
      conv=>whnf
      refine qG ?_
      have hn:GP s[k]=true:=by simp_all[GP]<;>omega
      rw[hn]at he
      exact⟨⟨by omega,he⟩,by omega⟩)
    |(have hn:GP s[k]=false:=by simp_all[GP]<;>omega
      rw[hn]at he
      simp[I2,he];done)
  have ET:s.length<=k:=by simp at ET;omega
  conv=>whnf
  have:k=s.length:=by omega
  subst this;simp at he;rw[I2];simp[h1,h2];exact he
 conv=>whnf
 have h1:¬1<=s.length:=by simp at h1;omega
 simp[Bt,h1]
theorem OA(s:Bs)(hs:s.length<=8000):Au Pg 44 [.str s] (λr=>r=.bool (An s)):=by
 refine Au.Ak func44 rfl Ab (by kernel_rfl) ?_;conv=>whnf
 refine Ay Ab _ ?_;conv=>whnf
 constructor<;>intro h1
 ·have h1:1<=s.length:=by simp at h1;omega
  conv=>whnf
  constructor<;>intro h2
  ·(have h2:s.length<=16:=by simp at h2;omega);(conv=>whnf);refine⟨⟨by omega,by omega⟩,?_⟩;(conv=>whnf);(have hg:s.getD (0:Int).toNat 0=s.headD 0:=by cases s<;>rfl);rw[hg];refine cS (RX (s.headD 0)) rfl ?_;(conv=>whnf);constructor<;>intro h3;·(conv=>whnf);(have h3:BM (s.headD 0)=false:=by simpa using h3);simp only[BN,h3,Bool.and_false,Bool.false_and]
   (have h3:BM (s.headD 0)=true:=by simpa using h3);(conv=>whnf);refine Aa.G6 (λk:Nat=>mk 49 [(0,.str s),(22,.sl 1 (Gt s)),(23,.int .i64 (Gt s).length),(24,.int .i64 k)]) (λ_=>[]) (λk=>k<=s.length/\(s.all VA)=(s.drop k).all VA) (λk=>s.length-k) ⟨0,?_⟩ λk hk=>?_;refine kQ ?_;rfl;obtain⟨hk,he⟩:=hk;refine Ay Ab _ ?_;(conv=>whnf);refine⟨λAA=>?_,λET=>?_⟩
   ·(have AA:k<s.length:=by simpa using AA);rw[HR _ s k AA]at he;(conv=>whnf);refine⟨by omega,.int .u8 s[k].toNat,I6 _ _ AA,?_⟩;(conv=>whnf);refine cS (RX s[k]) rfl ?_;conv=>whnf
    repeat' (first|(refine A6 (λ_=>?_) (λ_=>?_)<;>conv=>whnf)|(refine cS (RY s[k]) rfl ?_;(conv=>whnf)))
    all_goals first
     |(refine⟨k+1,?_⟩
       conv=>whnf
       refine qG ?_
       have hn:VA s[k]=true:=by simp_all[VA]<;>omega
       rw[hn]at he
       exact⟨⟨by omega,he⟩,by omega⟩)
     |(have hn:VA s[k]=false:=by simp_all[VA]<;>omega
       rw[hn]at he
       simp[BN,he];done)
   (have ET:s.length<=k:=by simp at ET;omega);(have:k=s.length:=by omega);subst this;(have h4:s.all VA=true:=by rw[he];simp);(conv=>whnf);refine Aa.G6 (λk:Nat=>mk 49 [(0,.str s),(41,.agg (strs Bh)),(42,.int .i64 k)]) (λ_=>[]) (λk=>k<=17/\Bh.any (λx=>decide (s=x))=(Bh.drop k).any (λx=>decide (s=x))) (λk=>17-k) ⟨0,?_⟩ λk hk=>?_;refine kQ ?_;rfl;obtain⟨hk,he⟩:=hk;refine Ay Ab _ ?_;(conv=>whnf);refine⟨λAA=>?_,λET=>?_⟩
   ·(have AA:k<17:=by simp at AA;omega);have F5:k<Bh.length:=AA;rw[Vq _ Bh k F5]at he;(conv=>whnf);refine⟨⟨by omega,by omega⟩,.str Bh[k],CW _ _ F5,?_⟩;(conv=>whnf);refine⟨λht=>?_,λhf=>?_⟩;·(conv=>whnf);(have ht:s=Bh[k]:=by simpa using ht);rw[decide_eq_true ht,Bool.true_or]at he;simp only[BN,he];simp
    (conv=>whnf);(have hf:¬s=Bh[k]:=by simpa using hf);rw[decide_eq_false hf,Bool.false_or]at he;refine⟨k+1,?_⟩;refine qG ?_;exact⟨⟨by omega,he⟩,by omega⟩
   (have ET:17<=k:=by simp at ET;omega);(have:k=17:=by omega);subst this;(conv=>whnf);(have h5:Bh.any (λx=>decide (s=x))=false:=by rw[he];rfl);simp only[BN,h3,h4,h5];simp[h1,h2]
  conv=>whnf
  have h2:¬s.length<=16:=by simp at h2;omega
  simp[BN,h2]
 conv=>whnf
 have h1:¬1<=s.length:=by simp at h1;omega
 simp[BN,h1]
def R3(l:List Int):List AV:=l.map (.int .i64)
@[simp] theorem YS(l:List Int):(R3 l).length=l.length:=by simp[R3]
theorem uS(l:List Int)(k:Nat)(h:k<l.length):(R3 l)[k]?=some (.int .i64 l[k]):=by simp[R3,h]
theorem dB(l:List Bs)(g:Nat)(cap:List AV)(p:Bs->Bool)(hl:l.length<=100000)(hc:AI cap=true)(hw:AR [] cap=true)(hp:∀x∈l,Au Pg g (.str x::cap) (λr=>r=.bool (p x))):
  Au Pg 86 [.sl 1 (strs l),.fn g cap] (λr=>∃i:Int,r=.int .i64 i/\decide (0<=i)=l.any p):=by
 refine kB func86 rfl ?_;have hsl:=Mf l;refine Aa.Ar (λk:Nat=>mk 19 [(0,.sl 1 (strs l)),(1,.fn g cap),(7,.int .i64 l.length),(8,.int .i64 k)]) (λ_=>[]) (λk=>k<=l.length/\(l.take k).any p=false) (λk=>l.length-k) (λ_ _=>⟨by show(AR [] cap&&_)=true;rw[hw];rfl,trivial⟩) ⟨0,?_⟩ (λ_=>rfl) λk hk=>?_;refine kQ ?_;rfl;obtain⟨hk,ha⟩:=hk;refine kR ?_;constructor<;>intro h
 ·have h:k<l.length:=by simpa using h
  have EV:Wr .i64 ((k:Int)+1)=((k+1:Nat):Int):=by rw[qW];rfl
  refine kW ?_;refine⟨by omega,_,CW l k h,?_⟩;exact YaR
 exact YaU
theorem MV(l:List Bs)(g:Nat)(cap:List AV)(p:Bs->Bool)(hl:l.length<=100000)(hc:AI cap=true)(hw:AR [] cap=true)(hp:∀x∈l,Au Pg g (.str x::cap) (λr=>r=.bool (p x))):
  Au Pg 41 [.sl 1 (strs l),.fn g cap] (λr=>r=.bool (l.any p)):=by
 refine kB func41 rfl ?_;refine Ah.BZ (dB l g cap p hl hc hw hp) (by simp[AI,closed,hc]) λr hr=>?_;obtain⟨i,rfl,hi⟩:=hr;refine kW ?_;rw[<-hi]
theorem dC(l:List Int)(g:Nat)(cap:List AV)(p:Int->Bool)(hl:l.length<=100000)(hc:AI cap=true)(hw:AR [] cap=true)(hp:∀x∈l,Au Pg g (.int .i64 x::cap) (λr=>r=.bool (p x))):
  Au Pg 84 [.sl 1 (R3 l),.fn g cap] (λr=>∃i:Int,r=.int .i64 i/\decide (0<=i)=l.any p):=by
 refine kB func84 rfl ?_;have hsl:=YS l;refine Aa.Ar (λk:Nat=>mk 19 [(0,.sl 1 (R3 l)),(1,.fn g cap),(7,.int .i64 l.length),(8,.int .i64 k)]) (λ_=>[]) (λk=>k<=l.length/\(l.take k).any p=false) (λk=>l.length-k) (λ_ _=>⟨by show(AR [] cap&&_)=true;rw[hw];rfl,trivial⟩) ⟨0,?_⟩ (λ_=>rfl) λk hk=>?_;refine kQ ?_;rfl;obtain⟨hk,ha⟩:=hk;refine kR ?_;constructor<;>intro h
 ·have h:k<l.length:=by simpa using h
  have EV:Wr .i64 ((k:Int)+1)=((k+1:Nat):Int):=by rw[qW];rfl
  refine kW ?_;refine⟨by omega,_,uS l k h,?_⟩;exact YaR
 exact YaU
theorem MW(l:List Int)(g:Nat)(cap:List AV)(p:Int->Bool)(hl:l.length<=100000)(hc:AI cap=true)(hw:AR [] cap=true)(hp:∀x∈l,Au Pg g (.int .i64 x::cap) (λr=>r=.bool (p x))):
  Au Pg 37 [.sl 1 (R3 l),.fn g cap] (λr=>r=.bool (l.any p)):=by
 refine kB func37 rfl ?_;refine Ah.BZ (dC l g cap p hl hc hw hp) (by simp[AI,closed,hc]) λr hr=>?_;obtain⟨i,rfl,hi⟩:=hr;refine kW ?_;rw[<-hi]
theorem UC(n:Int):Au Pg 36 [.int .i64 n] (λr=>r=.bool (Jf n)):=by
 refine kB func36 rfl ?_
 repeat' (first|(refine A6 (λ_=>?_) (λ_=>?_)<;>conv=>whnf)|refine Ql ?_|fail)
 all_goals (refine congrArg AV.bool ?_;rw[C0];simp_all[Jf]<;>omega)
theorem Ru(n:Int):Au Pg 85 [.int .i64 n] (λr=>r=.bool (!E7 n)):=by
 refine kB func85 rfl ?_
 repeat' (first|(refine A6 (λ_=>?_) (λ_=>?_)<;>conv=>whnf)|refine Ql ?_|fail)
 all_goals (refine congrArg AV.bool ?_;rw[C0];simp_all[E7]<;>omega)
theorem H7(l:List Int)(hl:l.length<=100000):Au Pg 40 [.sl 1 (R3 l)] (λr=>r=.bool (l.all E7)):=by
 refine kB func40 rfl ?_;refine kC (MW l _ [] (λn=>!E7 n) hl rfl rfl λx _=>Ru x) ?_;refine congrArg AV.bool ?_;simp[List.any_eq_not_all_not]
theorem Zcq(n:Int):Au Pg 38 [.int .i64 n] (λr=>r=.bool (!Jf n)):=by
 refine kB func38 rfl ?_;exact pE (UC n)
theorem mG(s:Bs)(hs:s.length<=8000):Au Pg 42 [.str s] (λr=>r=.bool (!Bt s)):=by
 refine kB func42 rfl ?_;exact pE (jG s hs)
theorem lK(s:Bs)(hs:s.length<=8000):Au Pg 83 [.str s] (λr=>r=.bool (!An s)):=by
 refine kB func83 rfl ?_;exact pE (OA s hs)
abbrev ZJ:=List (Bs×Nat)
def Gn(s:Bs):ZJ->Option Nat
 |[]=>none
 |x::r=>bif decide (x.1=s)then some x.2 else Gn s r
def HM(a:ZJ):List AV:=strs (a.map Prod.fst)
def Kz(a:ZJ):List AV:=a.map λx=>.int .i64 x.2
theorem Ga(s:Bs)(a:ZJ):∀x∈HM a,Ij (.str s) x=true:=by
 intro x hx;obtain⟨y,_,rfl⟩:=Cz.1 hx;rfl
theorem MB(s:Bs):∀a:ZJ,QV (.str s) (HM a) (Kz a)=(Gn s a).map λi=>AV.int .i64 ((i:Nat):Int)
 |[]=>rfl
 |x::a=>by
  have ih:=MB s a;unfold QV at ih⊢;simp only[HM,Kz,strs,DT,IQ,Kl,Gn]at ih ⊢;by_cases h:x.1=s;·(have hb:(s == x.1)=true:=by simp[h]);rw[hb,decide_eq_true h];rfl
  have hb:(s == x.1)=false:=by simpa using λe=>h e.symm
  rw[hb,decide_eq_false h];simp only[cond_false];rw[<-ih,Option.bind_map];rfl
theorem Za0(s:Bs):∀a:ZJ,Gn s a=none->IQ (.str s) (HM a)=none
 |[],_=>rfl
 |x::a,h=>by
  unfold Gn at h;by_cases hx:x.1=s;rw[decide_eq_true hx]at h;simp at h;rw[decide_eq_false hx]at h;simp only[cond_false]at h;have ih:=Za0 s a h;have hb:(s == x.1)=false:=by simpa using λe=>hx e.symm
  simp only[HM,strs,DT,IQ,Kl]at ih ⊢;rw[hb];simp only[cond_false];rw[ih];rfl
theorem Zar(s:Bs)(i:Nat)(a:ZJ)(h:Gn s a=none):Ob (.str s) (HM a)=HM (a++[(s,i)])/\Oa (.str s) (.int .i64 (i:Int)) (HM a) (Kz a)=Kz (a++[(s,i)]):=by
 unfold Ob Oa;rw[Za0 s a h];simp[HM,Kz,strs]
theorem Vs(t s:Bs)(i:Nat):∀a:ZJ,Gn t (a++[(s,i)])=match Gn t a with|some j=>some j|none=>if s=t then some i else none
 |[]=>by simp only[Dy,Gn];by_cases h:s=t<;>simp[h]
 |x::a=>by have ih:=Vs t s i a;simp only[Dv,Gn];by_cases h:x.1=t;simp[h];simp[h,ih]
theorem OF(t y:Bs):∀l:List Bs,idxOf t (l++[y])=match idxOf t l with|some j=>some j|none=>if y=t then some l.length else none
 |[]=>by simp only[Dy,idxOf];by_cases h:y=t<;>simp[h]
 |x::l=>by
  have ih:=OF t y l;simp only[Dv,idxOf];by_cases h:x=t;simp[h];simp only[h,decide_false,cond_false,ih];cases idxOf t l with
  |some j=>rfl
  |none=>by_cases hy:y=t<;>simp[hy]
def FI(l:List Bs)(k:Nat)(a:ZJ):Prop:=∀t,Gn t a=idxOf t (l.take k)
theorem FI.zero(l:List Bs):FI l 0 []:=λt=>by simp[Gn,idxOf]
theorem FI.G5{l:List Bs}{k:Nat}{a:ZJ}(h:FI l k a)(hk:k<l.length){j:Nat}(hs:Gn l[k] a=some j):FI l (k+1) a:=λt=>by
 rw[A1 hk,OF,<-h t];cases ht:Gn t a with
 |some i=>rfl
 |none=>
  by_cases e:l[k]=t;rw[e,ht]at hs;cases hs;simp[e]
theorem FI.new{l:List Bs}{k:Nat}{a:ZJ}(h:FI l k a)(hk:k<l.length)(hs:Gn l[k] a=none):FI l (k+1) (a++[(l[k],k)]):=λt=>by
 rw[A1 hk,OF,Vs,<-h t];cases ht:Gn t a with
 |some i=>rfl
 |none=>simp[List.length_take,C3 (Dk hk)]
def eD(l:List Bs)(a:ZJ):AV:=.agg [.sl 1 (strs l),.mp (HM a) (Kz a)]
def Ey(o:JV):AV:=.agg [.str o.name,.int .i64 o.oper,.int .i64 o.Gs,.int .i64 o.Bg,.int .i64 o.As,.int .i64 o.Ap,.sl 1 (strs o.AK)]
def Jy(l:Na):AV:=.agg [.str l.name,.int .i64 l.from_,.int .i64 l.VJ,.int .i64 l.at_,.int .i64 l.Bb,.int .i64 l.load]
def Kd(n:G3):AV:=.agg [.sl 3 (n.Aq.map ED),.sl 1 (strs n.names),.sl 1 (n.opers.map BP),.sl 7 (n.Ag.map Ey),.sl 6 (n.Am.map Jy),.sl 3 (n.Ao.map Ft)]
theorem jY(s:Bs):Au Pg 30 [.str s] (λr=>r=.str s):=by
 exact kBe func30 rfl
theorem jX(s:Bs):Au Pg 32 [BP s] (λr=>r=.str s):=by
 exact kBe func32 rfl
theorem jW(o:JV):Au Pg 34 [Ey o] (λr=>r=.str o.name):=by
 exact kBe func34 rfl
theorem Sm(s:Bs):∀e∈Gt s,closed e=true:=by
 intro e he;obtain⟨x,_,rfl⟩:=Cz.1 he;rfl
theorem NH{α:Type}(f:α->Bs)(l:List α)(k:Nat)(h:k<l.length):(l.take (k+1)).flatMap f=(l.take k).flatMap f++f l[k]:=by
 rw[A1 h,De];simp
theorem Rh{α:Type}(f:α->Bs)(l:List α)(k:Nat):((l.take k).flatMap f).length<=(l.flatMap f).length:=by
 have h:(l.flatMap f).length=((l.take k).flatMap f).length+((l.drop k).flatMap f).length:=by rw[<-Ax,<-De,List.take_append_drop]
 omega
theorem eX(n:Nat):Lib.decDigits n=Jh n:=by
 induction n using Nat.strongRecOn with
 |ind n ih=>
  rw[JD,Lib.decDigits];by_cases h:n<10;rw[dif_pos h,if_pos h];congr 1;apply UInt8.toNat_inj.1;rw[P9 h];simp[UInt8.toNat_ofNat'];omega;rw[dif_neg h,if_neg h,ih (n/10) (by omega)];congr 2;have h1:n%10<10:=Nat.mod_lt _ (by omega);apply UInt8.toNat_inj.1;rw[P9 h1];simp[UInt8.toNat_ofNat'];omega
theorem PN(n:Int):Lib.itoa n=D8 n:=by
 unfold Lib.itoa D8;split;rw[eX];congr 2;omega;rw[eX]
theorem KF:∀(k n:Nat),n<10^(k+1)->(Jh n).length<=k+1
 |0,n,h=>by rw[JD,if_pos (by simpa using h)];simp
 |k+1,n,h=>by rw[JD];split;simp;have:=KF k (n/10) (by rw[Nat.div_lt_iff_lt_mul (by omega)];rw[Nat.pow_succ]at h;exact h);simp;omega
theorem EC{n:Int}(h:Jf n=true):(D8 n).length<=9:=by
 unfold Jf at h;simp only[A5,decide_eq_true_eq]at h;unfold D8;split;have:=KF 7 (-n).toNat (by omega);simp;omega;have:=KF 7 n.toNat (by omega);omega
theorem FJ{n:Int}(h:Jf n=true):Au Pg 24 [.int .i64 n] (λr=>r=.str (D8 n)):=by
 have hl:=EC h;unfold Jf at h;simp only[A5,decide_eq_true_eq]at h;have:=Hn n (by omega) (by omega) (by rw[PN];omega);rwa [PN]at this
theorem wL(k v:Bs):Rj [k,v]=Cs k v:=by simp[Rj,Cs,Lib.join,CJ]
theorem ZbJ(k v:Bs):LK [k,v,[123]]=Ku k v:=by simp[LK,Ku,Lib.join,CJ]
theorem lE(k v:Bs):FO Pg wT wE 54 [.sl 1 (strs [k,v,[123]])] (Ku k v):=by
 rw[<-ZbJ];exact Un _ (by simp)
theorem MR(k v:Bs):FO Pg wT wE 56 [.sl 1 (strs [k,v])] (Cs k v):=by
 rw[<-wL];exact ZeJ _ (by simp)
theorem qN:FO Pg wT wE 54 [.sl 1 (strs [[125]])] V8:=Un [[125]] (by simp)
set_option maxHeartbeats 4000000 in
theorem nE(name:Bs)(c:Dm)(hn:name.length<=8000)(hc:CX c=true)(hh:c.AZ.length<=100000):FO Pg wT wE 53 [.str name,ED c] (NW name c):=by
 refine FO.Ak func53 rfl (by kernel_rfl) rfl λb bs hl=>?_;unfold CX at hc;simp only[A5,decide_eq_true_eq,Cb]at hc;obtain⟨⟨hw,hz⟩,hho⟩:=hc;simp only[NW,Ax]at hl;refine kW ?_;refine Ah.freeze 2 ?_ (by kernel_rfl);conv=>whnf
 refine⟨by simp[closed],?_⟩;conv=>whnf
 repeat(refine⟨(by first|rfl|(simp;done):(_:Nat)=_),?_⟩;conv=>whnf)
 refine Ah.F0 rfl (lE AL name) rfl (by omega) ?_;refine kW ?_;refine kC (FJ hz) ?_;refine Ah.freeze 3 ?_ (by kernel_rfl);conv=>whnf
 refine⟨by simp[closed],?_⟩;conv=>whnf
 repeat(refine⟨(by first|rfl|(simp;done):(_:Nat)=_),?_⟩;conv=>whnf)
 refine Ah.F0 rfl (MR Hc (D8 c.Bc)) rfl (by simp only[Ax];omega) ?_;refine kW ?_;refine⟨⟨by omega,by omega,by omega⟩,?_⟩;refine kW ?_
 refine Aa.Ar (λk:Nat=>mk 58 [(0,.raw (H9 b)),(5,.ptr 1 0),(6,.own 4 1 0 k),(23,.sl 1 (c.Bw.map .bool)),(24,.int .i64 7),(25,.int .i64 k)])
  (λk=>[.inv (Qo wT wE b (bs++Ku AL name++Cs Hc (D8 c.Bc))),.cells [.int .i64 c.Bc,.sl 1 (c.Bw.map .bool),.sl 1 (c.AZ.map (.int .i64))],.dead,.dead,.arr 5 1 (Gt (DH (c.Bw.take k)))]) (λk=>k<=7) (λk=>7-k) (λ_ _=>⟨rfl,rfl,Sm _,trivial⟩) ⟨0,?_⟩ (λ_=>rfl) λk hk=>?_
 ·conv=>whnf
  repeat(refine A6 ?_ ?_;(focus (first|rfl|(simp;done)|(first|(rw[BU,hw];rfl);done)));conv=>whnf)
  exact BR _
 refine kR ?_;constructor<;>intro h
 ·have h:k<c.Bw.length:=by simp at h;omega
  have EV:Wr .i64 ((k:Int)+1)=((k+1:Nat):Int):=by rw[qW];rfl
  have Ai:DH (c.Bw.take (k+1))=DH (c.Bw.take k)++[if c.Bw[k]then 49 else 48]:=by rw[A1 h];unfold DH;rw[A9];rfl
  refine kW ?_;refine⟨by omega,.bool c.Bw[k],by simp[h],?_⟩;refine kW ?_;constructor<;>intro hb;·rw[hb,if_pos rfl]at Ai;refine kW ?_;refine⟨rfl,?_⟩;(conv=>whnf);refine⟨⟨by simp[Gt,DH,C3 (Dk h)],by simp[Gt,DH];omega⟩,?_⟩;refine kW ?_;refine⟨k+1,?_⟩;(conv=>whnf);(repeat(refine A6 ?_ ?_;(focus (first|rfl|(simp;done)|(first|exact EV|exact congrArg (AV.own 4 1 0) (by simp[Gt,DH];omega)|exact congrArg (HO.arr 5 1) (by rw[Ai];simp[Gt]);done)));conv=>whnf));omega
  rw[hb,if_neg (by simp)]at Ai;refine kW ?_;refine⟨rfl,?_⟩;conv=>whnf
  refine⟨⟨by simp[Gt,DH,C3 (Dk h)],by simp[Gt,DH];omega⟩,?_⟩;refine kW ?_;refine⟨k+1,?_⟩;conv=>whnf
  repeat(refine A6 ?_ ?_;(focus (first|rfl|(simp;done)|(first|exact EV|exact congrArg (AV.own 4 1 0) (by simp[Gt,DH];omega)|exact congrArg (HO.arr 5 1) (by rw[Ai];simp[Gt]);done)));conv=>whnf)
  omega
 have h:k=7:=by simp at h;omega
 subst h;have hf:c.Bw.take 7=c.Bw:=C2 (by omega);rw[hf];refine kW ?_;refine⟨by simp[Gt,DH,hw],DH c.Bw,⟨rfl,by simp[DH];omega⟩,?_⟩;refine kW ?_;refine Ah.freeze 5 ?_ (by kernel_rfl);conv=>whnf
 refine⟨by simp[closed],?_⟩;conv=>whnf
 repeat(refine⟨(by first|rfl|(simp;done):(_:Nat)=_),?_⟩;conv=>whnf)
 refine Ah.F0 rfl (MR HU (DH c.Bw)) rfl (by simp only[Ax];omega) ?_;refine kW ?_
 refine Aa.Ar (λk:Nat=>mk 58 [(0,.raw (H9 b)),(43,.sl 1 (c.AZ.map (.int .i64))),(44,.int .i64 c.AZ.length),(45,.int .i64 k)])
  (λk=>[.inv (Qo wT wE b (bs++Ku AL name++Cs Hc (D8 c.Bc)++Cs HU (DH c.Bw)++(c.AZ.take k).flatMap λd=>Cs Ba (D8 d))),.cells [.int .i64 c.Bc,.sl 1 (c.Bw.map .bool),.sl 1 (c.AZ.map (.int .i64))],.dead,.dead,.arr 5 1 (Gt (DH c.Bw)),.dead]) (λk=>k<=c.AZ.length) (λk=>c.AZ.length-k) (λ_ _=>⟨rfl,rfl,Sm _,trivial⟩) ⟨0,?_⟩ (λ_=>rfl) λk hk=>?_
 ·conv=>whnf
  repeat(refine A6 ?_ ?_;(focus (first|rfl|(simp;done)|(first|(rw[BU];rfl)|exact congrArg (λx=>HO.inv (Qo wT wE b x)) (by simp);done)));conv=>whnf)
  exact BR _
 refine kR ?_;constructor<;>intro h
 ·have h:k<c.AZ.length:=by simpa using h
  have EV:Wr .i64 ((k:Int)+1)=((k+1:Nat):Int):=by rw[qW];rfl
  refine kW ?_;refine⟨by omega,.int .i64 c.AZ[k],by simp[h],?_⟩;have Ai:=NH (λd=>Cs Ba (D8 d)) c.AZ k h;have hle:=Rh (λd=>Cs Ba (D8 d)) c.AZ (k+1);rw[Ai,Ax]at hle;refine kW ?_;refine kC (FJ (hho c.AZ[k] (A3 h))) ?_;refine Ah.freeze 6 ?_ (by kernel_rfl);conv=>whnf
  refine⟨by simp[closed],?_⟩;conv=>whnf
  repeat(refine⟨(by first|rfl|(simp;done):(_:Nat)=_),?_⟩;conv=>whnf)
  refine Ah.F0 rfl (MR Ba (D8 c.AZ[k])) rfl (by simp only[Ax];omega) ?_;refine kW ?_;refine⟨k+1,?_⟩;conv=>whnf
  repeat(refine A6 ?_ ?_;(focus (first|rfl|(simp;done)|(first|exact EV|exact congrArg (λx=>HO.inv (Qo wT wE b x)) (by rw[Ai];simp);done)));conv=>whnf)
  exact⟨by omega,by omega⟩
 have h:k=c.AZ.length:=by simp at h;omega
 rw[h,A4];refine kW ?_;refine Ah.freeze 6 ?_ (by kernel_rfl);conv=>whnf
 refine⟨by simp[closed],?_⟩;conv=>whnf
 repeat(refine⟨(by first|rfl|(simp;done):(_:Nat)=_),?_⟩;conv=>whnf)
 refine Ah.F0 rfl qN rfl (by simp only[Ax];omega) ?_;conv=>whnf
 exact⟨_,by simp[NW];rfl⟩
theorem SP{l:List Bs}{i:Int}(h:Hh l i=true):0<=i/\i<l.length/\l[i.toNat]?=some (nameAt l i):=by
 unfold Hh at h;simp only[A5,decide_eq_true_eq]at h;obtain⟨h1,h2⟩:=h;cases hx:l[i.toNat]? with
 |none=>rw[hx]at h2;cases h2
 |some x=>
  have AA:=(List.getElem?_eq_some_iff.1 hx).1;refine⟨h1,by omega,?_⟩;unfold nameAt;rw[List.getD_eq_getElem?_getD,hx];rfl
theorem Ck{n:Int}(h:E7 n=true):Jf n=true:=by
 unfold E7 at h;unfold Jf;simp only[A5,decide_eq_true_eq]at h ⊢;omega
theorem Zcs(c:List Bs)(h:c≠[]):Cs CC (Lib.join c [32])=Ls c:=by
 cases c with
 |nil=>exact absurd rfl h
 |cons x r=>
  have key:∀(l:List Bs),Lib.joinTail [32] l=l.flatMap λy=>32::y:=λl=>by
   induction l with
   |nil=>rfl
   |cons y l ih=>simp[Lib.joinTail]at ih ⊢;simp[ih,Dj]
  rw[Lib.join_cons,key];simp[Cs,Ls]
set_option maxHeartbeats 4000000 in
theorem ZaI(n:G3)(o:JV)(ho:HH n o=true)(hc:o.AK.length<=100000)(h1:n.opers.length<=100000)(h2:n.names.length<=100000):FO Pg wT wE 55 [Kd n,Ey o] (OB n o):=by
 refine FO.Ak func55 rfl (by kernel_rfl) rfl λb bs hl=>?_;unfold HH at ho;simp only[A5]at ho;obtain⟨⟨⟨⟨⟨r1,r2⟩,n1⟩,n2⟩,n3⟩,Y6⟩:=ho;obtain⟨a1,a2,a3⟩:=SP r1;obtain⟨b1,b2,b3⟩:=SP r2;simp only[OB,Ax]at hl;have o1:(n.opers.map BP)[o.oper.toNat]?=some (BP (nameAt n.opers o.oper)):=by rw[A2,a3];rfl
 have o2:(strs n.names)[o.Gs.toNat]?=some (.str (nameAt n.names o.Gs)):=by unfold strs;rw[A2,b3];rfl
 refine kW ?_;refine Ah.freeze 3 ?_ (by kernel_rfl);conv=>whnf
 refine⟨by simp[closed],?_⟩;conv=>whnf
 repeat(refine⟨(by first|rfl|(simp;done):(_:Nat)=_),?_⟩;conv=>whnf)
 refine Ah.F0 rfl (lE Ct o.name) rfl (by omega) ?_;refine kW ?_;refine⟨by omega,_,o1,?_⟩;refine kW ?_;refine Ah.freeze 4 ?_ (by kernel_rfl);conv=>whnf
 refine⟨by simp[closed],?_⟩;conv=>whnf
 repeat(refine⟨(by first|rfl|(simp;done):(_:Nat)=_),?_⟩;conv=>whnf)
 refine Ah.F0 rfl (MR AO (nameAt n.opers o.oper)) rfl (by simp only[Ax];omega) ?_;refine kW ?_;refine⟨by omega,_,o2,?_⟩;refine kW ?_;refine Ah.freeze 5 ?_ (by kernel_rfl);conv=>whnf
 refine⟨by simp[closed],?_⟩;conv=>whnf
 repeat(refine⟨(by first|rfl|(simp;done):(_:Nat)=_),?_⟩;conv=>whnf)
 refine Ah.F0 rfl (MR AL (nameAt n.names o.Gs)) rfl (by simp only[Ax];omega) ?_;refine kW ?_;refine kC (FJ (Ck n1)) ?_;refine Ah.freeze 6 ?_ (by kernel_rfl);conv=>whnf
 refine⟨by simp[closed],?_⟩;conv=>whnf
 repeat(refine⟨(by first|rfl|(simp;done):(_:Nat)=_),?_⟩;conv=>whnf)
 refine Ah.F0 rfl (MR EF (D8 o.Bg)) rfl (by simp only[Ax];omega) ?_;refine kW ?_;refine kC (FJ (Ck n2)) ?_;refine Ah.freeze 7 ?_ (by kernel_rfl);conv=>whnf
 refine⟨by simp[closed],?_⟩;conv=>whnf
 repeat(refine⟨(by first|rfl|(simp;done):(_:Nat)=_),?_⟩;conv=>whnf)
 refine Ah.F0 rfl (MR Fy (D8 o.As)) rfl (by simp only[Ax];omega) ?_;refine kW ?_;refine kC (FJ (Ck n3)) ?_;refine Ah.freeze 8 ?_ (by kernel_rfl);conv=>whnf
 refine⟨by simp[closed],?_⟩;conv=>whnf
 repeat(refine⟨(by first|rfl|(simp;done):(_:Nat)=_),?_⟩;conv=>whnf)
 refine Ah.F0 rfl (MR EG (D8 o.Ap)) rfl (by simp only[Ax];omega) ?_;refine kW ?_;constructor<;>intro h
 ·have h:o.AK≠[]:=by rintro e;rw[e]at h;simp[strs]at h
  have he:=Zcs o.AK h;have hjl:(Lib.join o.AK [32]).length<=140737488355328:=by rw[<-he]at hl;simp[Cs]at hl;omega
  rw[<-he]at hl;refine kW ?_;refine kC (Nx o.AK (by omega) hjl) ?_;refine Ah.freeze 9 ?_ (by kernel_rfl);conv=>whnf
  refine⟨by simp[closed],?_⟩;conv=>whnf
  repeat(refine⟨(by first|rfl|(simp;done):(_:Nat)=_),?_⟩;conv=>whnf)
  refine Ah.F0 rfl (MR CC (Lib.join o.AK [32])) rfl (by simp only[Ax];omega) ?_;refine kW ?_;refine Ah.freeze 10 ?_ (by kernel_rfl);conv=>whnf
  refine⟨by simp[closed],?_⟩;conv=>whnf
  repeat(refine⟨(by first|rfl|(simp;done):(_:Nat)=_),?_⟩;conv=>whnf)
  refine Ah.F0 rfl qN rfl (by simp only[Ax];omega) ?_;conv=>whnf
  exact⟨_,by simp[OB,<-he];rfl⟩
 have h:o.AK=[]:=by simp at h;exact h
 refine kW ?_;refine Ah.freeze 9 ?_ (by kernel_rfl);conv=>whnf
 refine⟨by simp[closed],?_⟩;conv=>whnf
 repeat(refine⟨(by first|rfl|(simp;done):(_:Nat)=_),?_⟩;conv=>whnf)
 refine Ah.F0 rfl qN rfl (by simp only[Ax];omega) ?_;conv=>whnf
 exact⟨_,by simp[OB,h,Ls];rfl⟩
theorem bO(l:List Bs)(k:Nat)(h:k<l.length):(l.map BP)[k]?=some (BP l[k]):=by rw[A2,A0 h];rfl
theorem Iq(l:List Bs)(k:Nat)(h:k<l.length):strs (l.take k)++[.str l[k]]=strs (l.take (k+1)):=by
 rw[A1 h];unfold strs;rw[A9];rfl
set_option maxHeartbeats 4000000 in
theorem lT(l:List Bs)(hl:l.length<=100000):Au Pg 29 [.sl 1 (strs l),.fn 30 []] (λr=>∃a,r=eD l a/\FI l l.length a):=by
 refine kB func29 rfl ?_;refine Aa.Eb 2 0 9 1 rfl rfl ?_
 refine Aa.Ar (λd:Nat×ZJ=>mk 44 [(0,.sl 1 (strs l)),(1,.fn 30 []),(4,.ptr 0 0),(5,.ptr 2 0),(13,.sl 1 (strs l)),(14,.int .i64 l.length),(15,.int .i64 d.1)])
  (λd=>[.cells [.raw (.slice none 0 0),.raw (.map none)],.map (HM d.2) (Kz d.2),.cells [.own 3 1 0 d.1,.om 1],.arr 9 1 (strs (l.take d.1))]) (λd=>d.1<=l.length/\FI l d.1 d.2) (λd=>l.length-d.1) (λ_ _=>⟨rfl,rfl,rfl,Cm _,trivial⟩) ⟨(0,[]),?_⟩ (λ_=>rfl) λd hk=>?_
 ·exact YaT
 obtain⟨k,a⟩:=d;obtain⟨hk,ha⟩:=hk;refine kR ?_;constructor<;>intro h
 ·have h:k<l.length:=by simpa using h
  have EV:Wr .i64 ((k:Int)+1)=((k+1:Nat):Int):=by rw[qW];rfl
  refine kW ?_;refine⟨by omega,_,CW l k h,?_⟩;refine kW ?_;refine kC (jY l[k]) ?_;exact YaN
 exact YaS
set_option maxHeartbeats 4000000 in
theorem lS(l:List Bs)(hl:l.length<=100000):Au Pg 31 [.sl 1 (l.map BP),.fn 32 []] (λr=>∃a,r=eD l a/\FI l l.length a):=by
 refine kB func31 rfl ?_;refine Aa.Eb 2 0 9 1 rfl rfl ?_
 refine Aa.Ar (λd:Nat×ZJ=>mk 44 [(0,.sl 1 (l.map BP)),(1,.fn 32 []),(4,.ptr 0 0),(5,.ptr 2 0),(13,.sl 1 (l.map BP)),(14,.int .i64 l.length),(15,.int .i64 d.1)])
  (λd=>[.cells [.raw (.slice none 0 0),.raw (.map none)],.map (HM d.2) (Kz d.2),.cells [.own 3 1 0 d.1,.om 1],.arr 9 1 (strs (l.take d.1))]) (λd=>d.1<=l.length/\FI l d.1 d.2) (λd=>l.length-d.1) (λ_ _=>⟨rfl,rfl,rfl,Cm _,trivial⟩) ⟨(0,[]),?_⟩ (λ_=>rfl) λd hk=>?_
 ·exact YaT
 obtain⟨k,a⟩:=d;obtain⟨hk,ha⟩:=hk;refine kR ?_;constructor<;>intro h
 ·have h:k<l.length:=by simpa using h
  have EV:Wr .i64 ((k:Int)+1)=((k+1:Nat):Int):=by rw[qW];rfl
  refine kW ?_;refine⟨by omega,_,bO l k h,?_⟩;refine kW ?_;refine kC (jX l[k]) ?_;exact YaN
 exact YaS
set_option maxHeartbeats 4000000 in
theorem lR(o:List JV)(l:List Bs)(hlL:l=o.map (·.name))(hl:l.length<=100000):Au Pg 33 [.sl 7 (o.map Ey),.fn 34 []] (λr=>∃a,r=eD l a/\FI l l.length a):=by
 have hg:∀(k:Nat)(h:k<l.length),∃x,(o.map Ey)[k]?=some (Ey x)/\x.name=l[k]:=λk h=>by subst hlL;exact⟨o[k]'(by simpa using h),by rw[A2,A0 (by simpa using h)];rfl,by simp⟩
 have hoL:o.length=l.length:=by rw[hlL];simp
 refine kB func33 rfl ?_;refine Aa.Eb 2 0 9 1 rfl rfl ?_
 refine Aa.Ar (λd:Nat×ZJ=>mk 44 [(0,.sl 7 (o.map Ey)),(1,.fn 34 []),(4,.ptr 0 0),(5,.ptr 2 0),(13,.sl 7 (o.map Ey)),(14,.int .i64 l.length),(15,.int .i64 d.1)])
  (λd=>[.cells [.raw (.slice none 0 0),.raw (.map none)],.map (HM d.2) (Kz d.2),.cells [.own 3 1 0 d.1,.om 1],.arr 9 1 (strs (l.take d.1))]) (λd=>d.1<=l.length/\FI l d.1 d.2) (λd=>l.length-d.1) (λ_ _=>⟨rfl,rfl,rfl,Cm _,trivial⟩) ⟨(0,[]),?_⟩ (λ_=>rfl) λd hk=>?_
 ·conv=>whnf
  repeat(refine A6 ?_ ?_;(focus (first|rfl|(simp;done)|(first|(simp[hoL];done)|exact congrArg (AV.int .i64) (by simp[hoL]);done)));conv=>whnf)
  exact FI.zero l
 obtain⟨k,a⟩:=d;obtain⟨hk,ha⟩:=hk;refine kR ?_;constructor<;>intro h
 ·have h:k<l.length:=by simpa using h
  have EV:Wr .i64 ((k:Int)+1)=((k+1:Nat):Int):=by rw[qW];rfl
  obtain⟨x,hx,hxn⟩:=hg k h;refine kW ?_;refine⟨by omega,_,hx,?_⟩;refine kW ?_;refine kC (jW x) ?_;rw[hxn];exact YaN
 exact YaS
structure SmI(n:G3):Prop where
 Aq:n.Aq.length<=100000
 names:n.names.length<=100000
 opers:n.opers.length<=100000
 Ag:n.Ag.length<=100000
 Am:n.Am.length<=100000
 Ao:n.Ao.length<=100000
 nmt:∀x∈n.names,x.length<=8000
 opt:∀x∈n.opers,x.length<=8000
 oft:∀x∈n.Ag,x.name.length<=8000
 lit:∀x∈n.Am,x.name.length<=8000
 clt:∀x∈n.Ao,x.name.length<=8000
 hol:∀c∈n.Aq,c.AZ.length<=100000/\c.Bw.length<=100000
 cod:∀o∈n.Ag,o.AK.length<=100000/\∀x∈o.AK,x.length<=8000
theorem PF{α:Type}(p:α->Bool)(l:List α):(!l.any λx=>!p x)=l.all p:=by
 rw[List.all_eq_not_any_not]
theorem Q8(l:List Bs)(a:ZJ)(hl:l.length<=100000)(h:∀x∈l,x.length<=8000):Au Pg 35 [eD l a] (λr=>r=.bool (l.all An)):=by
 refine kB func35 rfl ?_;refine kC (MV l _ [] (λs=>!An s) hl rfl rfl λx hx=>lK x (h x hx)) ?_;exact congrArg AV.bool (PF _ _)
theorem pH(x:Bs):∀l:List Bs,x∈l->∃j,idxOf x l=some j
 |[],h=>by cases h
 |y::l,h=>by unfold idxOf;by_cases e:y=x;exact⟨0,by simp[e]⟩;obtain⟨j,hj⟩:=pH x l (by rcases List.mem_cons.1 h with h|h;exact absurd h.symm e;exact h);exact⟨j+1,by simp[e,hj]⟩
theorem NC(l:List Bs)(a:ZJ)(i:Int)(hl:l.length<=100000)(ha:FI l l.length a):Au Pg 39 [eD l a,.int .i64 i] (λr=>r=.bool (Hh l i)):=by
 have hsl:(strs l).length=l.length:=Mf l;refine kB func39 rfl ?_;refine Aa.draw [] Ab mO (by kernel_rfl) ?_;conv=>whnf
 constructor<;>intro h1
 ·have h1:0<=i:=by simpa using h1
  conv=>whnf
  constructor<;>intro h2;·(have h2:i<l.length:=by simpa using h2);(have hk:i.toNat<l.length:=by omega);obtain⟨j,hj⟩:=pH l[i.toNat] l (A3 hk);(have hx:Gn l[i.toNat] a=some j:=by rw[ha,A4];exact hj);(have hm:QV (.str l[i.toNat]) (HM a) (Kz a)=some (.int .i64 j):=by rw[MB,hx];rfl);(have Ik:Hh l i=decide ((j:Int)=i):=by unfold Hh;rw[A0 hk,decide_eq_true h1];simp only[CL,hj,C5.injEq];rw[decide_eq_decide];omega);(conv=>whnf);refine⟨by omega,_,CW l i.toNat hk,?_⟩;(conv=>whnf);refine⟨Ga _ _,λUN=>absurd (UN.symm.trans hm) (by simp),λv UN=>?_⟩;obtain rfl:=C5.inj (UN.symm.trans hm);(conv=>whnf);constructor<;>intro h3;refine kW ?_;exact congrArg AV.bool (Ik.trans h3).symm;refine kW ?_;exact congrArg AV.bool (Ik.trans h3).symm
  have h2:l.length<=i:=by simpa using h2
  refine kW ?_;refine congrArg AV.bool ?_;unfold Hh;rw[List.getElem?_eq_none (by omega)];simp
 refine kW ?_;refine congrArg AV.bool ?_;unfold Hh;rw[h1];rfl
def H4(n:G3)(L:List Bs)(a1 a2 a3:ZJ):List HO:=[.cells [.sl 3 (n.Aq.map ED),.sl 1 (strs n.names),.sl 1 (n.opers.map BP),.sl 7 (n.Ag.map Ey),.sl 6 (n.Am.map Jy),.sl 3 (n.Ao.map Ft)],
 .cells [.sl 1 (strs n.names),.mp (HM a1) (Kz a1)],.cells [.sl 1 (strs n.opers),.mp (HM a2) (Kz a2)],.cells [.sl 1 (strs L),.mp (HM a3) (Kz a3)]]
theorem GU{α:Type}(p:α->Bool)(l:List α)(k:Nat)(h:k<l.length):(l.take (k+1)).all p=((l.take k).all p&&p l[k]):=by
 rw[A1 h,List.all_append];simp
theorem Ly{α:Type}(p:α->Bool)(l:List α)(k:Nat)(h:k<l.length)(hp:p l[k]=false):l.all p=false:=by
 rw[List.all_eq_false];exact⟨l[k],A3 h,by simp[hp]⟩
theorem three(a b c:Int):[a,b,c].all E7=(E7 a&&E7 b&&E7 c):=by simp[Bool.and_assoc]
theorem two(a b:Int):[a,b].all E7=(E7 a&&E7 b):=by simp
theorem ZgF{n:G3}(h:n.Aq.all CX=false):By n=false:=by unfold By;rw[h];simp
theorem ZgC{n:G3}(h:n.Ag.all (HH n)=false):By n=false:=by unfold By;rw[h];simp
theorem ZgD{n:G3}(h:n.Am.all (PJ n)=false):By n=false:=by unfold By;rw[h];simp
theorem ZgE{n:G3}(h:n.Ao.all MY=false):By n=false:=by unfold By;rw[h];simp
theorem ZaR{n:G3}(h:(n.Am.all λl=>An l.name)=false):By n=false:=by unfold By IP;rw[h];simp
theorem ZaS{n:G3}(h:(n.Ao.all λl=>An l.name)=false):By n=false:=by unfold By IP;rw[h];simp
set_option maxHeartbeats 4000000 in
theorem M9(n:G3)(sm:SmI n):Au Pg 10 [Kd n] (λr=>r=.bool (By n)):=by
 have s1:=sm.Aq;have s2:=sm.Ag;have s3:=sm.Am;have s4:=sm.Ao;refine kB func10 rfl ?_;refine Ah.BZ (lT n.names sm.names) rfl λr hr=>?_;obtain⟨a1,rfl,f1⟩:=hr;refine kW ?_;refine Ah.BZ (lS n.opers sm.opers) rfl λr hr=>?_;obtain⟨a2,rfl,f2⟩:=hr;refine kW ?_;generalize hL:n.Ag.map (·.name)=L;refine Ah.BZ (lR n.Ag L hL.symm (by rw[<-hL];simpa using sm.Ag)) rfl λr hr=>?_;obtain⟨a3,rfl,f3⟩:=hr;have hLo:∀x∈L,x.length<=8000:=by rw[<-hL];intro x hx;obtain⟨o,ho,rfl⟩:=Cz.1 hx;exact sm.oft o ho
 have hLl:L.length<=100000:=by rw[<-hL];simpa using sm.Ag
 refine kW ?_;constructor<;>intro g0
 ·have g0:n.names.length=n.Aq.length:=by simp at g0;omega
  refine kW ?_;refine kC (Q8 n.names a1 sm.names sm.nmt) ?_;constructor<;>intro g1
  ·(have g1:n.names.all An=true:=by simpa using g1);refine kW ?_;refine kC (Q8 n.opers a2 sm.opers sm.opt) ?_;constructor<;>intro g2
   ·(have g2:n.opers.all An=true:=by simpa using g2);refine kW ?_;refine kC (Q8 L a3 hLl hLo) ?_;constructor<;>intro g3;·(have g3:L.all An=false:=by simpa using g3);refine kW ?_;exact congrArg AV.bool (by rw[<-hL,List.all_map]at g3;unfold By IP;rw[show(n.Ag.all λo=>An o.name)=false from g3];simp)
    (have g3:L.all An=true:=by simpa using g3);refine kW ?_
    refine Aa.Ar (λk:Nat=>mk 158 [(1,.ptr 0 0),(3,.ptr 1 0),(4,.ptr 2 0),(5,.ptr 3 0),(46,.sl 3 (n.Aq.map ED)),(47,.int .i64 n.Aq.length),(48,.int .i64 k)])
     (λ_=>H4 n L a1 a2 a3) (λk=>k<=n.Aq.length/\(n.Aq.take k).all CX=true) (λk=>n.Aq.length-k) (λ_ _=>⟨rfl,rfl,rfl,rfl,rfl,trivial⟩) ⟨0,?_⟩ (λ_=>rfl) λk hk=>?_
    refine kQ ?_;rfl;obtain⟨hk,ha⟩:=hk;unfold H4;refine kR ?_;constructor<;>intro h
    ·(have h:k<n.Aq.length:=by simpa using h);(have EV:Wr .i64 ((k:Int)+1)=((k+1:Nat):Int):=by rw[qW];rfl);(have NB:(n.Aq.map ED)[k]?=some (ED n.Aq[k]):=by rw[A2,A0 h];rfl);refine kW ?_;refine⟨by omega,_,NB,?_⟩;have hm:=sm.hol n.Aq[k] (A3 h);generalize Y5:n.Aq[k]=c at*;have G0:CX c=false->By n=false:=λe=>ZgF (Ly CX n.Aq k h (by rw[Y5];exact e));refine kW ?_;constructor<;>intro w7
     ·(have w7:c.Bw.length=7:=by simp at w7;omega);refine kW ?_;refine kC (UC c.Bc) ?_;constructor<;>intro z;·(have z:Jf c.Bc=false:=by simpa using z);refine kW ?_;exact congrArg AV.bool (G0 (by unfold CX;rw[z];simp)).symm
      (have z:Jf c.Bc=true:=by simpa using z);refine kW ?_;refine kC (MW c.AZ _ [] (λd=>!Jf d) hm.1 rfl rfl λx _=>Zcq x) ?_;constructor<;>intro y;·(have y:c.AZ.all Jf=false:=by rw[<-PF];simp only[BG];exact y);refine kW ?_;exact congrArg AV.bool (G0 (by unfold CX;rw[y];simp)).symm
      (have y:c.AZ.all Jf=true:=by rw[<-PF];simp only[BQ];exact y);refine kW ?_;refine⟨k+1,?_⟩;refine gF EV ?_;exact⟨⟨by omega,by rw[GU _ _ _ h,ha,Y5];unfold CX;rw[z,y,decide_eq_true w7];rfl⟩,by omega⟩
     (have w7:c.Bw.length≠7:=by simp at w7;omega);refine kW ?_;exact congrArg AV.bool (G0 (by unfold CX;rw[decide_eq_false w7];rfl)).symm
    (have h:k=n.Aq.length:=by simp at h;omega);rw[h,A4]at ha;refine kW ?_
    refine Aa.Ar (λk:Nat=>mk 158 [(1,.ptr 0 0),(3,.ptr 1 0),(4,.ptr 2 0),(5,.ptr 3 0),(67,.sl 7 (n.Ag.map Ey)),(68,.int .i64 n.Ag.length),(69,.int .i64 k)])
     (λ_=>H4 n L a1 a2 a3) (λk=>k<=n.Ag.length/\(n.Ag.take k).all (HH n)=true) (λk=>n.Ag.length-k) (λ_ _=>⟨rfl,rfl,rfl,rfl,rfl,trivial⟩) ⟨0,?_⟩ (λ_=>rfl) λk hk=>?_
    refine kQ ?_;rfl;obtain⟨hk,hb⟩:=hk;unfold H4;refine kR ?_;constructor<;>intro h
    ·(have h:k<n.Ag.length:=by simpa using h);(have EV:Wr .i64 ((k:Int)+1)=((k+1:Nat):Int):=by rw[qW];rfl);(have NB:(n.Ag.map Ey)[k]?=some (Ey n.Ag[k]):=by rw[A2,A0 h];rfl);refine kW ?_;refine⟨by omega,_,NB,?_⟩;have hm:=sm.cod n.Ag[k] (A3 h);generalize Y5:n.Ag[k]=o at*;have G0:HH n o=false->By n=false:=λe=>ZgC (Ly (HH n) n.Ag k h (by rw[Y5];exact e));refine kW ?_;refine kC (NC n.opers a2 o.oper sm.opers f2) ?_;constructor<;>intro q1
     ·(have q1:Hh n.opers o.oper=true:=by simpa using q1);refine kW ?_;refine kC (NC n.names a1 o.Gs sm.names f1) ?_;constructor<;>intro q2
      ·(have q2:Hh n.names o.Gs=true:=by simpa using q2);refine kW ?_;refine Ah.freeze 5 ?_ (by kernel_rfl);(conv=>whnf);refine⟨by simp[closed],?_⟩;(conv=>whnf);(repeat(refine⟨(by first|rfl|(simp;done):(_:Nat)=_),?_⟩;conv=>whnf));refine kC (H7 [o.Bg,o.As,o.Ap] (by simp)) ?_;constructor<;>intro q3;·(have q3:[o.Bg,o.As,o.Ap].all E7=false:=by simp only[BQ]at q3;exact q3);refine kW ?_;exact congrArg AV.bool (G0 (by unfold HH;rw[q1,q2];rw[three]at q3;simp only[CL];rw[q3];rfl)).symm
       (have q3:[o.Bg,o.As,o.Ap].all E7=true:=by simp only[BG]at q3;exact q3);refine kW ?_;refine kC (MV o.AK _ [] (λd=>!Bt d) hm.1 rfl rfl λx hx=>mG x (hm.2 x hx)) ?_;constructor<;>intro y;·(have y:o.AK.all Bt=false:=by rw[<-PF];simp only[BG];exact y);refine kW ?_;exact congrArg AV.bool (G0 (by unfold HH;rw[y];simp)).symm
       (have y:o.AK.all Bt=true:=by rw[<-PF];simp only[BQ];exact y);refine kW ?_;refine⟨k+1,?_⟩;refine gF EV ?_;exact⟨⟨by omega,by rw[GU _ _ _ h,hb,Y5];unfold HH;rw[q1,q2,y];rw[three]at q3;simp only[CL];rw[q3];rfl⟩,by omega⟩
      (have q2:Hh n.names o.Gs=false:=by simpa using q2);refine kW ?_;exact congrArg AV.bool (G0 (by unfold HH;rw[q2];simp)).symm
     (have q1:Hh n.opers o.oper=false:=by simpa using q1);refine kW ?_;exact congrArg AV.bool (G0 (by unfold HH;rw[q1];simp)).symm
    (have h:k=n.Ag.length:=by simp at h;omega);rw[h,A4]at hb;refine kW ?_
    refine Aa.Ar (λk:Nat=>mk 158 [(1,.ptr 0 0),(3,.ptr 1 0),(4,.ptr 2 0),(5,.ptr 3 0),(101,.sl 6 (n.Am.map Jy)),(102,.int .i64 n.Am.length),(103,.int .i64 k)])
     (λ_=>H4 n L a1 a2 a3) (λk=>k<=n.Am.length/\(n.Am.take k).all (PJ n)=true/\((n.Am.take k).all λl=>An l.name)=true) (λk=>n.Am.length-k) (λ_ _=>⟨rfl,rfl,rfl,rfl,rfl,trivial⟩) ⟨0,?_⟩ (λ_=>rfl) λk hk=>?_
    refine kQ ?_;rfl;obtain⟨hk,hd,he⟩:=hk;unfold H4;refine kR ?_;constructor<;>intro h
    ·(have h:k<n.Am.length:=by simpa using h);(have EV:Wr .i64 ((k:Int)+1)=((k+1:Nat):Int):=by rw[qW];rfl);(have NB:(n.Am.map Jy)[k]?=some (Jy n.Am[k]):=by rw[A2,A0 h];rfl);refine kW ?_;refine⟨by omega,_,NB,?_⟩;have hm:=sm.lit n.Am[k] (A3 h);generalize Y5:n.Am[k]=x at*;have G0:PJ n x=false->By n=false:=λe=>ZgD (Ly (PJ n) n.Am k h (by rw[Y5];exact e));have Zg5:An x.name=false->By n=false:=λe=>ZaR (Ly (λl=>An l.name) n.Am k h (by rw[Y5];exact e));(have yH:PJ n x=(Hh L x.from_&&Hh L x.VJ&&E7 x.at_&&E7 x.Bb&&E7 x.load):=by unfold PJ;rw[hL]);refine kW ?_;refine kC (OA x.name hm) ?_;constructor<;>intro q0
     ·(have q0:An x.name=true:=by simpa using q0);refine kW ?_;refine kC (NC L a3 x.from_ hLl f3) ?_;constructor<;>intro q1
      ·(have q1:Hh L x.from_=true:=by simpa using q1);refine kW ?_;refine kC (NC L a3 x.VJ hLl f3) ?_;constructor<;>intro q2
       ·(have q2:Hh L x.VJ=true:=by simpa using q2);refine kW ?_;refine Ah.freeze 5 ?_ (by kernel_rfl);(conv=>whnf);refine⟨by simp[closed],?_⟩;(conv=>whnf);(repeat(refine⟨(by first|rfl|(simp;done):(_:Nat)=_),?_⟩;conv=>whnf));refine kC (H7 [x.at_,x.Bb,x.load] (by simp)) ?_;constructor<;>intro q3;·(have q3:[x.at_,x.Bb,x.load].all E7=false:=by simp only[BQ]at q3;exact q3);refine kW ?_;exact congrArg AV.bool (G0 (by rw[yH,q1,q2];rw[three]at q3;simp only[CL];rw[q3])).symm
        (have q3:[x.at_,x.Bb,x.load].all E7=true:=by simp only[BG]at q3;exact q3);refine kW ?_;refine⟨k+1,?_⟩;refine gF EV ?_;exact⟨⟨by omega,by rw[GU _ _ _ h,hd,Y5,yH,q1,q2];rw[three]at q3;simp only[CL];rw[q3],by rw[GU _ _ _ h,he,Y5,q0];rfl⟩,by omega⟩
       (have q2:Hh L x.VJ=false:=by simpa using q2);refine kW ?_;exact congrArg AV.bool (G0 (by rw[yH,q2];simp)).symm
      (have q1:Hh L x.from_=false:=by simpa using q1);refine kW ?_;exact congrArg AV.bool (G0 (by rw[yH,q1];simp)).symm
     exact YaV
    (have h:k=n.Am.length:=by simp at h;omega);rw[h,A4]at hd he;refine kW ?_
    refine Aa.Ar (λk:Nat=>mk 158 [(1,.ptr 0 0),(3,.ptr 1 0),(4,.ptr 2 0),(5,.ptr 3 0),(138,.sl 3 (n.Ao.map Ft)),(139,.int .i64 n.Ao.length),(140,.int .i64 k)])
     (λ_=>H4 n L a1 a2 a3) (λk=>k<=n.Ao.length/\(n.Ao.take k).all MY=true/\((n.Ao.take k).all λl=>An l.name)=true) (λk=>n.Ao.length-k) (λ_ _=>⟨rfl,rfl,rfl,rfl,rfl,trivial⟩) ⟨0,?_⟩ (λ_=>rfl) λk hk=>?_
    refine kQ ?_;rfl;obtain⟨hk,hf,hg⟩:=hk;unfold H4;refine kR ?_;constructor<;>intro h
    ·(have h:k<n.Ao.length:=by simpa using h);(have EV:Wr .i64 ((k:Int)+1)=((k+1:Nat):Int):=by rw[qW];rfl);(have NB:(n.Ao.map Ft)[k]?=some (Ft n.Ao[k]):=by rw[A2,A0 h];rfl);refine kW ?_;refine⟨by omega,_,NB,?_⟩;have hm:=sm.clt n.Ao[k] (A3 h);generalize Y5:n.Ao[k]=x at*;have G0:MY x=false->By n=false:=λe=>ZgE (Ly MY n.Ao k h (by rw[Y5];exact e));have Zg5:An x.name=false->By n=false:=λe=>ZaS (Ly (λl=>An l.name) n.Ao k h (by rw[Y5];exact e));refine kW ?_;refine kC (OA x.name hm) ?_;constructor<;>intro q0
     ·(have q0:An x.name=true:=by simpa using q0);refine kW ?_;refine Ah.freeze 5 ?_ (by kernel_rfl);(conv=>whnf);refine⟨by simp[closed],?_⟩;(conv=>whnf);(repeat(refine⟨(by first|rfl|(simp;done):(_:Nat)=_),?_⟩;conv=>whnf));refine kC (H7 [x.cut,x.Be] (by simp)) ?_;constructor<;>intro q3;·(have q3:[x.cut,x.Be].all E7=false:=by simp only[BQ]at q3;exact q3);refine kW ?_;exact congrArg AV.bool (G0 (by rw[two]at q3;exact q3)).symm
      (have q3:[x.cut,x.Be].all E7=true:=by simp only[BG]at q3;exact q3);refine kW ?_;refine⟨k+1,?_⟩;refine gF EV ?_;exact⟨⟨by omega,by rw[GU _ _ _ h,hf,Y5];rw[two]at q3;exact q3,by rw[GU _ _ _ h,hg,Y5,q0];rfl⟩,by omega⟩
     exact YaV
    (have h:k=n.Ao.length:=by simp at h;omega);rw[h,A4]at hf hg;refine kW ?_;refine congrArg AV.bool ?_;rw[<-hL,List.all_map]at g3;have g3:(n.Ag.all λo=>An o.name)=true:=g3;unfold By IP;rw[decide_eq_true g0,g1,g2,g3,he,hg,ha,hb,hd,hf];rfl
   (have g2:n.opers.all An=false:=by simpa using g2);refine kW ?_;exact congrArg AV.bool (by unfold By IP;rw[g2];simp)
  have g1:n.names.all An=false:=by simpa using g1
  refine kW ?_;exact congrArg AV.bool (by unfold By IP;rw[g1];simp)
 have g0:n.names.length≠n.Aq.length:=by simp at g0;omega
 refine kW ?_;exact congrArg AV.bool (by unfold By;rw[decide_eq_false g0];simp)
theorem XQ(a:List Bs)(b:List Dm):fP a b=(a.zip b).flatMap λx=>NW x.1 x.2:=by
 unfold fP;rw[List.flatMap_def];congr 1
 induction a generalizing b with
 |nil=>simp
 |cons x a ih=>cases b with
  |nil=>simp
  |cons y b=>simp[ih]
theorem Se{α:Type}(f:α->Bs)(M:Nat):∀l:List α,(∀x∈l,(f x).length<=M)->(l.flatMap f).length<=l.length*M
 |[],_=>by simp
 |x::l,h=>by have ih:=Se f M l λy hy=>h y (List.mem_cons_of_mem _ hy);have h0:=h x (List.mem_cons_self ..);rw[Dj,Ax,C1,Nat.succ_mul];omega
theorem Hz{s:Bs}(h:An s=true):s.length<=16:=by
 rw[BN]at h;simp only[A5,decide_eq_true_eq]at h;exact h.1.1.1.2
theorem ZeY{s:Bs}(h:Bt s=true):s.length<=8:=by
 rw[I2]at h;simp only[A5,decide_eq_true_eq]at h;omega
theorem Lo(k v:Bs):(Cs k v).length=k.length+v.length+5:=by simp[Cs];omega
theorem Q5(k v:Bs):(Ku k v).length=k.length+v.length+4:=by simp[Ku];omega
theorem at_mem{l:List Bs}{i:Int}(h:Hh l i=true):nameAt l i∈l:=C4 (SP h).2.2
theorem QL(n:G3)(sm:SmI n)(h:By n=true):(El n).length<=140737488355328:=by
 unfold By IP at h;simp only[A5,Cb,decide_eq_true_eq]at h;obtain⟨⟨⟨⟨⟨h0,⟨⟨⟨⟨g1,g2⟩,g3⟩,g4⟩,g5⟩⟩,k1⟩,k2⟩,k3⟩,k4⟩:=h
 have c1:∀x∈n.names.zip n.Aq,(NW x.1 x.2).length<=2200000:=λx hx=>by
  have m1:=List.of_mem_zip hx;have e1:=Hz (g1 _ m1.1);have e2:=k1 _ m1.2;unfold CX at e2;simp only[A5,decide_eq_true_eq,Cb]at e2;have e3:=Se (λd=>Cs Ba (D8 d)) 21 x.2.AZ λd hd=>by rw[Lo];have:=EC (e2.2 d hd);show 7+_+5<=21;omega
  have e4:=(sm.hol _ m1.2).1;have e5:=EC e2.1.2;have e6:(DH x.2.Bw).length=7:=by simp[DH,e2.1.1]
  simp only[NW,Ax,Q5,Lo,e6];have:AL.length=8/\Hc.length=4/\HU.length=4/\V8.length=2:=⟨rfl,rfl,rfl,rfl⟩;omega
 have c2:∀x∈n.opers,(Ju x).length<=30:=λx hx=>by have e1:=Hz (g2 _ hx);have:AO.length=8:=rfl;simp[Ju];omega
 have c3:∀x∈n.Ag,(OB n x).length<=1000000:=λx hx=>by
  have e1:=Hz (g3 _ hx);have e2:=k2 _ hx;unfold HH at e2;simp only[A5,Cb]at e2;obtain⟨⟨⟨⟨⟨r1,r2⟩,n1⟩,n2⟩,n3⟩,Y6⟩:=e2;have e3:=EC (Ck n1);have e4:=EC (Ck n2);have e5:=EC (Ck n3);have e6:=Hz (g2 _ (at_mem r1));have e7:=Hz (g1 _ (at_mem r2))
  have e8:(Ls x.AK).length<=900010:=by
   have:=(sm.cod _ hx).1;cases hc:x.AK with
   |nil=>simp[Ls]
   |cons y r=>
    (have e9:=Se (λz:Bs=>32::z) 9 (y::r) λz hz=>by have:=ZeY (Y6 z (by rw[hc];exact hz));simp;omega);rw[hc]at this;(have e10:(Ls (y::r)).length=9+(List.flatMap (λz:Bs=>32::z) (y::r)).length:=by show([32,32]++CC++(List.flatMap (λz:Bs=>32::z) (y::r))++[59,10]:Bs).length=_;have:CC.length=5:=rfl;rw[Ax,Ax,Ax,this];simp only[C1,DL];omega);rw[e10];have e11:(y::r).length*9<=100000*9:=BK _ this;omega
  simp only[OB,Ax,Q5,Lo];have:Ct.length=6/\AO.length=8/\AL.length=8/\EF.length=7/\Fy.length=6/\EG.length=7/\V8.length=2:=⟨rfl,rfl,rfl,rfl,rfl,rfl,rfl⟩;omega
 have c4:∀x∈n.Am,(PI n x).length<=200:=λx hx=>by
  have e1:=Hz (g4 _ hx);have e2:=k3 _ hx;unfold PJ at e2;simp only[A5]at e2;obtain⟨⟨⟨⟨r1,r2⟩,n1⟩,n2⟩,n3⟩:=e2;have e3:=EC (Ck n1);have e4:=EC (Ck n2);have e5:=EC (Ck n3);have q:∀y∈n.Ag.map (·.name),y.length<=16:=λy hy=>by obtain⟨o,ho,rfl⟩:=Cz.1 hy;exact Hz (g3 _ ho)
  have e6:=q _ (at_mem r1);have e7:=q _ (at_mem r2);have:DA.length=4/\Qs.length=2/\Ec.length=6/\Hd.length=4:=⟨rfl,rfl,rfl,rfl⟩;simp only[PI,Ax,C1,DL];omega
 have c5:∀x∈n.Ao,(MX x).length<=200:=λx hx=>by have e1:=Hz (g5 _ hx);have e2:=k4 _ hx;unfold MY at e2;simp only[A5]at e2;have e3:=EC (Ck e2.1);have e4:=EC (Ck e2.2);have:CD.length=5/\LH.length=3/\DR.length=7/\V8.length=2:=⟨rfl,rfl,rfl,rfl⟩;simp only[MX,Ax,Q5,Lo];omega
 have d1:=Se _ _ _ c1;have d2:=Se _ _ _ c2;have d3:=Se _ _ _ c3;have d4:=Se _ _ _ c4;have d5:=Se _ _ _ c5;have z1:(n.names.zip n.Aq).length<=100000:=by rw[DP];have:=sm.Aq;omega
 have s2:=sm.opers;have s3:=sm.Ag;have s4:=sm.Am;have s5:=sm.Ao;simp only[El,XQ,Ax];have e1:(n.names.zip n.Aq).length*2200000<=100000*2200000:=BK _ z1;have e2:n.opers.length*30<=100000*30:=BK _ s2;have e3:n.Ag.length*1000000<=100000*1000000:=BK _ s3;have e4:n.Am.length*200<=100000*200:=BK _ s4;have e5:n.Ao.length*200<=100000*200:=BK _ s5;omega
theorem Zgy(x:Bs):FO Pg wT wE 54 [.sl 1 (strs [AO,x++[59]])] (Ju x):=by
 rw[show Ju x=LK [AO,x++[59]] by simp[Ju,LK,Lib.join,CJ]];exact Un _ (by simp)
theorem oP{n:G3}{i:Int}(h:Hh (n.Ag.map (·.name)) i=true):0<=i/\i<n.Ag.length/\∃o,(n.Ag.map Ey)[i.toNat]?=some (Ey o)/\o.name=nameAt (n.Ag.map (·.name)) i:=by
 obtain⟨h1,h2,h3⟩:=SP h;rw[BU]at h2;rw[A2]at h3;obtain⟨o,ho,he⟩:=Cc.1 h3;exact⟨h1,h2,o,by rw[A2,ho];rfl,he⟩
theorem ZjE(n:G3)(x:Na):FO Pg wT wE 54 [.sl 1 (strs [DA,x.name++[58],nameAt (n.Ag.map (·.name)) x.from_,[45,62],nameAt (n.Ag.map (·.name)) x.VJ,Qs,D8 x.at_,Ec,D8 x.Bb,Hd,D8 x.load++[59]])] (PI n x):=by
 rw[show PI n x=LK [DA,x.name++[58],nameAt (n.Ag.map (·.name)) x.from_,[45,62],nameAt (n.Ag.map (·.name)) x.VJ,Qs,D8 x.at_,Ec,D8 x.Bb,Hd,D8 x.load++[59]] by simp[PI,LK,Lib.join,CJ]];exact Un _ (by simp)
def Gq(n:G3):HO:=.cells [.sl 3 (n.Aq.map ED),.sl 1 (strs n.names),.sl 1 (n.opers.map BP),.sl 7 (n.Ag.map Ey),.sl 6 (n.Am.map Jy),.sl 3 (n.Ao.map Ft)]
set_option maxHeartbeats 4000000 in
theorem nS(n:G3)(sm:SmI n):Au Pg 12 [Kd n] (λr=>r=.str (TP n)):=by
 have s1:=sm.Aq;have s2:=sm.Ag;have s3:=sm.Am;have s4:=sm.Ao;have s5:=sm.opers;refine Au.Ak func12 rfl Ab (by kernel_rfl) ?_;conv=>whnf
 refine Aa.ZaT ?_;refine kR ?_;refine kC (M9 n sm) ?_;constructor<;>intro g
 ·have g:By n=false:=by simpa using g
  refine kW ?_;exact congrArg AV.str (by unfold TP;rw[g];rfl)
 have g:By n=true:=by simpa using g
 have hT:=QL n sm g;have hN:TP n=El n:=by unfold TP;rw[g];rfl
 rw[hN];conv=>whnf
 refine Aa.iL ?_;conv=>whnf
 refine Aa.seq ?_;refine Aa.Zac wT wE 1 Ab ?_;conv=>whnf
 refine⟨rfl,rfl,λb=>?_⟩;have gp:=g;unfold By IP at gp;simp only[A5,Cb,decide_eq_true_eq]at gp;obtain⟨⟨⟨⟨⟨p0,⟨⟨⟨⟨g1,g2⟩,g3⟩,g4⟩,g5⟩⟩,k1⟩,k2⟩,k3⟩,k4⟩:=gp;have hP:El n=(n.names.zip n.Aq).flatMap (λx=>NW x.1 x.2)++n.opers.flatMap Ju++n.Ag.flatMap (OB n)++n.Am.flatMap (PI n)++n.Ao.flatMap MX:=by unfold El;rw[XQ]
 rw[hP]at hT ⊢;simp only[Ax]at hT;have hZ:(n.names.zip n.Aq).length=n.Aq.length:=by rw[DP];omega
 generalize hZe:n.names.zip n.Aq=Z at*;refine kW ?_
 refine Aa.Ar (λk:Nat=>mk 132 [(1,.ptr 1 0),(3,.raw (H9 b)),(20,.sl 3 (n.Aq.map ED)),(21,.int .i64 n.Aq.length),(22,.int .i64 k)])
  (λk=>[.inv (Qo wT wE b ((Z.take k).flatMap λx=>NW x.1 x.2)),Gq n]) (λk=>k<=n.Aq.length) (λk=>n.Aq.length-k) (λ_ _=>⟨rfl,rfl,trivial⟩) ⟨0,?_⟩ (λ_=>rfl) λk hk=>?_
 refine kQ ?_;exact BR _;unfold Gq;refine kR ?_;constructor<;>intro h
 ·have h:k<n.Aq.length:=by simpa using h
  have EV:Wr .i64 ((k:Int)+1)=((k+1:Nat):Int):=by rw[qW];rfl
  have NB:(n.Aq.map ED)[k]?=some (ED n.Aq[k]):=by rw[A2,A0 h];rfl
  have hkn:k<n.names.length:=by omega
  have hz:Z[k]=(n.names[k],n.Aq[k]):=by subst hZe;exact List.getElem_zip
  have Ai:(Z.take (k+1)).flatMap (λx:Bs×Dm=>NW x.1 x.2)=(Z.take k).flatMap (λx:Bs×Dm=>NW x.1 x.2)++NW n.names[k] n.Aq[k]:=by have:=NH (λx:Bs×Dm=>NW x.1 x.2) Z k (by omega);rw[hz]at this;exact this
  have hle:=Rh (λx:Bs×Dm=>NW x.1 x.2) Z (k+1);rw[Ai,Ax]at hle;refine kW ?_;refine⟨by omega,_,NB,?_⟩;refine kW ?_;refine Aa.draw [7] Ab mO (by kernel_rfl) ?_;conv=>whnf
  refine⟨by omega,_,CW n.names k hkn,?_⟩;conv=>whnf
  refine Ah.F0 rfl (nE n.names[k] n.Aq[k] (sm.nmt _ (A3 hkn)) (k1 _ (A3 h)) (sm.hol _ (A3 h)).1) rfl (by omega) ?_;refine kW ?_;refine⟨k+1,?_⟩;conv=>whnf
  repeat(refine A6 ?_ ?_;(focus (first|rfl|(simp;done)|(first|exact EV|exact congrArg (λx=>HO.inv (Qo wT wE b x)) Ai.symm;done)));conv=>whnf)
  omega
 have h:k=n.Aq.length:=by simp at h;omega
 rw[show Z.take k=Z from C2 (by omega)];generalize hA:Z.flatMap (λx:Bs×Dm=>NW x.1 x.2)=A at*;refine kW ?_
 refine Aa.Ar (λk:Nat=>mk 132 [(1,.ptr 1 0),(3,.raw (H9 b)),(37,.sl 1 (n.opers.map BP)),(38,.int .i64 n.opers.length),(39,.int .i64 k)])
  (λk=>[.inv (Qo wT wE b (A++(n.opers.take k).flatMap Ju)),Gq n]) (λk=>k<=n.opers.length) (λk=>n.opers.length-k) (λ_ _=>⟨rfl,rfl,trivial⟩) ⟨0,?_⟩ (λ_=>rfl) λk hk=>?_
 refine kQ ?_;exact⟨by simp[Gq],BR _⟩;unfold Gq;refine kR ?_;constructor<;>intro h
 ·have h:k<n.opers.length:=by simpa using h
  have EV:Wr .i64 ((k:Int)+1)=((k+1:Nat):Int):=by rw[qW];rfl
  have Ai:=NH Ju n.opers k h;have hle:=Rh Ju n.opers (k+1);rw[Ai,Ax]at hle;refine kW ?_;refine⟨by omega,_,bO n.opers k h,?_⟩;have VC:=Hz (g2 _ (A3 h));refine kW ?_;refine⟨by simp;omega,?_⟩;refine kW ?_;refine Ah.freeze 3 ?_ (by kernel_rfl);conv=>whnf
  refine⟨by simp[closed],?_⟩;conv=>whnf
  repeat(refine⟨(by first|rfl|(simp;done):(_:Nat)=_),?_⟩;conv=>whnf)
  refine Ah.F0 rfl (Zgy n.opers[k]) rfl (by rw[Ax];omega) ?_;exact YaQ
 have h:k=n.opers.length:=by simp at h;omega
 rw[h,A4];have hB:(A++n.opers.flatMap Ju).length=A.length+(n.opers.flatMap Ju).length:=Ax;generalize A++n.opers.flatMap Ju=B at*;refine kW ?_
 refine Aa.Ar (λk:Nat=>mk 132 [(1,.ptr 1 0),(3,.raw (H9 b)),(51,.sl 7 (n.Ag.map Ey)),(52,.int .i64 n.Ag.length),(53,.int .i64 k)])
  (λk=>[.inv (Qo wT wE b (B++(n.Ag.take k).flatMap (OB n))),Gq n]) (λk=>k<=n.Ag.length) (λk=>n.Ag.length-k) (λ_ _=>⟨rfl,rfl,trivial⟩) ⟨0,?_⟩ (λ_=>rfl) λk hk=>?_
 refine kQ ?_;exact⟨by simp[Gq],BR _⟩;unfold Gq;refine kR ?_;constructor<;>intro h
 ·have h:k<n.Ag.length:=by simpa using h
  have EV:Wr .i64 ((k:Int)+1)=((k+1:Nat):Int):=by rw[qW];rfl
  have Ai:=NH (OB n) n.Ag k h;have hle:=Rh (OB n) n.Ag (k+1);rw[Ai,Ax]at hle;have NB:(n.Ag.map Ey)[k]?=some (Ey n.Ag[k]):=by rw[A2,A0 h];rfl
  refine kW ?_;refine⟨by omega,_,NB,?_⟩;refine kW ?_;refine Ah.F0 rfl (ZaI n n.Ag[k] (k2 _ (A3 h)) (sm.cod _ (A3 h)).1 s5 sm.names) rfl (by rw[Ax];omega) ?_;exact YaQ
 have h:k=n.Ag.length:=by simp at h;omega
 rw[h,A4];have hC:(B++n.Ag.flatMap (OB n)).length=B.length+(n.Ag.flatMap (OB n)).length:=Ax;generalize B++n.Ag.flatMap (OB n)=D at*;refine kW ?_
 refine Aa.Ar (λk:Nat=>mk 132 [(1,.ptr 1 0),(3,.raw (H9 b)),(63,.sl 6 (n.Am.map Jy)),(64,.int .i64 n.Am.length),(65,.int .i64 k)])
  (λk=>[.inv (Qo wT wE b (D++(n.Am.take k).flatMap (PI n))),Gq n]) (λk=>k<=n.Am.length) (λk=>n.Am.length-k) (λ_ _=>⟨rfl,rfl,trivial⟩) ⟨0,?_⟩ (λ_=>rfl) λk hk=>?_
 refine kQ ?_;exact⟨by simp[Gq],BR _⟩;unfold Gq;refine kR ?_;constructor<;>intro h
 ·have h:k<n.Am.length:=by simpa using h
  have EV:Wr .i64 ((k:Int)+1)=((k+1:Nat):Int):=by rw[qW];rfl
  have Ai:=NH (PI n) n.Am k h;have hle:=Rh (PI n) n.Am (k+1);rw[Ai,Ax]at hle;have NB:(n.Am.map Jy)[k]?=some (Jy n.Am[k]):=by rw[A2,A0 h];rfl
  refine kW ?_;refine⟨by omega,_,NB,?_⟩;refine kW ?_;have VC:=Hz (g4 _ (A3 h));have yH:=k3 _ (A3 h);generalize Y5:n.Am[k]=x at*;unfold PJ at yH;simp only[A5]at yH;obtain⟨⟨⟨⟨r1,r2⟩,n1⟩,n2⟩,n3⟩:=yH;obtain⟨u1,u2,o1,u3,u4⟩:=oP r1;obtain⟨v1,v2,o2,v3,v4⟩:=oP r2;have dl:=EC (Ck n3);refine Aa.KE [28] [29] Ab mO (by kernel_rfl) ?_;conv=>whnf
  refine⟨by simp;omega,?_⟩;conv=>whnf
  refine⟨by omega,_,u3,?_⟩;conv=>whnf
  refine⟨by omega,_,v3,?_⟩;conv=>whnf
  refine⟨_,⟨FJ (Ck n1),rfl⟩,?_⟩;conv=>whnf
  refine⟨_,⟨FJ (Ck n2),rfl⟩,?_⟩;conv=>whnf
  refine⟨_,⟨FJ (Ck n3),rfl⟩,?_⟩;conv=>whnf
  refine⟨by simp;omega,?_⟩;conv=>whnf
  rw[u4,v4];refine Ah.F0 rfl (ZjE n x) rfl (by rw[Ax];omega) ?_;exact YaQ
 have h:k=n.Am.length:=by simp at h;omega
 rw[h,A4];have hD:(D++n.Am.flatMap (PI n)).length=D.length+(n.Am.flatMap (PI n)).length:=Ax;generalize D++n.Am.flatMap (PI n)=F at*;refine kW ?_
 refine Aa.Ar (λk:Nat=>mk 132 [(1,.ptr 1 0),(3,.raw (H9 b)),(101,.sl 3 (n.Ao.map Ft)),(102,.int .i64 n.Ao.length),(103,.int .i64 k)])
  (λk=>[.inv (Qo wT wE b (F++(n.Ao.take k).flatMap MX)),Gq n]) (λk=>k<=n.Ao.length) (λk=>n.Ao.length-k) (λ_ _=>⟨rfl,rfl,trivial⟩) ⟨0,?_⟩ (λ_=>rfl) λk hk=>?_
 refine kQ ?_;exact⟨by simp[Gq],BR _⟩;unfold Gq;refine kR ?_;constructor<;>intro h
 ·have h:k<n.Ao.length:=by simpa using h
  have EV:Wr .i64 ((k:Int)+1)=((k+1:Nat):Int):=by rw[qW];rfl
  have Ai:=NH MX n.Ao k h;have hle:=Rh MX n.Ao (k+1);rw[Ai,Ax]at hle;have NB:(n.Ao.map Ft)[k]?=some (Ft n.Ao[k]):=by rw[A2,A0 h];rfl
  have yH:=k4 _ (A3 h);have LS:(MX n.Ao[k]).length=(Ku CD n.Ao[k].name).length+(Cs LH (D8 n.Ao[k].cut)).length+(Cs DR (D8 n.Ao[k].Be)).length+V8.length:=by unfold MX;simp only[Ax]
  have hcq:MX n.Ao[k]=Ku CD n.Ao[k].name++Cs LH (D8 n.Ao[k].cut)++Cs DR (D8 n.Ao[k].Be)++V8:=rfl;generalize Y5:n.Ao[k]=x at*;unfold MY at yH;simp only[A5]at yH;obtain⟨n1,n2⟩:=yH;refine kW ?_;refine⟨by omega,_,NB,?_⟩;refine kW ?_;refine Ah.freeze 3 ?_ (by kernel_rfl);conv=>whnf
  refine⟨by simp[closed],?_⟩;conv=>whnf
  repeat(refine⟨(by first|rfl|(simp;done):(_:Nat)=_),?_⟩;conv=>whnf)
  refine Ah.F0 rfl (lE CD x.name) rfl (by simp only[Ax];omega) ?_;refine kW ?_;refine kC (FJ (Ck n1)) ?_;refine Ah.freeze 4 ?_ (by kernel_rfl);conv=>whnf
  refine⟨by simp[closed],?_⟩;conv=>whnf
  repeat(refine⟨(by first|rfl|(simp;done):(_:Nat)=_),?_⟩;conv=>whnf)
  refine Ah.F0 rfl (MR LH (D8 x.cut)) rfl (by simp only[Ax];omega) ?_;refine kW ?_;refine kC (FJ (Ck n2)) ?_;refine Ah.freeze 5 ?_ (by kernel_rfl);conv=>whnf
  refine⟨by simp[closed],?_⟩;conv=>whnf
  repeat(refine⟨(by first|rfl|(simp;done):(_:Nat)=_),?_⟩;conv=>whnf)
  refine Ah.F0 rfl (MR DR (D8 x.Be)) rfl (by simp only[Ax];omega) ?_;refine kW ?_;refine Ah.freeze 6 ?_ (by kernel_rfl);conv=>whnf
  refine⟨by simp[closed],?_⟩;conv=>whnf
  repeat(refine⟨(by first|rfl|(simp;done):(_:Nat)=_),?_⟩;conv=>whnf)
  refine Ah.F0 rfl qN rfl (by simp only[Ax];omega) ?_;refine kW ?_;refine⟨k+1,?_⟩;conv=>whnf
  repeat(refine A6 ?_ ?_;(focus (first|rfl|(simp;done)|(first|exact EV|exact congrArg (λx=>HO.inv (Qo wT wE b x)) (by rw[Ai,hcq];simp);done)));conv=>whnf)
  omega
 have h:k=n.Ao.length:=by simp at h;omega
 rw[h,A4];refine kW ?_;refine Ah.oQ rfl Zdd (by rw[Ax];omega) ?_;exact Er
def VM(s:Bs):Bool:=decide (s.length<=40)
def HY(n:G3):List Bs:=n.names++n.opers++n.Ag.map (·.name)++n.Am.map (·.name)++n.Ao.map (·.name)
def BM(n:G3):Bool:=
 decide (n.Aq.length<=8)&&decide (n.names.length<=8)&&decide (n.opers.length<=8)&&decide (n.Ag.length<=15)&&decide (n.Am.length<=45)&&decide (n.Ao.length<=6)&&(HY n).all VM&&
  (n.Aq.all λc=>decide (c.AZ.length<=50)&&decide (c.Bw.length<=20))&&n.Ag.all λo=>o.AK.all VM&&decide (o.AK.length<=12)
theorem N8(l:List Bs)(m:Int)(hl:l.length<=9223372036854775807):Au Pg 20 [.sl 1 (strs l),.int .i64 m] (λr=>r=.bool (l.all VM&&decide ((l.length:Int)<=m))):=by
 have hsl:(strs l).length=l.length:=Mf l;refine kB func20 rfl ?_;refine Aa.Ar (λk:Nat=>mk 22 [(0,.sl 1 (strs l)),(1,.int .i64 m),(4,.lit false),(5,.int .i64 k)]) (λ_=>[]) (λk=>k<=l.length/\(l.take k).all VM=true) (λk=>l.length-k) (λ_ _=>⟨rfl,trivial⟩) ⟨0,?_⟩ (λ_=>rfl) λk hk=>?_;refine kQ ?_;rfl;obtain⟨hk,ha⟩:=hk;refine kR ?_;constructor<;>intro h
 ·have h:k<l.length:=by simpa using h
  have EV:Wr .i64 ((k:Int)+1)=((k+1:Nat):Int):=by rw[qW];rfl
  refine kW ?_;refine⟨by omega,_,CW l k h,?_⟩;refine kW ?_;constructor<;>intro q;·(have q:VM l[k]=false:=by simp at q;simp[VM];omega);refine kW ?_;exact congrArg AV.bool (by rw[Ly VM l k h q];rfl)
  have q:VM l[k]=true:=by simp at q;simp[VM];omega
  refine kW ?_;refine⟨k+1,?_⟩;refine gF EV ?_;exact⟨⟨by omega,by rw[GU _ _ _ h,ha,q];rfl⟩,by omega⟩
 have h:k=l.length:=by simp at h;omega
 rw[h,A4]at ha;refine kW ?_;exact congrArg AV.bool (by rw[ha,hsl];rfl)
set_option maxHeartbeats 4000000 in
theorem aR(n:G3)(h1:n.names.length<=1000)(h2:n.opers.length<=1000)(h3:n.Ag.length<=1000)(h4:n.Am.length<=1000)(h5:n.Ao.length<=1000):
  Au Pg 21 [Kd n] (λr=>r=.sl 1 (strs (HY n))):=by
 refine kB func21 rfl ?_;refine⟨⟨rfl,by simp;omega⟩,?_⟩;refine kW ?_;have ZqW:(n.names:List Bs).length<=1000:=by first|omega|(simp only[Ax,BU];omega)
 refine Aa.Ar (λk:Nat=>mk 77 [(1,.ptr 0 0),(3,.own 1 1 0 ((n.names:List Bs).length+k)),(4,.int .i64 k)])
  (λk=>[Gq n,.arr 9 1 (strs ((n.names)++(n.opers.take k).map (λx:Bs=>x)))]) (λk=>k<=n.opers.length) (λk=>n.opers.length-k) (λ_ _=>⟨rfl,rfl,Cm _,trivial⟩) ⟨0,?_⟩ (λ_=>rfl) λk hk=>?_
 ·exact YaP
 unfold Gq;refine kR ?_;constructor<;>intro h
 ·have h:k<n.opers.length:=by simpa using h
  have EV:Wr .i64 ((k:Int)+1)=((k+1:Nat):Int):=by rw[qW];rfl
  have NB:(n.opers.map BP)[k]?=some (BP n.opers[k]):=by rw[A2,A0 h];rfl
  have Ai:strs ((n.names)++(n.opers.take (k+1)).map (λx:Bs=>x))=strs ((n.names)++(n.opers.take k).map (λx:Bs=>x))++[.str ((λx:Bs=>x) n.opers[k])]:=by rw[A1 h,A9,<-Ce];unfold strs;rw[A9];rfl
  exact YaO
 have h:k=n.opers.length:=by simp at h;omega
 rw[h,A4];refine kW ?_;have ZqV:(n.names++n.opers:List Bs).length<=2000:=by first|omega|(simp only[Ax,BU];omega)
 refine Aa.Ar (λk:Nat=>mk 77 [(1,.ptr 0 0),(3,.own 1 1 0 ((n.names++n.opers:List Bs).length+k)),(5,.int .i64 k)])
  (λk=>[Gq n,.arr 9 1 (strs ((n.names++n.opers)++(n.Ag.take k).map (λx:JV=>x.name)))]) (λk=>k<=n.Ag.length) (λk=>n.Ag.length-k) (λ_ _=>⟨rfl,rfl,Cm _,trivial⟩) ⟨0,?_⟩ (λ_=>rfl) λk hk=>?_
 ·exact YaP
 unfold Gq;refine kR ?_;constructor<;>intro h
 ·have h:k<n.Ag.length:=by simpa using h
  have EV:Wr .i64 ((k:Int)+1)=((k+1:Nat):Int):=by rw[qW];rfl
  have NB:(n.Ag.map Ey)[k]?=some (Ey n.Ag[k]):=by rw[A2,A0 h];rfl
  have Ai:strs ((n.names++n.opers)++(n.Ag.take (k+1)).map (λx:JV=>x.name))=strs ((n.names++n.opers)++(n.Ag.take k).map (λx:JV=>x.name))++[.str ((λx:JV=>x.name) n.Ag[k])]:=by rw[A1 h,A9,<-Ce];unfold strs;rw[A9];rfl
  exact YaO
 have h:k=n.Ag.length:=by simp at h;omega
 rw[h,A4];refine kW ?_;have ZqU:(n.names++n.opers++n.Ag.map (·.name):List Bs).length<=3000:=by first|omega|(simp only[Ax,BU];omega)
 refine Aa.Ar (λk:Nat=>mk 77 [(1,.ptr 0 0),(3,.own 1 1 0 ((n.names++n.opers++n.Ag.map (·.name):List Bs).length+k)),(6,.int .i64 k)])
  (λk=>[Gq n,.arr 9 1 (strs ((n.names++n.opers++n.Ag.map (·.name))++(n.Am.take k).map (λx:Na=>x.name)))]) (λk=>k<=n.Am.length) (λk=>n.Am.length-k) (λ_ _=>⟨rfl,rfl,Cm _,trivial⟩) ⟨0,?_⟩ (λ_=>rfl) λk hk=>?_
 ·exact YaP
 unfold Gq;refine kR ?_;constructor<;>intro h
 ·have h:k<n.Am.length:=by simpa using h
  have EV:Wr .i64 ((k:Int)+1)=((k+1:Nat):Int):=by rw[qW];rfl
  have NB:(n.Am.map Jy)[k]?=some (Jy n.Am[k]):=by rw[A2,A0 h];rfl
  have Ai:strs ((n.names++n.opers++n.Ag.map (·.name))++(n.Am.take (k+1)).map (λx:Na=>x.name))=strs ((n.names++n.opers++n.Ag.map (·.name))++(n.Am.take k).map (λx:Na=>x.name))++[.str ((λx:Na=>x.name) n.Am[k])]:=by rw[A1 h,A9,<-Ce];unfold strs;rw[A9];rfl
  exact YaO
 have h:k=n.Am.length:=by simp at h;omega
 rw[h,A4];refine kW ?_;have ZqT:(n.names++n.opers++n.Ag.map (·.name)++n.Am.map (·.name):List Bs).length<=4000:=by first|omega|(simp only[Ax,BU];omega)
 refine Aa.Ar (λk:Nat=>mk 77 [(1,.ptr 0 0),(3,.own 1 1 0 ((n.names++n.opers++n.Ag.map (·.name)++n.Am.map (·.name):List Bs).length+k)),(7,.int .i64 k)])
  (λk=>[Gq n,.arr 9 1 (strs ((n.names++n.opers++n.Ag.map (·.name)++n.Am.map (·.name))++(n.Ao.take k).map (λx:Io=>x.name)))]) (λk=>k<=n.Ao.length) (λk=>n.Ao.length-k) (λ_ _=>⟨rfl,rfl,Cm _,trivial⟩) ⟨0,?_⟩ (λ_=>rfl) λk hk=>?_
 ·exact YaP
 unfold Gq;refine kR ?_;constructor<;>intro h
 ·have h:k<n.Ao.length:=by simpa using h
  have EV:Wr .i64 ((k:Int)+1)=((k+1:Nat):Int):=by rw[qW];rfl
  have NB:(n.Ao.map Ft)[k]?=some (Ft n.Ao[k]):=by rw[A2,A0 h];rfl
  have Ai:strs ((n.names++n.opers++n.Ag.map (·.name)++n.Am.map (·.name))++(n.Ao.take (k+1)).map (λx:Io=>x.name))=strs ((n.names++n.opers++n.Ag.map (·.name)++n.Am.map (·.name))++(n.Ao.take k).map (λx:Io=>x.name))++[.str ((λx:Io=>x.name) n.Ao[k])]:=by rw[A1 h,A9,<-Ce];unfold strs;rw[A9];rfl
  exact YaO
 have h:k=n.Ao.length:=by simp at h;omega
 rw[h,A4];refine kW ?_;refine⟨⟨by simp;omega,Cm _⟩,?_⟩;conv=>whnf
 rfl
theorem Zgj{n:G3}(h:(n.Aq.all λc=>decide (c.AZ.length<=50)&&decide (c.Bw.length<=20))=false):BM n=false:=by unfold BM;rw[h];simp
theorem Zgi{n:G3}(h:(n.Ag.all λo=>o.AK.all VM&&decide (o.AK.length<=12))=false):BM n=false:=by unfold BM;rw[h];simp
set_option maxHeartbeats 4000000 in
theorem nR(n:G3)(LS:∀o∈n.Ag,o.AK.length<=9223372036854775807):Au Pg 5 [Kd n] (λr=>r=.bool (BM n)):=by
 refine kB func5 rfl ?_;constructor<;>intro q0
 ·have q0:n.Aq.length<=8:=by simp at q0;omega
  refine kW ?_;constructor<;>intro q1
  ·(have q1:n.names.length<=8:=by simp at q1;omega);refine kW ?_;constructor<;>intro q2
   ·(have q2:n.opers.length<=8:=by simp at q2;omega);refine kW ?_;constructor<;>intro q3
    ·(have q3:n.Ag.length<=15:=by simp at q3;omega);refine kW ?_;constructor<;>intro q4
     ·(have q4:n.Am.length<=45:=by simp at q4;omega);refine kW ?_;constructor<;>intro q5
      ·(have q5:n.Ao.length<=6:=by simp at q5;omega);refine kW ?_;refine kC (aR n (by omega) (by omega) (by omega) (by omega) (by omega)) ?_;(have VC:(HY n).length<=100:=by simp[HY];omega);refine kC (N8 (HY n) 100 (by omega)) ?_;rw[decide_eq_true (show((HY n).length:Int)<=100 by omega),Bool.and_true];constructor<;>intro q6;·(have q6:(HY n).all VM=false:=by simp only[BQ]at q6;exact q6);refine kW ?_;exact congrArg AV.bool (by unfold BM;rw[q6];simp)
       (have q6:(HY n).all VM=true:=by simp only[BG]at q6;exact q6);refine kW ?_;refine Aa.Ar (λk:Nat=>mk 85 [(1,.ptr 0 0),(2,.lit false),(3,.int .i64 k)]) (λ_=>[Gq n]) (λk=>k<=n.Aq.length/\((n.Aq.take k).all λc=>decide (c.AZ.length<=50)&&decide (c.Bw.length<=20))=true) (λk=>n.Aq.length-k) (λ_ _=>⟨rfl,rfl,trivial⟩) ⟨0,?_⟩ (λ_=>rfl) λk hk=>?_;refine kQ ?_;rfl;obtain⟨hk,ha⟩:=hk;unfold Gq;refine kR ?_;constructor<;>intro h
       ·(have h:k<n.Aq.length:=by simpa using h);(have EV:Wr .i64 ((k:Int)+1)=((k+1:Nat):Int):=by rw[qW];rfl);(have NB:(n.Aq.map ED)[k]?=some (ED n.Aq[k]):=by rw[A2,A0 h];rfl);have G0:=λe=>Zgj (Ly (λc:Dm=>decide (c.AZ.length<=50)&&decide (c.Bw.length<=20)) n.Aq k h e);have Ai:=GU (λc:Dm=>decide (c.AZ.length<=50)&&decide (c.Bw.length<=20)) n.Aq k h;generalize Y5:n.Aq[k]=c at*;refine kW ?_;refine⟨by omega,_,NB,?_⟩;refine kW ?_;constructor<;>intro z
        ·(have z:c.AZ.length<=50:=by simp at z;omega);refine kW ?_;refine⟨by omega,_,NB,?_⟩;refine kW ?_;constructor<;>intro y;·(have y:¬c.Bw.length<=20:=by simp at y;omega);refine kW ?_;exact congrArg AV.bool (G0 (by rw[decide_eq_false y];simp)).symm
         (have y:c.Bw.length<=20:=by simp at y;omega);refine kW ?_;refine⟨k+1,?_⟩;refine gF EV ?_;exact⟨⟨by omega,by rw[Ai,ha,decide_eq_true z,decide_eq_true y];rfl⟩,by omega⟩
        (have z:¬c.AZ.length<=50:=by simp at z;omega);refine kW ?_;exact congrArg AV.bool (G0 (by rw[decide_eq_false z];simp)).symm
       (have h:k=n.Aq.length:=by simp at h;omega);rw[h,A4]at ha;refine kW ?_;refine Aa.Ar (λk:Nat=>mk 85 [(1,.ptr 0 0),(2,.lit false),(4,.int .i64 k)]) (λ_=>[Gq n]) (λk=>k<=n.Ag.length/\((n.Ag.take k).all λo=>o.AK.all VM&&decide (o.AK.length<=12))=true) (λk=>n.Ag.length-k) (λ_ _=>⟨rfl,rfl,trivial⟩) ⟨0,?_⟩ (λ_=>rfl) λk hk=>?_;refine kQ ?_;rfl;obtain⟨hk,hb⟩:=hk;unfold Gq;refine kR ?_;constructor<;>intro h
       ·(have h:k<n.Ag.length:=by simpa using h);(have EV:Wr .i64 ((k:Int)+1)=((k+1:Nat):Int):=by rw[qW];rfl);(have NB:(n.Ag.map Ey)[k]?=some (Ey n.Ag[k]):=by rw[A2,A0 h];rfl);have G0:=λe=>Zgi (Ly (λo:JV=>o.AK.all VM&&decide (o.AK.length<=12)) n.Ag k h e);have Ai:=GU (λo:JV=>o.AK.all VM&&decide (o.AK.length<=12)) n.Ag k h;have hcm:=LS _ (A3 h);generalize Y5:n.Ag[k]=o at*;refine kW ?_;refine⟨by omega,_,NB,?_⟩;refine kW ?_;refine kC (N8 o.AK 12 hcm) ?_;(have he:decide ((o.AK.length:Int)<=12)=decide (o.AK.length<=12):=by rw[decide_eq_decide];omega);rw[he];constructor<;>intro z;·(have z:(o.AK.all VM&&decide (o.AK.length<=12))=false:=by simp only[BQ]at z;exact z);refine kW ?_;exact congrArg AV.bool (G0 z).symm
        (have z:(o.AK.all VM&&decide (o.AK.length<=12))=true:=by simp only[BG]at z;exact z);refine kW ?_;refine⟨k+1,?_⟩;refine gF EV ?_;exact⟨⟨by omega,by rw[Ai,hb,z];rfl⟩,by omega⟩
       (have h:k=n.Ag.length:=by simp at h;omega);rw[h,A4]at hb;refine kW ?_;refine congrArg AV.bool ?_;unfold BM;rw[decide_eq_true q0,decide_eq_true q1,decide_eq_true q2,decide_eq_true q3,decide_eq_true q4,decide_eq_true q5,q6,ha,hb];rfl
      (have q5:¬n.Ao.length<=6:=by simp at q5;omega);refine kW ?_;exact congrArg AV.bool (by unfold BM;rw[decide_eq_false q5];simp)
     (have q4:¬n.Am.length<=45:=by simp at q4;omega);refine kW ?_;exact congrArg AV.bool (by unfold BM;rw[decide_eq_false q4];simp)
    (have q3:¬n.Ag.length<=15:=by simp at q3;omega);refine kW ?_;exact congrArg AV.bool (by unfold BM;rw[decide_eq_false q3];simp)
   (have q2:¬n.opers.length<=8:=by simp at q2;omega);refine kW ?_;exact congrArg AV.bool (by unfold BM;rw[decide_eq_false q2];simp)
  have q1:¬n.names.length<=8:=by simp at q1;omega
  refine kW ?_;exact congrArg AV.bool (by unfold BM;rw[decide_eq_false q1];simp)
 have q0:¬n.Aq.length<=8:=by simp at q0;omega
 refine kW ?_;exact congrArg AV.bool (by unfold BM;rw[decide_eq_false q0];simp)
theorem aF{n:G3}(h:BM n=true):SmI n:=by
 unfold BM at h;simp only[A5,decide_eq_true_eq,Cb]at h;obtain⟨⟨⟨⟨⟨⟨⟨⟨h1,h2⟩,h3⟩,h4⟩,h5⟩,h6⟩,h7⟩,h8⟩,h9⟩:=h;have q:∀x∈HY n,x.length<=8000:=λx hx=>by have:=h7 x hx;simp[VM]at this;omega
 unfold HY at q;simp only[List.mem_append,Cz]at q
 refine⟨by omega,by omega,by omega,by omega,by omega,by omega,λx hx=>q x (by simp[hx]),λx hx=>q x (by simp[hx]),λx hx=>q x.name (.inl (.inl (.inr ⟨x,hx,rfl⟩))),λx hx=>q x.name (.inl (.inr ⟨x,hx,rfl⟩)),λx hx=>q x.name (.inr ⟨x,hx,rfl⟩),
  λc hc=>?_,λo ho=>?_⟩
 have:=h8 c hc;omega;have:=h9 o ho;exact⟨by omega,λx hx=>by have:=this.1 x hx;simp[VM]at this;omega⟩
theorem ZaW(n:Nw):Kd (ofN n)=VV n:=by
 unfold Kd VV ofN;simp only[List.map_map];rfl
theorem Uf{n:G3}(h:By n=true):Kd n=VV (toN n):=by
 rw[<-ZaW,ZdM h]
theorem KL{α:Type}{f:α->α->Bool}(h:∀x,f x x=true)(l:List α):Ji f l l=true:=Da.2 ⟨rfl,λk _ _=>h _⟩
theorem aM(n:Nw):Fk n n=true:=by
 refine TA.2 ⟨rfl,KL (λx=>?_) _,KL (λx=>?_) _,KL (λx=>?_) _,KL (λx=>?_) _,KL (λx=>?_) _⟩;simp[Ed];simp;simp[Fz];simp[FA];simp[FB]
theorem sN{n:Nw}(h:Sml n):Au Pg 13 [VV n,VV n] (λr=>r=.bool true):=by
 have:=QB n n h h;rwa [aM n]at this
theorem Zdq{n:G3}(h:SmI n):Sml (toN n):=by
 refine⟨h.Aq,h.names,h.opers,by simpa[toN]using h.Ag,by simpa[toN]using h.Am,h.Ao,λc hc=>(h.hol c hc).symm,λo ho=>?_⟩;obtain⟨x,hx,rfl⟩:=Cz.1 ho;exact(h.cod x hx).1
theorem bK{s:Bs}(hs:s.length<=9223372036854775807){x:Res}(h:FZ s=x):Au Pg 11 [.str s] (λr=>r=oJ x):=by
 have:=fZ s hs;rwa [h]at this
end Go.Proofs.YtmmhehdlnjojjaaGreatDoor.Np