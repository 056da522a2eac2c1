/- AV: contracts of the library's functions. -/
import Derived.Shelf.Strings.FuncGrows
import Derived.Shelf.Strings.OnBuilder
import Derived.Shelf.Strconv.Itoa3
import Derived.Test.YtmmhehdlnjojjaaGreatDoorKf2
import Derived.Shelf.Strings.Builder1
set_option linter.unusedVariables false
set_option maxRecDepth 100000
set_option linter.unusedSectionVars false
set_option linter.unusedSimpArgs false
open List renaming getElem?_set_ne → Am, getElem?_set_self → Ap, getElem?_eq_some_iff → As, getElem?_take → A0, getElem?_eq_getElem → A2, getElem?_eq_none → A3, mem_singleton → A6, getElem?_set_self' → A9, map_cons → Bc, mem_range → Be, replicate → Bg, mem_iff_getElem? → Cz, mem_cons → C0, getD_eq_getElem?_getD → D0, getElem?_cons_zero → Fw, eq_nil_of_length_eq_zero → G0, all_eq_true → G1, range → Hq, mem_append → HS, pairwise_iff_getElem → It, getElem_mem → Kt, perm_middle → Ky, length_pos_of_mem → KO, length_filter_le → K2, mem_map → Ll, mem_of_getElem? → LJ, mem_cons_of_mem → LL, flatMap_cons → L3, ext_getElem? → L4, getElem?_map → L5, map_toArray → M4, not_mem_nil → M5, mem_filter → N2, nodup_cons → N3, take_take → OH, nodup_nil → OL, set_comm → Pl
open Array renaming getElem?_eq_some_iff → Ao, getD → Bb, getElem?_modify → Cc, replicate → HB, any_eq_true' → Ip, toList_inj → Np
open Go.Region renaming ready → AZ, binds → E3, wanted → Hp
open Bool renaming and_eq_true → A1, or_eq_true → N1
open Option renaming some → A4, isSome_iff_exists → JW
open Nat renaming le_refl → A5, eq_of_beq_eq_true → GH, le_of_not_lt → G2, zero_le → Hs, ne_of_beq_eq_false → KR, lt_of_lt_of_le → LQ, beq → L2, le_trans → M3, blt_eq → O6, blt → PX
open Go.World renaming setCell → CL, cell? → EV, frozen? → L0, ownsRow_nil → L1, shape? → PU
open Int renaming fdiv_eq_ediv_of_nonneg → H0
open Go.Result renaming andThen_ok → Ix, andThen → Of
open Go.Builtin renaming unsafeSliceData_ → Jb, append_ → NV
open Go.Value renaming func → Ki, ownBlock → N4
open Prod renaming fst → Kj
open Go.IntKind renaming bits → K0, signed → LM, min → Nz, max → NB
open Go.Op renaming operands → LP
open Go.Sem renaming run_bind → M0, run_pure → M1
open Go.Oper renaming wp → Pg
namespace Go.Av
theorem Yax{P:Prop}(e:P:=by
 have EW:i<k:=by omega
 obtain⟨v,hv⟩:=wG EW;have yL:i<b.size:=by rw[hD.sz];exact DT
 refine Ai i o v EW h2 hv E' Y7 _ (ih _ _ ?_ ⟨by simp[hD.sz],λj hkj hj=>by rw[getD_set_ne true (by omega)];exact hD.up j hkj hj,by rw[Tg];exact hD.len,λt ht=>?_,λt j oj vj hj DP hd hvj hbj=>?_⟩);have:=kJ (l:=Hq ops.size) (p:=λj=>!b.getD j true) (q:=λj=>!(b.setIfInBounds i true).getD j true) (λj hj=>by by_cases UQ:i=j;subst UQ;rw[h1];rfl;rw[getD_set_ne true UQ]at hj;exact hj) (Be.2 DT) (by rw[h1];rfl) (by simp[Bb,yL]);unfold LN at hf⊢;omega
 ·have BK:o.dst≠some t:=λhd=>by have:=ht i o EW h2 hd;simp[Bb,yL]at this
  have e1:(B8 E' o.dst v)[t]?=E'[t]?:=by
   cases hd:o.dst with
   |none=>rfl
   |some d=>
    have:d≠t:=λe=>BK (by rw[hd,e]);simp only[B8];exact Am this
  rw[e1];refine hD.G5 t λj oj hj DP hd=>?_;have:=ht j oj hj DP hd;rwa [getD_set_ne true (λe=>by subst e;rw[h2]at DP;cases DP;exact BK hd)]at this
 by_cases UQ:i=j
 ·subst UQ;rw[h2]at DP;cases DP;rw[hv]at hvj;cases hvj;rw[hd];simp only[B8];rw[A9,A9];have hl:=hD.len;by_cases AA:t<E'.length;·have F5:t<E.length:=hl▸AA;rw[A2 AA,A2 F5];rfl
  have F5:¬t<E.length:=λh=>AA (hl.symm▸h);rw[A3 (G2 AA),A3 (G2 F5)]
 have BK:o.dst≠some t:=λdR=>UQ (dif EW hj h2 DP dR hd)
 have e1:(B8 E' o.dst v)[t]?=E'[t]?:=by
  cases hd:o.dst with
  |none=>rfl
  |some d=>
   have:d≠t:=λe=>BK (by rw[hd,e]);simp only[B8];exact Am this
 rw[e1];rw[getD_set_ne true UQ]at hbj;exact hD.new t j oj vj hj DP hd hvj hbj):P:=e
theorem Yay{P:Prop}(e:P:=by
 have key:∀n i,i<=n->i<ops.size->b.getD i true=true:=by
  intro n
  induction n with
  |zero=>
   intro i hi DT;(obtain rfl:i=0:=by omega);cases hb:b.getD 0 true with
   |true=>rfl
   |false=>
    have:0∈AZ .any ops b:=mem_ready.2 ⟨hb,ops[0],by simp[DT],λe he _=>absurd ((Dj 0 ops[0] (by simp[DT])).1 e he) (by omega)⟩;rw[hr]at this;cases this
  |succ n ih=>
   intro i hi DT;cases hb:b.getD i true with
   |true=>rfl
   |false=>
    have:i∈AZ .any ops b:=mem_ready.2 ⟨hb,ops[i],by simp[DT],λe he _=>by have h1:=(Dj i ops[i] (by simp[DT])).1 e he;have h2:=ih e.on (by omega) (by omega);(have h3:e.on<b.size:=by rw[hD.sz];omega);simp only[Bb,h3,dif_pos]at h2 ⊢;exact h2⟩;rw[hr]at this;cases this
 have:=key k k (A5 _) hk;rw[hD.up k (A5 _) hk]at this;cases this):P:=e
theorem Yaz{P:Prop}(e:P:=by obtain⟨h1,o,h2,_⟩:=mem_ready.1 (show i∈AZ .any ops b by rw[hr];simp);have OI:i∈(Hq ops.size).filter λj=>!b.getD j true:=N2.2 ⟨Be.2 (Ao.1 h2).1,by simp[h1]⟩;have:=KO OI;unfold LN at hf;omega):P:=e
theorem YaA{P:Prop}(e:P:=by have:=k3 j o v' (by simpa using hj) (by simpa using hv) E' (by simpa[JK]using ha) K' hK;rwa [show i+1+j=i+(j+1) by omega]at this):P:=e
end Go.Av
namespace Go.Av
open Go.RowKit (Below)
open Go.Proofs Go.Shelf
variable {cap xs ys es:List AV}{vs:List Value}{f k n id:Nat}{v':Value}{Kn:KK}{r:Option Nat}{t:TypeId}{sp:List Nat}
theorem wM{C:Af}{w W:World}(AA:∀b o,C b o->b<w.heap.size)(hb:Below w.heap.size w W):Ext C C w W:=
 Ext.of_block (λ_ _ h=>h) λb o hc=>hb.block b (AA b o hc)
theorem QM{P:Program}{g:Nat}{p:Nat->Bool}(h:∀x:Nat,x<=1114111->Au P g (.int .i32 x::cap) (λr=>r=.bool (p x)))
  {C:Af} {w:World}  (AA:gE C w) (hr:Ac C w cap Mu.none vs):PredGrows P g vs.toArray p w:=by
 intro W x hx hb;have Oe:Ext C C w W:=wM AA.lt hb;have Kv:=Ac.mono Oe cap (AU.refl Mu.none) hr;have Dj:Ac C W (.int .i32 x::cap) Mu.none (encR x::vs):=by unfold Ac;refine⟨encR x,vs,rfl,?_,Kv⟩;unfold Aj;refine⟨rfl,?_⟩;unfold IU Nz NB;simp[LM,K0];omega
 have hc:=(h x hx).out C W (encR x::vs) (AA.mono Oe λb o hc=>LQ (AA.lt b o hc) hb.size) Dj;have e:(encR x::vs).toArray=#[encR x]++vs.toArray:=by simp
 rw[e]at hc;refine hc.mono λe w' ⟨r,v,h1,h2,h3,h4⟩=>?_;subst h2;unfold Aj at h4;exact⟨by rw[h1,h4],h3⟩
theorem Ro{P:Program}{ρ:Ren}(L:LaysGw.n17 P ρ){g:Nat}(hf:ρ.f 17=f)(hg:Cp P f=true)(eg:∀args w,(callFunc g args).run P w=.ok (.enter g args) w)
  {p:Nat->Bool}  (h:∀x:Nat,x<=1114111->Au P g (.int .i32 x::cap) (λr=>r=.bool (p x))) (s:List UInt8):
  Au P f [.str s,.fn g cap] (λr=>r=.bool (decide (0<=Lib.idxFunc p true ⟨s.toArray⟩))):=by
 refine⟨hg,λC w vs AA hr=>?_⟩;unfold Ac at hr;obtain⟨v1,_,rfl,h1,hr⟩:=hr;unfold Ac at hr;obtain⟨v2,_,rfl,h2,hr⟩:=hr;unfold Ac at hr;subst hr;unfold Aj at h1 h2;obtain⟨rfl,_⟩:=h1;obtain⟨us,rfl,hu⟩:=h2;subst hf;refine(Any.strings_ContainsFunc_grows L g us.toArray eg p ⟨s.toArray⟩ w (QM h AA hu)).mono λe w' ⟨h3,h4⟩=>?_;exact⟨_,_,h3,rfl,h4,by unfold Aj;rfl⟩
theorem WA{C:Af}{w:World}:∀{l:List (List UInt8)} {b o:Nat},Rows C w 1 (l.map AV.str) b o->
  ∀(j:Nat) x,(l.map λs=>(⟨s.toArray⟩:ByteArray))[j]?=some x->C b (o+j)/\w.cell? ⟨b,o+j,none⟩=some (.string x)
 |[],_,_,_,j,x,hj=>by simp at hj
 |s::l,b,o,h,j,x,hj=>by
  simp only[Bc]at h hj;unfold Rows at h;obtain⟨_,⟨v,_,hc,hv⟩,hr⟩:=h;cases j with
  |zero=>
   unfold Aj at hv;obtain⟨rfl,_⟩:=hv;simp at hj;subst hj;exact hc
  |succ j=>
   have:=WA hr j x (by simpa using hj);rw[show o+(j+1)=o+1+j by omega];exact this
theorem cW{P:Program}{ρ:Ren}(L:Lays.n156 P ρ)(X:Builder.Extra P ρ)(hf:ρ.f 156=f)(hg:Cp P f=true)(l:List (List UInt8))(sep:List UInt8)
  (hN:l.length<=140737488355328) (hlen:(Lib.join l sep).length<=140737488355328):
  Au P f [.sl 1 (l.map AV.str),.str sep] (λr=>r=.str (Lib.join l sep)):=by
 refine⟨hg,λC w vs AA hr=>?_⟩;unfold Ac at hr;obtain⟨v1,_,rfl,h1,hr⟩:=hr;unfold Ac at hr;obtain⟨v2,_,rfl,h2,hr⟩:=hr;unfold Ac at hr;subst hr;unfold Aj at h1 h2;obtain⟨rfl,_⟩:=h2;subst hf;have e0:(l.map λs=>(⟨s.toArray⟩:ByteArray)).map (·.data.toList)=l:=by rw[List.map_map];simp[Function.comp_def]
 have Zfm:∀a c,l=[]->Calls P (ρ.f 156) [Value.slice a 0 c,Value.string ⟨sep.toArray⟩].toArray w λe w'=>∃r v,e=.returned v/\r=AV.str (Lib.join l sep)/\Below w.heap.size w w'/\Aj (Mz C w.heap.size w'.heap.size) w' r Mu.none v:=λa c hl=>by refine(Any.strings_Join_none L X a c ⟨sep.toArray⟩ w).mono λe w' ⟨h3,h4⟩=>?_;subst h4;subst hl;exact⟨_,_,h3,rfl,Below.refl _ _,by unfold Aj;exact⟨rfl,by simp[Lib.join]⟩⟩
 rcases h1 with⟨⟨a,rfl⟩,he⟩|⟨b,o,cap,rfl,Kv,_,ZjY⟩;exact Zfm a 0 (by simpa using he);by_cases hl:l=[];subst hl;exact Zfm _ _ rfl;have hc:=WA ZjY
 have hb:b<w.heap.size:=by
  cases l with
  |nil=>exact absurd rfl hl
  |cons s l=>exact AA.lt b _ (hc 0 _ rfl).1
 have hj:=Any.strings_Join L X b o cap (l.map λs=>(⟨s.toArray⟩:ByteArray)) ⟨sep.toArray⟩ w (λj x h=>(hc j x h).2) hb (by simpa using hN) (by simpa using Kv) (by rw[e0];exact hlen);rw[e0]at hj;have e1:(l.map λs=>(⟨s.toArray⟩:ByteArray)).length=(l.map AV.str).length:=by simp
 rw[e1]at hj;refine hj.mono λe w' ⟨h3,h4⟩=>?_;exact⟨_,_,h3,rfl,h4,by unfold Aj;exact⟨rfl,by omega⟩⟩
section
variable {G:Cx}{C:Af}{w w':World}{mu:Mu}{H:List HO}{E:List AV}{a:Act}{T:List TY}{P:Program}{ops:Array Oper}{n0 i j:Nat}{o oi oj:Oper}{we pu:List Nat}{K:KK}{X:XX}
theorem Tg(E:List AV)(d:Option Tmp)(v:AV):(B8 E d v).length=E.length:=by cases d<;>simp[B8]
end
open Go.Shelf Go.RowKit Go.Proofs
section
variable {T e:TypeId}{b:Nat}{p v:Value}{bs:List UInt8}{w w':World}
theorem Gv.cell0(h:Gv T e b p v bs w):w.cell? ⟨b,0,none⟩=some p:=by simp[EV,h.2.1]
theorem Gv.ZfQ(h:Gv T e b p v bs w):w.cell? ⟨b,1,none⟩=some v:=by simp[EV,h.2.1]
theorem Gv.shape(h:Gv T e b p v bs w):w.shape? b=some (T,2):=by simp[PU,h.2.1]
theorem Gv.fr(h:Gv T e b p v bs w)(j:Nat):w.frozen? ⟨b,j,none⟩=false:=by simp[L0,h.2.1]
theorem J3(w:World)(b j:Nat)(x:Value)(hk:k≠b):(w.setCell ⟨b,j,none⟩ x).heap[k]?=w.heap[k]?:=by
 simp only[CL,Cc];rw[if_neg (Ne.symm hk)]
theorem Gv.marked(h:Gv T e b p v bs w):Gv T e b (H9 b) v bs (w.setCell ⟨b,0,none⟩ (H9 b)):=by
 obtain⟨_,h2,h3,h4⟩:=h;refine⟨.inr rfl,by simp[CL,Cc,h2],⟨h3.1,h3.2.imp id λ⟨g,cap,cur,q1,q2,q3,q4⟩=>⟨g,cap,cur,q1,q2,?_,q4⟩⟩,h4⟩;rw[J3 _ _ _ _ (λhg=>h4.1 (by rw[q1,<-hg];rfl))];exact q3
theorem yS{bs':List UInt8}(hb:w.heap[b]?=some (.cells #[H9 b,v] T (0,0)))(Ce:w.ownsRow 0 e 1 v' bs'.length (Lib.byteCells bs'))(hTe:T≠e)(hem:bs'=[]->v'=.slice none 0 0):
  Gv T e b (H9 b) v' bs' (w.setCell ⟨b,1,none⟩ v'):=by
 have h4:=Lib.ownBlock_ne Ce hb hTe;refine⟨.inr rfl,by simp[CL,Cc,hb],⟨Ce.1,Ce.2.imp id λ⟨g,cap,cur,q1,q2,q3,q4⟩=>⟨g,cap,cur,q1,q2,?_,q4⟩⟩,h4,hem⟩;rw[J3 _ _ _ _ (λhg=>h4 (by rw[q1,<-hg];rfl))];exact q3
end
section
variable {P:Program}{w w':World}
theorem nI(t u ty e:TypeId)(i:TypeInfo)(ht:P.underlying t=some (.slice e))(hu:P.underlying u=some .string)(hi:P.info? e=some i)(hz:i.zero=some (.int .u8 0))(G8:i.size=1)(Sa:i.bytes=1)
  {v:Value}  {xs:List Value} (Ce:w.ownsRow 0 e 1 v n xs) (s:ByteArray) (h63:n+s.size<=maxLen) (IW:n+s.size<=140737488355328)
  (hr:(NV #[t,u] ty #[v,.string s]).run P w=.ok v' w'):∀g,v'.ownBlock=some g->v.ownBlock=some g\/w.heap.size<=g:=by
 intro g hg;rcases Ce.2 with⟨rfl,rfl⟩|⟨g0,cap,cur,rfl,hbg,hg0,hnc,hcm,Y6,Zfw⟩;have hx:xs=[]:=G0 (by simpa using Ce.1);subst hx;obtain⟨v2,w2,k1,k2,_⟩:=Lib.run_append_own_string (P:=P) w w.heap.size t u ty e i ht hu hi hz G8 Sa _ 0 [] (L1 w _ e 1) s h63 IW (A5 _);rw[hr]at k1;cases k1;exact .inr (k2.lt g hg).1;have hxl:xs.length=n:=by simpa using Ce.1
 by_cases PV:n+s.size<=cap;have k:=Lib.run_append_room_string (P:=P) w t u ty e i ht hu hi G8 g0 n cap cur hg0 s PV (by omega);rw[hr]at k;cases k;exact .inl hg;have k:=Lib.run_append_grow_string (P:=P) w t u ty e i (.int .u8 0) ht hu hi hz ⟨g0,0,none⟩ n cap xs (by rw[G8];simpa using hxl) (Ce.cells (g:=g0) rfl) s (by omega) (by simp only[maxLen]at h63;omega) (by rw[Sa];exact growslice_fits (by omega) (by omega));rw[hr]at k;cases k;simp only[N4,A4.injEq]at hg;exact .inr (by omega)
theorem nJ(t ty e:TypeId)(i:TypeInfo)(ht:P.underlying t=some (.slice e))(hi:P.info? e=some i)(hz:i.zero=some (.int .u8 0))(G8:i.size=1)(Sa:i.bytes=1)
  {v:Value}  {xs:List Value} (Ce:w.ownsRow 0 e 1 v n xs) (a:Addr) (c:Nat) (x:Value) (hx0:w.cell? a=some x) (Xj:x.oneCell'=true) (h63:n+1<=maxLen) (IW:n+1<=140737488355328)
  (hr:(NV #[t,t] ty #[v,.slice (some a) 1 c]).run P w=.ok v' w'):∀g,v'.ownBlock=some g->v.ownBlock=some g\/w.heap.size<=g:=by
 intro g hg
 have dK:∀j u,[x][j]?=some u->w.cell? (a.add j)=some u:=λj u hj=>by
  cases j with
  |zero=>simp at hj;subst hj;simpa[Addr.add]using hx0
  |succ j=>simp at hj
 have Y0:∀u∈[x],u.oneCell'=true:=λu hu=>by simp at hu;subst hu;exact Xj
 rcases Ce.2 with⟨rfl,rfl⟩|⟨g0,cap,cur,rfl,hbg,hg0,hnc,hcm,Y6,Zfw⟩;have hx:xs=[]:=G0 (by simpa using Ce.1);subst hx;obtain⟨v2,w2,k1,k2,_⟩:=run_append_own (P:=P) w w.heap.size t ty e i (.int .u8 0) 1 1 ht hi hz G8 Sa rfl (by decide) _ 0 [] (L1 w _ e 1) a 1 c [x] rfl dK Y0 h63 (by omega) (A5 _);rw[hr]at k1;cases k1;exact .inr (k2.lt g hg).1;have hxl:xs.length=n:=by simpa using Ce.1
 by_cases PV:n+1<=cap;have k:=run_append_room (P:=P) w t ty e i ht hi g0 n cap cur hg0 a 1 c [x] (by rw[G8];rfl) dK Y0 PV (by rw[G8];simp;omega);rw[hr]at k;cases k;exact .inl hg;have k:=run_append_grow (P:=P) w t ty e i (.int .u8 0) ht hi hz ⟨g0,0,none⟩ n cap xs (by rw[G8];simpa using hxl) (Ce.cells (g:=g0) rfl) a 1 c [x] (by rw[G8];rfl) dK (by omega) (by simp only[maxLen]at h63;omega) (by rw[Sa];exact growslice_fits (by omega) (by omega));rw[hr]at k;cases k;simp only[N4,A4.injEq]at hg;exact .inr (by omega)
theorem ZS{ops:Array Oper}{rest:List Oper}{o:Oper}{a:Act}{Q:Exit->Act->World->Prop}(lA:o.guard=none)(s x:Operand)(t:TypeId)
  (ho:o.op=.call {callee:=.builtin .append,args:=#[s,x],argTypes:=#[t,t]}) (e:TypeId) (i:TypeInfo) (ht:P.underlying t=some (.slice e)) (hi:P.info? e=some i) (hz:i.zero=some (.int .u8 0)) (G8:i.size=1) (Sa:i.bytes=1)
  (v:Value) (n:Nat) (xs:List Value) (hs:a.eval s=v) (Ce:w.ownsRow 0 e 1 v n xs) (ad:Addr) (c:Nat) (x0:Value) (hx:a.eval x=.slice (some ad) 1 c) (hx0:w.cell? ad=some x0) (Xj:x0.oneCell'=true)
  (h63:n+1<=maxLen) (IW:n+1<=140737488355328)
  (h:∀v' w',w'.ownsRow 0 e 1 v' (n+1) (xs++[x0])->w.grownBy w' v.ownBlock->(∀g,v'.ownBlock=some g->v.ownBlock=some g\/w.heap.size<=g)->wpList P ops Q rest (a.put o.dst v') w'):wpList P ops Q (o::rest) a w:=by
 refine wpList_plain lA λK hK=>?_
 obtain⟨v',w',hr,PW,IV,_⟩:=run_append_own (P:=P) w 0 t o.type e i (.int .u8 0) 1 1 ht hi hz G8 Sa rfl (by decide) v n xs Ce ad 1 c [x0] rfl (λj u hj=>by
   cases j with
   |zero=>simp at hj;subst hj;simpa[Addr.add]using hx0
   |succ j=>simp at hj) (λu hu=>by simp at hu;subst hu;exact Xj) h63 (by omega) (Hs _)
 have Jg:=nJ t o.type e i ht hi hz G8 Sa Ce ad c x0 hx0 Xj h63 IW hr;unfold Pg execOp;simp only[ho,resolve,invoke,builtin,M0,M1,Ix,M4,Bc,List.map_nil,hs,hx,hr];exact hK _ _ (h v' w' PW IV Jg)
theorem ZR{ops:Array Oper}{rest:List Oper}{o:Oper}{a:Act}{Q:Exit->Act->World->Prop}(lA:o.guard=none)(sl x:Operand)(t u:TypeId)
  (ho:o.op=.call {callee:=.builtin .append,args:=#[sl,x],argTypes:=#[t,u]}) (e:TypeId) (i:TypeInfo) (ht:P.underlying t=some (.slice e)) (hu:P.underlying u=some .string) (hi:P.info? e=some i) (hz:i.zero=some (.int .u8 0)) (G8:i.size=1) (Sa:i.bytes=1)
  (v:Value) (n:Nat) (xs:List Value) (hs:a.eval sl=v) (Ce:w.ownsRow 0 e 1 v n xs) (s:ByteArray) (hx:a.eval x=.string s) (h63:n+s.size<=maxLen) (IW:n+s.size<=140737488355328)
  (h:∀v' w',w'.ownsRow 0 e 1 v' (n+s.size) (xs++Lib.strCells s)->w.grownBy w' v.ownBlock->(∀g,v'.ownBlock=some g->v.ownBlock=some g\/w.heap.size<=g)->(v=.slice none 0 0->s.size=0->v'=.slice none 0 0)->wpList P ops Q rest (a.put o.dst v') w'):wpList P ops Q (o::rest) a w:=by
 refine wpList_plain lA λK hK=>?_;obtain⟨v',w',hr,PW,IV,ZbA⟩:=Lib.run_append_own_string (P:=P) w 0 t u o.type e i ht hu hi hz G8 Sa v n xs Ce s h63 IW (Hs _);have Jg:=nI t u o.type e i ht hu hi hz G8 Sa Ce s h63 IW hr;unfold Pg execOp;simp only[ho,resolve,invoke,builtin,M0,M1,Ix,M4,Bc,List.map_nil,hs,hx,hr];exact hK _ _ (h v' w' PW IV Jg λk1 k2=>ZbA.2 ⟨k1,k2⟩)
end
section
variable {P:Program}{ρ:Ren}{T:TypeId}{b:Nat}{p v:Value}{bs:List UInt8}{w:World}
set_option maxHeartbeats 1000000 in
theorem yT(L:Lays.n240 P ρ)(X:Builder.X72 P ρ)(MM:liesAt P P.depth T (2/P.cellsOf T) 0 (ρ.t 72) 1=true)(h0:w.cell? ⟨b,0,none⟩=some (.pointer none))(hsh:w.shape? b=some (T,2))(Qn:w.frozen? ⟨b,0,none⟩=false):
  Calls P (ρ.f 240) #[H9 b] w λen w'=>en=.returned (.tuple #[])/\w'=w.setCell ⟨b,0,none⟩ (H9 b):=by
 unfold H9;obtain⟨j,hj,hjs⟩:=Option.map_eq_some_iff.1 X.sizeBuilder;have hto:=Lib.run_to_unsafe (P:=P) w ⟨b,0,none⟩ L.t70 L.t164 hj (by rw[hjs];decide) hsh (Nat.zero_lt_succ 1);have Zo7:=Lib.run_from_unsafe (P:=P) w ⟨b,0,none⟩ L.t164 L.t70 hj hsh MM;have mixed:=L.mixed;have t72:=L.t72;have a72:=L.a72;have z72:=L.z72;have v72:=L.v72;have u72:=run_underlying L.t72;have t70:=L.t70;have a70:=L.a70;have z70:=L.z70;have v70:=L.v70;have u70:=run_underlying L.t70;have t9:=L.t9;have a9:=L.a9;have z9:=L.z9;have v9:=L.v9;have u9:=run_underlying L.t9;have t4:=L.t4;have a4:=L.a4;have z4:=L.z4;have v4:=L.v4;have u4:=run_underlying L.t4;have t164:=L.t164;have a164:=L.a164;have z164:=L.z164;have v164:=L.v164;have Zjn:=run_underlying L.t164
 go_enter L.f240,Body.n240_ntmps ρ
 go_wp2
 rw[run_callFunc_extern L.f276 (by kernel_rfl) (by kernel_rfl) (by kernel_rfl) (e:=Extern.AbiNoEscape.same) (by kernel_rfl),Lib.run_noEscape];simp only[Of];rw[Oper.upon_value]
 go_wp2
 go_end0
 exact⟨rfl,rfl⟩
theorem ZP{e:TypeId}(L:Lays.n240 P ρ)(X:Builder.X72 P ρ)(MM:liesAt P P.depth T (2/P.cellsOf T) 0 (ρ.t 72) 1=true)(h:Gv T e b p v bs w):
  Calls P (ρ.f 240) #[H9 b] w λen w'=>en=.returned (.tuple #[])/\Gv T e b (H9 b) v bs w'/\GV (λk=>k<w.heap.size/\k≠b) w w'/\w'.heap.size<=w.heap.size:=by
 rcases h.1 with hp|hp;refine(yT L X MM (by rw[h.cell0,hp]) h.shape (h.fr 0)).mono ?_;rintro en w' ⟨rfl,rfl⟩;exact⟨rfl,h.marked,⟨rfl,rfl,rfl,by simp[CL],λk hk=>J3 _ _ _ _ hk.2⟩,by simp[CL]⟩;refine(Any.Builder_copyCheck_used L X b w (by rw[h.cell0,hp])).mono ?_;rintro en w' ⟨rfl,rfl⟩;exact⟨rfl,⟨.inr rfl,by have:=h.2.1;rw[hp]at this;exact this,h.2.2⟩,⟨rfl,rfl,rfl,A5 _,λ_ _=>rfl⟩,A5 _⟩
set_option maxHeartbeats 2000000 in
theorem Zdb(L:Lays.n167 P ρ)(X:Builder.Extra P ρ)(MM:liesAt P P.depth T (2/P.cellsOf T) 0 (ρ.t 72) 1=true)(hTe:T≠ρ.t 5)(c:UInt8)(h:Gv T (ρ.t 5) b p v bs w)(hlen:bs.length+1<=140737488355328):
  Calls P (ρ.f 167) #[H9 b,.int .u8 c.toNat] w λen w'=>∃r p' v',en=.returned r/\Gv T (ρ.t 5) b p' v' (bs++[c]) w'/\GV (λk=>k<w.heap.size/\k≠b/\v.ownBlock≠some k) w w'/\∀g,v'.ownBlock=some g->v.ownBlock=some g\/w.heap.size<=g:=by
 have ZbO:=ZP (w:=w) {L with} X.toX72 MM h;unfold H9 at ZbO⊢;obtain⟨i0,hi,hz0,UG,NS⟩:=info_parts X.infoByte;have mixed:=L.mixed;have t72:=L.t72;have a72:=L.a72;have z72:=L.z72;have v72:=L.v72;have u72:=run_underlying L.t72;have t70:=L.t70;have a70:=L.a70;have z70:=L.z70;have v70:=L.v70;have u70:=run_underlying L.t70;have t5:=L.t5;have a5:=L.a5;have z5:=L.z5;have v5:=L.v5;have u5:=run_underlying L.t5;have t37:=L.t37;have a37:=L.a37;have z37:=L.z37;have v37:=L.v37;have u37:=run_underlying L.t37;have t9:=L.t9;have a9:=L.a9;have z9:=L.z9;have v9:=L.v9;have u9:=run_underlying L.t9;have t4:=L.t4;have a4:=L.a4;have z4:=L.z4;have v4:=L.v4;have u4:=run_underlying L.t4;have t164:=L.t164;have a164:=L.a164;have z164:=L.z164;have v164:=L.v164;have Zjn:=run_underlying L.t164;have Zof:∀args w,(callFunc (ρ.f 240) args).run P w=.ok (.enter (ρ.f 240) args) w:=enters_of L.f240 (by kernel_rfl) rfl
 go_enter L.f167,Body.n167_ntmps ρ
 go_wp2_with (go_at_fn (ρ.f 240);refine ZbO.mono ?_)
 rintro en w1 ⟨rfl,hA,hS,DT⟩;have c0:=hA.cell0;have c1:=hA.ZfQ;have Zhq:=hA.lt;have ET:=hS.size;obtain⟨_,hbk,Ce,BK,Zet⟩:=hA;have IW:bs.length+1<=maxLen:=by unfold maxLen;omega
 go_wp2_with (at_builtin;refine ZS rfl _ _ (ρ.t 37) rfl (ρ.t 5) i0 L.t37 hi hz0 UG NS _ _ _ rfl (Ce.alloc _) ⟨w1.heap.size,0,none⟩ 1 (.int .u8 c.toNat) rfl (by simp) rfl IW hlen ?_)
 intro v' w2 PW IV Jg;have hold:∀k,k<w1.heap.size->v.ownBlock≠some k->w2.heap[k]?=w1.heap[k]?:=λk hk hn=>by rw[IV.block k (by simp;omega) (λh=>hn h.symm)];exact heap_alloc_old w1 _ hk
 have OJ:w2.heap[b]?=some (.cells #[H9 b,v] T (0,0)):=by rw[hold b Zhq.1 BK];exact hbk
 have d0:w2.cell? ⟨b,0,none⟩=some (.pointer (some ⟨b,0,none⟩)):=by simp[EV,OJ,H9]
 have d1:w2.cell? ⟨b,1,none⟩=some v:=by simp[EV,OJ]
 have f1:w2.frozen? ⟨b,1,none⟩=false:=by simp[L0,OJ]
 have hw2:w1.heap.size<w2.heap.size:=by have:=IV.size;simp at this;omega
 have kX:w2.os=w1.os/\w2.tape=w1.tape/\w2.output=w1.output:=⟨IV.os,IV.tape,IV.output⟩;obtain⟨g,cap,rfl⟩:∃g cap,v'=.slice (some ⟨g,0,none⟩) (bs.length+1) cap:=by rcases PW.2 with⟨_,h0⟩|⟨g,cap,cur,hv,_⟩;omega;exact⟨g,cap,hv⟩
 go_wp2
 go_ret
 refine⟨_,_,_,rfl,yS (bs':=bs++[c]) OJ (by simpa[Lib.byteCells]using PW) hTe (by simp),⟨?_,?_,?_,?_,λk hk=>?_⟩,λg hg=>(Jg g hg).imp id λZnz=>by omega⟩;exact kX.1.trans hS.os;exact kX.2.1.trans hS.tape;exact kX.2.2.trans hS.output;simp[CL];omega;rw[J3 _ _ _ _ hk.2.1,hold k (by omega) hk.2.2];exact hS.block k ⟨hk.1,hk.2.1⟩
set_option maxHeartbeats 2000000 in
theorem Zc8(L:Lays.n166 P ρ)(X:Builder.Extra P ρ)(MM:liesAt P P.depth T (2/P.cellsOf T) 0 (ρ.t 72) 1=true)(hTe:T≠ρ.t 5)(s:List UInt8)(h:Gv T (ρ.t 5) b p v bs w)(hlen:bs.length+s.length<=140737488355328):
  Calls P (ρ.f 166) #[H9 b,.string ⟨s.toArray⟩] w λen w'=>∃r p' v',en=.returned r/\Gv T (ρ.t 5) b p' v' (bs++s) w'/\GV (λk=>k<w.heap.size/\k≠b/\v.ownBlock≠some k) w w'/\∀g,v'.ownBlock=some g->v.ownBlock=some g\/w.heap.size<=g:=by
 have ZbO:=ZP (w:=w) {L with} X.toX72 MM h;unfold H9 at ZbO⊢;obtain⟨i0,hi,hz0,UG,NS⟩:=info_parts X.infoByte;have mixed:=L.mixed;have t72:=L.t72;have a72:=L.a72;have z72:=L.z72;have v72:=L.v72;have u72:=run_underlying L.t72;have t70:=L.t70;have a70:=L.a70;have z70:=L.z70;have v70:=L.v70;have u70:=run_underlying L.t70;have t37:=L.t37;have a37:=L.a37;have z37:=L.z37;have v37:=L.v37;have u37:=run_underlying L.t37;have t3:=L.t3;have a3:=L.a3;have z3:=L.z3;have v3:=L.v3;have u3:=run_underlying L.t3;have t9:=L.t9;have a9:=L.a9;have z9:=L.z9;have v9:=L.v9;have u9:=run_underlying L.t9;have t4:=L.t4;have a4:=L.a4;have z4:=L.z4;have v4:=L.v4;have u4:=run_underlying L.t4;have t164:=L.t164;have a164:=L.a164;have z164:=L.z164;have v164:=L.v164;have Zjn:=run_underlying L.t164;have t5:=X.t5;have a5:=X.a5;have z5:=X.z5;have v5:=X.v5;have u5:=run_underlying X.t5;have Zof:∀args w,(callFunc (ρ.f 240) args).run P w=.ok (.enter (ρ.f 240) args) w:=enters_of L.f240 (by kernel_rfl) rfl
 go_enter L.f166,Body.n166_ntmps ρ
 go_wp2_with (go_at_fn (ρ.f 240);refine ZbO.mono ?_)
 rintro en w1 ⟨rfl,hA,hS,DT⟩;have c0:=hA.cell0;have c1:=hA.ZfQ;have Zhq:=hA.lt;have ET:=hS.size;obtain⟨_,hbk,Ce,BK,Zet⟩:=hA;have hss:(ByteArray.mk s.toArray).size=s.length:=by simp[ByteArray.size]
 have IW:bs.length+(ByteArray.mk s.toArray).size<=maxLen:=by rw[hss];unfold maxLen;omega
 go_wp2_with (at_builtin;refine ZR rfl _ _ (ρ.t 37) (ρ.t 9) rfl (ρ.t 5) i0 L.t37 L.t9 hi hz0 UG NS _ _ _ rfl Ce ⟨s.toArray⟩ rfl IW (by rw[hss];exact hlen) ?_)
 intro v' w2 PW IV Jg ZbA;have hold:∀k,k<w1.heap.size->v.ownBlock≠some k->w2.heap[k]?=w1.heap[k]?:=λk hk hn=>IV.block k hk λh=>hn h.symm;have OJ:w2.heap[b]?=some (.cells #[H9 b,v] T (0,0)):=by rw[hold b Zhq.1 BK];exact hbk
 have d0:w2.cell? ⟨b,0,none⟩=some (.pointer (some ⟨b,0,none⟩)):=by simp[EV,OJ,H9]
 have d1:w2.cell? ⟨b,1,none⟩=some v:=by simp[EV,OJ]
 have f1:w2.frozen? ⟨b,1,none⟩=false:=by simp[L0,OJ]
 have hw2:w1.heap.size<=w2.heap.size:=IV.size;have kX:w2.os=w1.os/\w2.tape=w1.tape/\w2.output=w1.output:=⟨IV.os,IV.tape,IV.output⟩;obtain⟨ao,n',cap,rfl⟩:∃ao n' cap,v'=.slice ao n' cap:=by rcases PW.2 with⟨hv,_⟩|⟨g,cap,cur,hv,_⟩;exact⟨_,_,_,hv⟩;exact⟨_,_,_,hv⟩
 go_wp2
 go_ret2
 refine⟨_,_,_,rfl,yS (bs':=bs++s) OJ (by simpa[Lib.byteCells,Lib.strCells]using PW) hTe (λh0=>ZbA (Zet (by simp at h0;exact h0.1)) (by simp at h0;simp[h0.2])),⟨?_,?_,?_,?_,λk hk=>?_⟩,λg hg=>(Jg g hg).imp id λZnz=>by omega⟩;exact kX.1.trans hS.os;exact kX.2.1.trans hS.tape;exact kX.2.2.trans hS.output;simp[CL];omega;rw[J3 _ _ _ _ hk.2.1,hold k (by omega) hk.2.2];exact hS.block k ⟨hk.1,hk.2.1⟩
set_option maxHeartbeats 1000000 in
theorem Zc9(L:Lays.n169 P ρ)(X:Builder.Extra P ρ)(h0:bs≠[])(h:Gv T (ρ.t 5) b p v bs w):
  Calls P (ρ.f 169) #[H9 b] w λen w'=>en=.returned (.string ⟨bs.toArray⟩)/\GV (λk=>k<w.heap.size/\k≠b/\v.ownBlock≠some k) w w':=by
 unfold H9;have hl0:bs.length≠0:=by simpa using h0
 obtain⟨g,cap,cur,hv,_,hg,hnc,hcm,Y6,Zfw⟩:∃g cap cur,v=.slice (some ⟨g,0,none⟩) bs.length cap/\0<=g/\w.heap[g]?=some (.cells cur (ρ.t 5) (0,0))/\bs.length<=cap/\cap<=maxLen/\cur.size=cap*1/\cur.toList.take (bs.length*1)=Lib.byteCells bs:=by rcases h.2.2.1.2 with⟨_,hz⟩|r;exact absurd hz hl0;exact r
 subst hv;have hd:w.drew.heap=w.heap:=rfl;have c1:w.drew.cell? ⟨b,1,none⟩=some (.slice (some ⟨g,0,none⟩) bs.length cap):=by simp[EV,hd,h.2.1]
 have hSD:(Jb #[(ρ.t 37)] (ρ.t 127) #[.slice (some ⟨g,0,none⟩) bs.length cap]).run P w.drew=.ok (.pointer (some ⟨g,0,none⟩)) w.drew:=
  Lib.run_unsafeSliceData_row _ _ _ _ _ _ (by omega)
 have hUS:(Builtin.unsafeString_ #[(ρ.t 127),(ρ.t 3)] (ρ.t 9) #[.pointer (some ⟨g,0,none⟩),.int .i64 bs.length]).run P w.drew=.ok (.string ⟨bs.toArray⟩) (w.drew.freeze ⟨g,0,none⟩ bs.length):=by refine Lib.run_unsafeString_row w.drew (ρ.t 127) (ρ.t 3) (ρ.t 9) (ρ.t 5) L.t127 X.cellsByte g cur.size (by simp[PU,hd,hg]) bs h0 (by omega) (by unfold maxLen at hcm;omega) ?_;intro j x hx;exact h.2.2.1.cells (g:=g) rfl j (.int .u8 x.toNat) (by simp[Lib.byteCells,hx])
 have Qn:GV (λk=>k<w.heap.size/\k≠b/\(Value.slice (some ⟨g,0,none⟩) bs.length cap).ownBlock≠some k) w (w.drew.freeze ⟨g,0,none⟩ bs.length):=by unfold World.freeze;split;exact⟨rfl,rfl,rfl,A5 _,λ_ _=>rfl⟩;refine⟨rfl,rfl,rfl,by simp[hd],λk hk=>?_⟩;have hkg:g≠k:=λe=>hk.2.2 (by rw[e];rfl);simp only[Cc];rw[if_neg hkg,hd]
 have mixed:=L.mixed;have t72:=L.t72;have a72:=L.a72;have z72:=L.z72;have v72:=L.v72;have u72:=run_underlying L.t72;have t70:=L.t70;have a70:=L.a70;have z70:=L.z70;have v70:=L.v70;have u70:=run_underlying L.t70;have t37:=L.t37;have a37:=L.a37;have z37:=L.z37;have v37:=L.v37;have u37:=run_underlying L.t37;have t127:=L.t127;have a127:=L.a127;have z127:=L.z127;have v127:=L.v127;have Zmu:=run_underlying L.t127;have t3:=L.t3;have a3:=L.a3;have z3:=L.z3;have v3:=L.v3;have u3:=run_underlying L.t3;have t9:=L.t9;have a9:=L.a9;have z9:=L.z9;have v9:=L.v9;have u9:=run_underlying L.t9;have t5:=X.t5;have a5:=X.a5;have z5:=X.z5;have v5:=X.v5;have u5:=run_underlying X.t5
 go_enter L.f169,Body.n169_ntmps ρ
 go_wp2
 go_region_o
 all_goals (go_wp2;go_ret;exact⟨rfl,Qn⟩)
set_option maxHeartbeats 1000000 in
theorem Zda(L:Lays.n169 P ρ)(X:Builder.Extra P ρ)(h:Gv T (ρ.t 5) b p v [] w):
  Calls P (ρ.f 169) #[H9 b] w λen w'=>en=.returned (.string ⟨#[]⟩)/\GV (λk=>k<w.heap.size/\k≠b/\v.ownBlock≠some k) w w':=by
 unfold H9;have hv:=h.2.2.2.2 rfl;subst hv;have hd:w.drew.heap=w.heap:=rfl;have c1:w.drew.cell? ⟨b,1,none⟩=some (.slice none 0 0):=by simp[EV,hd,h.2.1]
 have hSD:(Jb #[(ρ.t 37)] (ρ.t 127) #[.slice none 0 0]).run P w.drew=.ok (.pointer none) w.drew:=Lib.run_unsafeSliceData_nil _ _ _ _ _;have hUS:=Any.unsafeString_none L X w.drew none;have mixed:=L.mixed;have t72:=L.t72;have a72:=L.a72;have z72:=L.z72;have v72:=L.v72;have u72:=run_underlying L.t72;have t70:=L.t70;have a70:=L.a70;have z70:=L.z70;have v70:=L.v70;have u70:=run_underlying L.t70;have t37:=L.t37;have a37:=L.a37;have z37:=L.z37;have v37:=L.v37;have u37:=run_underlying L.t37;have t127:=L.t127;have a127:=L.a127;have z127:=L.z127;have v127:=L.v127;have Zmu:=run_underlying L.t127;have t3:=L.t3;have a3:=L.a3;have z3:=L.z3;have v3:=L.v3;have u3:=run_underlying L.t3;have t9:=L.t9;have a9:=L.a9;have z9:=L.z9;have v9:=L.v9;have u9:=run_underlying L.t9;have t5:=X.t5;have a5:=X.a5;have z5:=X.z5;have v5:=X.v5;have u5:=run_underlying X.t5
 go_enter L.f169,Body.n169_ntmps ρ
 go_wp2
 go_region_o
 all_goals (go_wp2;go_ret;exact⟨rfl,⟨rfl,rfl,rfl,A5 _,λ_ _=>rfl⟩⟩)
theorem rM(L:Lays.n169 P ρ)(X:Builder.Extra P ρ)(h:Gv T (ρ.t 5) b p v bs w):
  Calls P (ρ.f 169) #[H9 b] w λen w'=>en=.returned (.string ⟨bs.toArray⟩)/\GV (λk=>k<w.heap.size/\k≠b/\v.ownBlock≠some k) w w':=by
 by_cases h0:bs=[];subst h0;exact Zda L X h;exact Zc9 L X h0 h
theorem FO.byte(hg:Cp P (ρ.f 167)=true)(L:Lays.n167 P ρ)(X:Builder.Extra P ρ)(MM:liesAt P P.depth T (2/P.cellsOf T) 0 (ρ.t 72) 1=true)(hTe:T≠ρ.t 5)(c:UInt8):FO P T (ρ.t 5) (ρ.f 167) [.int .u8 c.toNat] [c]:=
 FO.of_law hg λb bs p v C w us hr h hl=>by unfold Ac at hr;obtain⟨u,Tf,rfl,h1,h2⟩:=hr;unfold Ac at h2;subst h2;unfold Aj at h1;obtain⟨rfl,_⟩:=h1;exact Zdb L X MM hTe c h hl
theorem FO.text(hg:Cp P (ρ.f 166)=true)(L:Lays.n166 P ρ)(X:Builder.Extra P ρ)(MM:liesAt P P.depth T (2/P.cellsOf T) 0 (ρ.t 72) 1=true)(hTe:T≠ρ.t 5)(s:List UInt8):FO P T (ρ.t 5) (ρ.f 166) [.str s] s:=
 FO.of_law hg λb bs p v C w us hr h hl=>by unfold Ac at hr;obtain⟨u,Tf,rfl,h1,h2⟩:=hr;unfold Ac at h2;subst h2;unfold Aj at h1;obtain⟨rfl,_⟩:=h1;exact Zc8 L X MM hTe s h hl
theorem nO.of_string(hg:Cp P (ρ.f 169)=true)(L:Lays.n169 P ρ)(X:Builder.Extra P ρ):nO P T (ρ.t 5) (ρ.f 169):=⟨hg,λb bs p v w h hl=>rM L X h⟩
end
section
variable {G:Cx}{C:Af}{w w':World}{mu:Mu}{H:List HO}{E:List AV}{a:Act}{P:Program}{K:KK}{X:XX}
theorem Zan(h:Ac C w xs mu vs)(hl:ys.length=xs.length)(hi:∀i:Nat,ys[i]?=some .any\/ys[i]?=xs[i]?):Ac C w ys mu vs:=by
 obtain⟨h1,h2⟩:=(Bo _).1 h;refine(Bo _).2 ⟨by omega,λi gK ZE=>?_⟩;rcases hi i with e|e;rw[A2 gK]at e;rw[A4.inj e];unfold Aj;trivial;rw[A2 gK,A2 (by omega:i<xs.length)]at e;rw[A4.inj e];exact h2 i (by omega) ZE
end
section
variable {G:Cx}{C:Af}{w w':World}{mu:Mu}{H:List HO}{E:List AV}{a:Act}{T:List TY}{P:Program}{K:KK}{X:XX}
def hfK(E:List AV)(H:List HO)(o:Op)(K:AV->KK):Prop:=
 match o with
 |.binOp op t x y _=>(match op with
  |.shr=>(match BL E x with
   |.int k m=>(match BL E y with
    |.int k' n=>((k=.u64/\k'=.u64)/\n=1)/\K (.int .u64 (m/2)) E H
    |_=>False)
   |_=>False)
  |_=>False)
 |_=>False
theorem lB{o:Oper}{K:AV->KK}(h:hfK E H o.op K)(Ai:AJ G C mu E H a w){next:Act->World->Prop}(hn:∀a w,I9 G o K a w->next a w):
  o.wpIn (fw r) n G.P a w next (L6 G Kn X):=by
 unfold hfK at h;split at h;case h_2=>exact h.elim
 rename_i op t x y e1 ho;cases op<;>first|exact h.elim|skip
 have hx:=Bv Ai.env x;have hy:=Bv Ai.env y;simp only at h;split at h;case h_2=>exact h.elim
 rename_i k m hex;rw[hex]at hx;split at h;case h_2=>exact h.elim
 rename_i k' n' hey;rw[hey]at hy;obtain⟨⟨⟨rfl,rfl⟩,rfl⟩,hk⟩:=h;obtain⟨hx,hb⟩:=AG hx;obtain⟨hy,_⟩:=AG hy;have OJ:0<=m/\m<=18446744073709551615:=by unfold IU Nz NB at hb;simpa[K0,LM]using hb
 refine Dd (λc hc=>by rw[ho]at hc;cases hc) (A8 (X:=X) (Q:=Kn) (v:=.int .u64 (m/2)) hn hk ?_ Ai (CH ?_))
 ·have:m.fdiv (2^1)=m/2:=by rw[H0 _ (by decide)];rfl
  simp[execOp,ho,hx,hy,eqGuard,binOp,Op.shift,K0];exact H0 _ (by decide)
 unfold IU Nz NB;simp[K0,LM];omega
def WE(P:Program)(T:List TY)(ops:List Oper)(sp:List Nat):Nat->List Oper->List AV->List HO->KK->XX->Prop
 |_,[],E,H,K,_=>K E H
 |n,o::r,E,H,K,X=>gdK ops E o.guard
   (λE=>match ZdX n sp with
    |true=>hfK E H o.op (λv E' H'=>BV E' o.dst v λGp=>WE P T ops sp (n+1) r Gp H' K X)
    |false=>TX none P T E H o.op (λv E' H'=>BV E' o.dst v λGp=>WE P T ops sp (n+1) r Gp H' K X) X)
   (λE=>BV E o.dst (.raw undef) λE'=>WE P T ops sp (n+1) r E' H K X)
theorem Ld(hT:CY G.P T){r:Option Nat}{n:Nat}{ops:Array Oper}{sp:List Nat}{K:KK}{X:XX}:∀(l:List Oper)(k:Nat){C:Af}{mu:Mu}{E:List AV}{H:List HO}{a:Act}{w:World},WE G.P T ops.toList sp k l E H K X->AJ G C mu E H a w->wpListIn (fw r) n G.P ops (L6 G K X) l a w
 |[],k,_,_,_,_,_,_,h,Ai=>⟨_,_,h,_,_,Ai⟩
 |o::l,k,C,mu,E,H,a,w,h,Ai=>by
  unfold WE at h;unfold wpListIn;rcases GK rfl Ai h with⟨hw,E',h1,h2⟩|⟨hw,E',h1,h2⟩
  ·rw[if_pos hw];split at h1;·refine lB h1 h2 λa' w' hp=>?_;obtain⟨x,Gp,H',h3,C',mu',h4⟩:=hp;rw[AF]at h3;exact Ld hT l (k+1) h3 h4
   refine Ex hT h1 h2 λa' w' hp=>?_;obtain⟨x,Gp,H',h3,C',mu',h4⟩:=hp;rw[AF]at h3;exact Ld hT l (k+1) h3 h4
  rw[if_neg (by simp[hw])];rw[AF]at h1;exact⟨λ_ _=>trivial,Ld hT l (k+1) h1 (h2.frame (BF h2.env o.dst (by unfold Aj;rfl)) (put_defers _ _ _))⟩
theorem Aa.Zgo(sp:List Nat)(hT:CY P T){ops:Array Oper}(h:WE P T ops.toList sp 0 ops.toList E H K X):Aa P (.region id ops false) E H K X:=
 ⟨λn G a w hP Ai=>by
  obtain⟨C,mu,Ai⟩:=Ai
  subst hP
  exact Vy (wpIn_region_list (Ld hT _ 0 h Ai))⟩
end
section
variable {G:Cx}{C:Af}{w w':World}{mu:Mu}{H:List HO}{E:List AV}{a:Act}{P:Program}{K:KK}{X:XX}{T:List TY}
theorem wW(h:AJ G C mu E H a w){l1 b1 c:Nat}{GL:List AV}{ad:Addr}(Qm:H[l1]?=some (.cells GL))(hm1:mu l1=some (.D6 b1))
  (vL:Ac C w es mu vs) (FG:∀j v,vs[j]?=some v->w.cell? (ad.add j)=some v) (h12:∀v∈vs,v.oneCell'=true) (n1:GL.length=n) (n2:es.length=n) {ts el ty:TypeId} (Ib:G.P.underlying ts=some (.slice el)) (DT:(G.P.info? el).map (·.size)=some 1):
  ∃w',(Builtin.copy_ #[ts,ts] ty #[.slice (some ⟨b1,0,none⟩) n n,.slice (some ad) n c]).run G.P w=.ok (goInt n) w'/\AJ G C mu E (H.set l1 (.cells es)) a w':=by
 obtain⟨b',Zl,e1,UN,hb1,R6,h11⟩:=h.heap.Dp l1 GL Qm;rw[hm1]at UN;simp only[A4.injEq,GO.D6.injEq]at UN;subst UN;have k1:=AM _ R6;have k2:=AM _ vL
 have s1:Zl.size=n:=by have:Zl.size=Zl.toList.length:=by simp
                       omega
 have s2:vs.length=n:=by omega
 have dL:(Zl.toList.take 0++vs++Zl.toList.drop (0+vs.length)).toArray=vs.toArray:=by
  rw[List.drop_eq_nil_of_le (by have:Zl.toList.length=Zl.size:=by simp
                                omega)]
  simp
 have BQ:=run_copy_row (P:=G.P) w ts ts ty el b1 0 n n ad n c Zl e1 vs Ib DT hb1 (by rw[s2];simp) FG (by omega) h12;rw[dL,s2]at BQ
 have ML:mu.set l1 (some (.D6 b1))=mu:=by
  funext i;by_cases e:i=l1
  subst e;rw[Mu.AP,hm1];rw[Mu.AQ _ _ e]
 refine⟨_,BQ,?_⟩;have hx:=Hu (w:=w) (h.heap.fresh _ _ _ hm1 rfl).2.2 vs.toArray;have AA:l1<H.length:=(As.1 Qm).1
 have:=AJ.write (g:=.D6 b1) (g':=.D6 b1) h hm1 rfl (new:=vs.toArray) hb1 (.cells es) rfl (λ_ h=>h) (λ_ h=>h) (E':=E)
  (by rw[ML];exact Ac.mono hx _ (AU.refl _) h.env) (H.set l1 (.cells es)) (by simp)
  (λi hi=>by
   rw[Am (Ne.symm hi),ML]
   exact⟨λh=>h,λcs h=>⟨cs,h,λ_ h=>h⟩,λ_ _ _ h=>h,λcs _ _ h=>⟨cs,h,λ_ h=>h⟩,λ_ h=>h⟩)
  (by simp) (by simp[AA])
  (λcs' hc=>by
   simp only[HO.cells.injEq]at hc
   subst hc
   exact⟨rfl,by simpa using vL,by simpa using h12⟩)
  (by simp)
  (λi hi ks vs h=>by rw[Am (Ne.symm hi)]at h;exact h)
 rw[ML]at this;exact this
theorem XI:∀{es:List AV},(∀a∈es,a.cells=[a])->flat es=es
 |[],_=>rfl
 |x::xs,h=>by
  have e1:flat (x::xs)=x.cells++flat xs:=by simp[flat]
  rw[e1,h x (by simp),XI λa ha=>h a (by simp[ha])];rfl
theorem Aa.ZhR{ops:Array Oper}{s0 s1 s2 s3 y0 y1:Nat}{ts el tf tl:TypeId}{l1:Nat}{GL:List AV}{v1:AV}(o0 o1 o2 o3:Oper)(hT:CY P T)(hm:P.follows .mixedOrders=true)
  (g0:ops[0]?=some o0/\o0.op=.slice t (.tmp y0) none none none/\o0.dst=some s0/\o0.guard=none) (g1:ops[1]?=some o1/\o1.op=.fieldAddr tf (.tmp y1) f/\o1.dst=some s1/\o1.guard=none)
  (g2:ops[2]?=some o2/\o2.op=.load tl (.tmp s1)/\o2.dst=some s2/\o2.guard=none)
  (g3:ops[3]?=some o3/\o3.op=.call {callee:=.builtin .copy,args:=#[.tmp s0,.tmp s2],argTypes:=#[ts,ts]}/\o3.dst=some s3/\o3.guard=none)
  (hr:ops.size=4/\AZ .any ops #[false,false,false,false]=[0,1]/\AZ .any ops #[true,false,false,false]=[1]/\AZ .any ops #[false,true,false,false]=[0,2]/\AZ .any ops #[true,true,false,false]=[2]/\AZ .any ops #[false,true,true,false]=[0]/\AZ .any ops #[true,true,true,false]=[3]/\AZ .any ops #[true,true,true,true]=[])
  (yB:P.underlying t=some (.array n el)) (Ib:P.underlying ts=some (.slice el)) (DT:(P.info? el).map (·.size)=some 1)
  (hx0:BL E (.tmp y0)=.ptr l1 0) (k1:∀x,Es T tf (BL (E.set s0 x) (.tmp y1)) f (λr=>r=v1)) (k2:Oc T H tl v1 (λr=>r=.sl 1 es))
  (hd:y0≠s1/\y0≠s2/\s0≠s1/\s0≠s2/\s1≠s2) (AA:s0<E.length/\s1<E.length/\s2<E.length) (Qm:H[l1]?=some (.cells GL)) (n1:GL.length=n) (n2:es.length=n) (hn:0<n) (he:∀a∈es,a.cells=[a])
  (hk:K ((((E.set s0 .any).set s1 .any).set s2 .any).set s3 .any) (H.set l1 (.cells es))):Aa P (.region id ops true) E H K X:=
 ⟨λm G a w0 hP UH=>by
  obtain⟨C,mu,UH⟩:=UH
  subst hP
  have Ai:AJ G C mu E H a w0.drew:=UH.drew
  refine Vy (wpIn_region_any hm ?_)
  show wpAnyIn _ _ _ _ _ _ _ _ a w0.drew
  generalize w0.drew=w at Ai⊢
  obtain⟨i0,p0,d0,gu0⟩:=g0
  obtain⟨i1,p1,d1,gu1⟩:=g1
  obtain⟨i2,p2,d2,gu2⟩:=g2
  obtain⟨i3,p3,d3,gu3⟩:=g3
  obtain⟨G8,r0,r1,r2,r3,r4,r5,r6⟩:=hr
  obtain⟨pX,hd2,hd3,hd4,hd5⟩:=hd
  obtain⟨ZbD,UO,Zkh⟩:=AA
  obtain⟨b1,Zl,e1,m1,hb1,q1,kk1⟩:=Ai.heap.Dp l1 GL Qm
  have hlen:G.P.arrayLen t=n:=by unfold Program.arrayLen;rw[yB]
  have hel:G.P.elem t=el:=by unfold Program.elem;rw[yB]
  have ZmX:G.P.underlying t=some (.array (G.P.arrayLen t) (G.P.elem t)):=by rw[hlen,hel];exact yB
  obtain⟨inf,Znv,LR⟩:∃i,G.P.info? el=some i/\i.size=1:=by
   cases hq:G.P.info? el with
   |none=>rw[hq]at DT;cases DT
   |some i=>rw[hq]at DT;simpa using DT
  have hso:∀w,(sizeOf (G.P.elem t)).run G.P w=.ok 1 w:=λw=>by rw[hel];simp[sizeOf,typeInfo,Znv,LR]
  have hsl:∀(w:World),(Instr.sliceAt t (.pointer (some ⟨b1,0,none⟩)) none none none).run G.P w=.ok (.slice (some ⟨b1,0,none⟩) n n) w:=λw=>by
   rw[run_sliceAt_array_all w t _ ZmX,hso,hlen];simp only[Of,slicedAt];have:(⟨b1,0,none⟩:Addr).add (0*1)=⟨b1,0,none⟩:=by unfold Addr.add;split<;>simp_all
   simp[this]
  have Vb:∀(L:List AV)(s y:Nat)(x:AV),y≠s->BL (L.set s x) (.tmp y)=BL L (.tmp y):=λL s y x h=>by
   simp only[BL,D0]
   rw[Am (Ne.symm h)]
  have Zf:∀(L:List AV)(s:Nat)(x:AV),s<L.length->BL (L.set s x) (.tmp s)=x:=λL s x h=>by
   simp only[BL,D0];rw[Ap h]
   rfl
  obtain⟨R,hR⟩:∃R:AV,R=.raw (.slice (some ⟨b1,0,none⟩) n n):=⟨_,rfl⟩
  -- one operation Zpy gives a value
  have doV:∀(i:Nat)(o:Oper)(d:Nat)(E1:List AV)(v:AV)(a:Act),ops[i]?=some o->o.dst=some d->o.guard=none->(∀c,o.op≠.defer c)->AJ G C mu E1 H a w->(∃z,Aj C w v mu z/\(execOp a.eval o).run G.P w=.ok (.value z) w)->
    ∀next:Act->World->Prop,(∀a',AJ G C mu (E1.set d v) H a' w->next a' w)->wpOpIn (fw G.rd) m G.P ops (L6 G K X) i next a w:=by
   (intro i o d E1 v a ho ZnD hgu hnc UK ⟨z,hz,BQ⟩ next hn);unfold wpOpIn;rw[ho];simp only;rw[if_pos (by simp[Hp,hgu])];refine Dd (λc hc=>absurd hc (hnc c)) ?_;unfold Pg;rw[BQ];refine hn _ ?_;have:=UK.frame (BF UK.env o.dst (x:=v) hz) (put_defers a o.dst _);rw[ZnD]at this ⊢
   exact this
  have do0:∀(a:Act)(E1:List AV),AJ G C mu E1 H a w->BL E1 (.tmp y0)=.ptr l1 0->∀next:Act->World->Prop,(∀a',AJ G C mu (E1.set s0 R) H a' w->next a' w)->wpOpIn (fw G.rd) m G.P ops (L6 G K X) 0 next a w:=by
   (intro a E1 UK hy next hn);have v1:=Bv UK.env (.tmp y0);rw[hy]at v1;unfold Aj at v1;obtain⟨c1,j1,v1⟩:=v1;rw[m1]at j1;simp only[A4.injEq,GO.D6.injEq]at j1;subst j1;refine doV 0 o0 s0 E1 R a i0 d0 gu0 (λc hc=>by rw[p0]at hc;cases hc) UK ⟨_,by rw[hR];unfold Aj;rfl,Bm (s:=Instr.sliceAt t (a.eval (.tmp y0)) none none none) (by simp[execOp,p0]) (by rw[v1];exact hsl w)⟩ next hn
  have do1:∀(a:Act)(x:AV),AJ G C mu (E.set s0 x) H a w->∀next:Act->World->Prop,(∀a',AJ G C mu ((E.set s0 x).set s1 v1) H a' w->next a' w)->wpOpIn (fw G.rd) m G.P ops (L6 G K X) 1 next a w:=by (intro a x UK next hn);obtain⟨r,z,hr,hz,BQ⟩:=N7 (P:=G.P) hT (Bv UK.env (.tmp y1)) (k1 x);subst hr;exact doV 1 o1 s1 _ _ a i1 d1 gu1 (λc hc=>by rw[p1]at hc;cases hc) UK ⟨z,hz,Bm (s:=Instr.fieldAt tf (a.eval (.tmp y1)) f) (by simp[execOp,p1]) BQ⟩ next hn
  have do2:∀(a:Act)(x:AV),AJ G C mu ((E.set s0 x).set s1 v1) H a w->∀next:Act->World->Prop,(∀a',AJ G C mu (((E.set s0 x).set s1 v1).set s2 (.sl 1 es)) H a' w->next a' w)->wpOpIn (fw G.rd) m G.P ops (L6 G K X) 2 next a w:=by (intro a x UK next hn);have hv:=Bv UK.env (.tmp s1);rw[Zf _ _ _ (by simpa using UO)]at hv;obtain⟨r,z,hr,hz,BQ⟩:=Nk (P:=G.P) hT UK.heap hv k2;subst hr;exact doV 2 o2 s2 _ _ a i2 d2 gu2 (λc hc=>by rw[p2]at hc;cases hc) UK ⟨z,hz,Bm (s:=Instr.loadAt tl (a.eval (.tmp s1))) (by simp[execOp,p2]) BQ⟩ next hn
  have do3:∀(a:Act),AJ G C mu (((E.set s0 R).set s1 v1).set s2 (.sl 1 es)) H a w->wpOpIn (fw G.rd) m G.P ops (L6 G K X) 3 (wpAnyIn (fw G.rd) m G.P .any ops (L6 G K X) 0 #[true,true,true,true]) a w:=by intro a st2;have u1:=Bv st2.env (.tmp s0);have u2:=Bv st2.env (.tmp s2);rw[Vb _ _ _ _ hd4,Vb _ _ _ _ hd3,Zf _ _ _ ZbD,hR]at u1;rw[Zf _ _ _ (by simpa using Zkh)]at u2;unfold Aj at u1;obtain⟨De,xs,xZ,hc1,hu⟩:=Vc st2 u2 (K:=λa b=>a=1/\b=es) (by unfold HZ;exact⟨rfl,rfl⟩);obtain⟨rfl,rfl⟩:=xZ;rcases hu with⟨_,hu⟩|⟨ad,c,vs,hu,vH,hvr,FG,h12⟩;rw[hu]at n2;simp at n2;omega;have Zkw:flat xs=xs:=XI he;rw[Zkw]at hvr;rw[n2]at hu;obtain⟨w3,BQ,st3⟩:=wW (ty:=o3.type) (n:=n) (c:=c) st2 Qm m1 (Ac.mono (Ext.refl _ _) _ (fU mu) hvr) FG h12 n1 n2 Ib DT;unfold wpOpIn;rw[i3];simp only;rw[if_pos (by simp[Hp,gu3])];refine Dd (λc hc=>by rw[p3]at hc;cases hc) ?_;unfold Pg;rw[show(execOp a.eval o3).run G.P w=.ok (.value (goInt n)) w3 by simp[execOp,p3,resolve,invoke,builtin,u1,hu,BQ]];have st4:=st3.frame (BF st3.env o3.dst (x:=.any) (by unfold Aj;trivial)) (put_defers a o3.dst (goInt n));show wpAnyIn _ _ _ _ _ _ _ _ (a.put o3.dst _) w3;unfold wpAnyIn;refine⟨r6,_,_,hk,C,mu,st4.frame ?_ rfl⟩;refine Zan st4.env (by simp[B8,d3]) λi=>?_;simp only[B8,d3];by_cases j3:i=s3;subst j3;by_cases hi:i<E.length;exact .inl (by rw[Ap (by simpa using hi)]);exact .inr (by rw[A3 (by simp;omega),A3 (by simp;omega)]);rw[Am (Ne.symm j3),Am (Ne.symm j3)];by_cases j2:i=s2;subst j2;exact .inl (by rw[Ap (by simpa using Zkh)]);rw[Am (Ne.symm j2),Am (Ne.symm j2)];by_cases j1:i=s1;subst j1;exact .inl (by rw[Ap (by simpa using UO)]);rw[Am (Ne.symm j1),Am (Ne.symm j1)];by_cases j0:i=s0;subst j0;exact .inl (by rw[Ap ZbD]);exact .inr (by rw[Am (Ne.symm j0),Am (Ne.symm j0)])
  have c1:∀x,((E.set s0 x).set s1 v1).set s0 R=(E.set s0 R).set s1 v1:=λx=>by rw[Pl _ _ (Ne.symm hd3),List.set_set]
  have c2:∀x,(((E.set s0 x).set s1 v1).set s2 (.sl 1 es)).set s0 R=((E.set s0 R).set s1 v1).set s2 (.sl 1 es):=λx=>by rw[Pl _ _ (Ne.symm hd4),c1]
  have pL:E.set s0 (E[s0]'ZbD)=E:=List.set_getElem_self ZbD;have Ai:AJ G C mu (E.set s0 (E[s0]'ZbD)) H a w:=by rw[pL];exact Ai
  have F4:HB ops.size false=#[false,false,false,false]:=by rw[G8];rfl
  rw[F4,G8];unfold wpAnyIn;refine⟨λh=>by rw[r0]at h;(cases h),λi hi=>?_⟩;rw[r0]at hi;simp only[C0,M5,or_false]at hi;rcases hi with rfl|rfl;refine do0 a _ Ai (by rw[pL];exact hx0) _ λa1 t1=>?_;rw[List.set_set]at t1;show wpAnyIn _ _ _ _ _ _ _ #[true,false,false,false] a1 w;unfold wpAnyIn;refine⟨λh=>by rw[r1]at h;(cases h),λi hi=>?_⟩;rw[r1]at hi;obtain rfl:=A6.1 hi;refine do1 a1 _ t1 _ λa2 t2=>?_;show wpAnyIn _ _ _ _ _ _ _ #[true,true,false,false] a2 w;unfold wpAnyIn;refine⟨λh=>by rw[r3]at h;(cases h),λi hi=>?_⟩;rw[r3]at hi;obtain rfl:=A6.1 hi;refine do2 a2 _ t2 _ λa3 t3=>?_;show wpAnyIn _ _ _ _ _ _ _ #[true,true,true,false] a3 w;unfold wpAnyIn;refine⟨λh=>by rw[r5]at h;(cases h),λi hi=>?_⟩;rw[r5]at hi;obtain rfl:=A6.1 hi;exact do3 a3 t3;refine do1 a _ Ai _ λa1 t1=>?_;show wpAnyIn _ _ _ _ _ _ _ #[false,true,false,false] a1 w;unfold wpAnyIn;refine⟨λh=>by rw[r2]at h;(cases h),λi hi=>?_⟩;rw[r2]at hi;simp only[C0,M5,or_false]at hi;rcases hi with rfl|rfl;refine do0 a1 _ t1 (by rw[Vb _ _ _ _ pX,pL];exact hx0) _ λa2 t2=>?_;rw[c1]at t2;show wpAnyIn _ _ _ _ _ _ _ #[true,true,false,false] a2 w;unfold wpAnyIn;refine⟨λh=>by rw[r3]at h;(cases h),λi hi=>?_⟩;rw[r3]at hi;obtain rfl:=A6.1 hi;refine do2 a2 _ t2 _ λa3 t3=>?_;show wpAnyIn _ _ _ _ _ _ _ #[true,true,true,false] a3 w;unfold wpAnyIn;refine⟨λh=>by rw[r5]at h;(cases h),λi hi=>?_⟩;rw[r5]at hi;obtain rfl:=A6.1 hi;exact do3 a3 t3;refine do2 a1 _ t1 _ λa2 t2=>?_;show wpAnyIn _ _ _ _ _ _ _ #[false,true,true,false] a2 w;unfold wpAnyIn;refine⟨λh=>by rw[r4]at h;(cases h),λi hi=>?_⟩;rw[r4]at hi;obtain rfl:=A6.1 hi;refine do0 a2 _ t2 (by rw[Vb _ _ _ _ hd2,Vb _ _ _ _ pX,pL];exact hx0) _ λa3 t3=>?_;rw[c2]at t3;show wpAnyIn _ _ _ _ _ _ _ #[true,true,true,false] a3 w;unfold wpAnyIn;refine⟨λh=>by rw[r5]at h;(cases h),λi hi=>?_⟩;rw[r5]at hi;obtain rfl:=A6.1 hi;exact do3 a3 t3⟩
def Zmz(H:List HO)(x y:AV):Prop:=Zgl H x y\/∃f cap Zq,x=.fn f cap/\y=.fn f Zq/\Mj H cap Zq
def Pj(H:List HO):List AV->List AV->Prop
 |[],[]=>True
 |x::xs,y::ys=>Zmz H x y/\Pj H xs ys
 |_,_=>False
theorem Pj.plain{x:AV}(hx:closed x=true)(h:Pj H xs ys):Pj H (x::xs) (x::ys):=⟨.inl (.inl ⟨hx,rfl⟩),h⟩
theorem Pj.fn{f:FuncId}{Zq:List AV}(hc:Mj H cap Zq)(h:Pj H xs ys):Pj H (.fn f cap::xs) (.fn f Zq::ys):=⟨.inr ⟨f,cap,Zq,rfl,rfl,hc⟩,h⟩
theorem Wu(h:AJ G C mu E H a w):∀{xs ys:List AV}{vs:List Value},Pj H xs ys->Ac C w xs mu vs->Ac (VH C mu H) w ys Mu.none vs
 |[],[],_,_,hr=>by unfold Ac at*;exact hr
 |x::xs,y::ys,_,hs,hr=>by unfold Ac at hr⊢;obtain⟨v,CJ,rfl,h2,h3⟩:=hr;refine⟨v,CJ,rfl,?_,Wu h hs.2 h3⟩;rcases hs.1 with k|⟨f,cap,Zq,rfl,rfl,k⟩;exact oE h k h2;unfold Aj at h2⊢;obtain⟨us,h4,h5⟩:=h2;exact⟨us,h4,Tx h k h5⟩
 |[],_::_,_,hs,_|_::_,[],_,hs,_=>hs.elim
theorem Ah.jR{f:FuncId}{args args':List AV}{R:AV->Prop}{K:AV->KK}{X:XX}(hc:Au P f args' R)(hs:Pj H args args')(hk:∀r,R r->ZaD r/\K r E H):Ah P f args E H K X:=by
 refine⟨hc.D7,λG C mu a w us hP Ai hr=>?_⟩;have Zhk:gE (VH C mu H) w:=Ai.qR.mono O7 (nV Ai);exact(hc.out (VH C mu H) w us.toArray.toList Zhk (by simpa using Wu Ai hs hr)).mono λe w' ⟨r,u,k1,k2,k3,k4⟩=>by obtain⟨ho,hK⟩:=hk r k2;exact .inl ⟨r,u,E,H,_,mu,k1,hK,Ai.below k3,oM Ai k3 ho k4⟩
end
section
variable {G:Cx}{C:Af}{w w':World}{mu:Mu}{H:List HO}{E:List AV}{a:Act}{T:List TY}{P:Program}{ops:Array Oper}{K:KK}{X:XX}
def rpK(P:Program)(T:List TY)(ops:List Oper)(n0:Nat):Nat->List Oper->List AV->List HO->KK->Prop
 |_,[],E,H,K=>K E H
 |i,o::r,E,H,K=>KQ P T ops n0 i o E H λE H=>rpK P T ops n0 (i+1) r E H K
def ZdG(P:Program)(ops:List Oper)(k:Nat)(E:List AV)(H:List HO)(X:XX):Prop:=
 Dr ops k λo=>match o.guard with
  |none=>(match o.op with
   |.call c=>(match c.callee with
    |.value f=>DF E f λfv=>(match fv with
     |.fn f cap=>GZ (DF E) c.args.toList λP1=>Zx P1 cap λP1=>∀E',Ah P f P1 E' H (λ_ _ _=>False) X
     |_=>False)
    |_=>False)
   |_=>False)
  |some _=>False
def pY(o:Oper)(j:Nat):Bool:=o.after.any λe=>E3 .any e&&L2 e.on j
def Zci(ops:Array Oper)(j:Nat):Option Tmp:=(ops[j]?).bind (·.dst)
def Rm(ops:Array Oper)(k:Nat):Bool:=
 PX k ops.size&&(Hq ops.size).all λi=>match ops[i]? with
  |none=>true
  |some o=>(o.after.all λe=>PX e.on i)&&(Nat.ble i k||o.after.any λe=>E3 .any e&&Nat.ble k e.on)&&
   (PX k i||(Hq k).all λj=>match Zci ops j with
    |none=>true
    |some d=>(L2 i j||!(Zci ops i == some d))&&(!(o.looksAt ops).contains d||(PX j i&&pY o j)))
def JK:List Oper->List AV->List AV->List AV
 |o::r,v::vs,E=>JK r vs (B8 E o.dst v)
 |_,_,E=>E
theorem J6{t:Nat}:∀(l:List Oper)(vs E:List AV),(∀o∈l,o.dst≠some t)->(JK l vs E)[t]?=E[t]?
 |[],_,_,_=>by unfold JK;rfl
 |_::_,[],_,_=>by unfold JK;rfl
 |o::r,v::vs,E,h=>by
  unfold JK;rw[J6 r vs _ λo ho=>h o (by simp[ho])];have:=h o (by simp);cases hd:o.dst with
  |none=>rfl
  |some d=>
   have BK:d≠t:=λe=>this (by rw[hd,e]);simp only[B8];exact Am BK
theorem Yr{t:Nat}:∀(l:List Oper)(vs E:List AV)(j:Nat)(o:Oper)(v:AV),l[j]?=some o->o.dst=some t->vs[j]?=some v->(∀i oi,l[i]?=some oi->i≠j->oi.dst≠some t)->(JK l vs E)[t]?=(E.set t v)[t]?
 |[],_,_,_,_,_,h,_,_,_=>by simp at h
 |_::_,[],_,_,_,_,_,_,h,_=>by simp at h
 |x::r,y::vs,E,0,o,v,h1,h2,h3,h4=>by simp only[Fw,A4.injEq]at h1 h3;subst h1 h3;unfold JK;rw[J6 r vs _ λo ho=>by obtain⟨i,hi⟩:=Cz.1 ho;exact h4 (i+1) o (by simpa using hi) (by omega),h2];rfl
 |x::r,y::vs,E,j+1,o,v,h1,h2,h3,h4=>by
  unfold JK;rw[Yr r vs _ j o v (by simpa using h1) h2 (by simpa using h3) λi oi hi BK=>h4 (i+1) oi (by simpa using hi) (by omega)];have:=h4 0 x (by simp) (by omega);cases hd:x.dst with
  |none=>rfl
  |some d=>
   have BK:d≠t:=λe=>this (by rw[hd,e]);simp only[B8];rw[A9,A9,Am BK]
theorem Zai{n0:Nat}{L:List Oper}(hn:H.length=n0):∀(l:List Oper)(i:Nat)(E:List AV),rpK P T L n0 i l E H K->∃vs:List AV,vs.length=l.length/\K (JK l vs E) H/\
  ∀j o v,l[j]?=some o->vs[j]?=some v->∀E',Fi L (JK (l.take j) (vs.take j) E) E' o->∀K':KK,K' (B8 E' o.dst v) H->KQ P T L n0 (i+j) o E' H K'
 |[],i,E,h=>⟨[],rfl,h,λj o v h=>by simp at h⟩
 |x::l,i,E,h=>by
  unfold rpK at h;obtain⟨v,ob,h1,h2,h3⟩:=Ih h
  have BR:ob=none:=by
   cases ob with
   |none=>rfl
   |some y=>
    have:=h1 y rfl;rw[A3 (by omega)]at this;cases this
  subst BR;obtain⟨vs,k1,k2,k3⟩:=Zai hn l (i+1) _ h2;refine⟨v::vs,by simp[k1],k2,λj o v' hj hv E' ha K' hK=>?_⟩;cases j with
  |zero=>
   simp only[Fw,A4.injEq]at hj hv;subst hj hv;refine h3 E' H ha (λy _ l ob _ hl=>hl) rfl K' hK
  |succ j=>
   exact YaA
theorem Sq{E1 E2:List AV}{o:Oper}(h:∀t∈o.looksAt ops,E2[t]?=E1[t]?):Fi ops.toList E1 E2 o:=by
 refine⟨λy hy=>?_,λg want og t hg hog ht=>h t ?_⟩
 ·cases y with
  |tmp t=>
   simp only[BL,D0];rw[h t (by unfold Oper.looksAt;exact List.mem_append_left _ (List.mem_filterMap.2 ⟨.tmp t,by simpa using hy,rfl⟩))]
  |_=>rfl
 unfold Oper.looksAt;refine List.mem_append_right _ ?_;have:ops[g]?=some og:=by simpa using hog
 simp[hg,this,ht]
theorem ZdF{E1 E2:List AV}{o:Oper}(hk:ops[k]?=some o)(h:ZdG P ops.toList k E1 H X)(ha:Fi ops.toList E1 E2 o):FR P T ops.toList o E2 H (λ_ _=>False) X:=by
 unfold ZdG at h;replace h:=Bf.1 h;obtain⟨o',ho,h⟩:=h
 obtain rfl:o=o':=by have:ops[k]?=some o':=by simpa using ho
                     rw[hk]at this;exact A4.inj this
 split at h<;>try exact h.elim
 rename_i hg;split at h<;>try exact h.elim
 rename_i c YZ;split at h<;>try exact h.elim
 rename_i f hc;rw[Ae]at h;split at h<;>try exact h.elim
 rename_i fi cap hf;rw[Di (DF E1) (BL E1) (Ae E1),Dl]at h;have Zj4:∀y,y=f\/y∈c.args.toList->BL E2 y=BL E1 y:=λy hy=>ha.1 y (by rw[YZ];unfold LP;simp only;unfold Call.operands;rw[hc];rcases hy with rfl|hy<;>simp_all);unfold FR;rw[hg];simp only[Zb];rw[YZ];unfold TX;simp only[hc];rw[Ae,Zj4 f (.inl rfl),hf];simp only;rw[Di (DF E2) (BL E2) (Ae E2),Dl];have e:c.args.toList.map (BL E2)=c.args.toList.map (BL E1):=List.map_congr_left λy hy=>Zj4 y (.inr hy);rw[e];have:=h E2;exact⟨this.D7,λG C mu a w vs hP Ai hr=>(this.out G C mu a w vs hP Ai hr).mono λe w' hp=>hp.imp (λ⟨_,_,_,_,_,_,_,hk,_⟩=>hk.elim) id⟩
structure X1(ops:Array Oper)(k:Nat)(vs:List AV)(E:List AV)(b:Array Bool)(E':List AV):Prop where
 sz:b.size=ops.size
 up:∀j,k<=j->j<ops.size->b.getD j true=false
 len:E'.length=E.length
 G5:∀t,(∀j o,j<k->ops[j]?=some o->o.dst=some t->b.getD j true=false)->E'[t]?=E[t]?
 new:∀t j o v,j<k->ops[j]?=some o->o.dst=some t->vs[j]?=some v->b.getD j true=true->E'[t]?=(E.set t v)[t]?
theorem Lq(hB:Rm ops k=true):k<ops.size/\∀i o,ops[i]?=some o->(∀e∈o.after,e.on<i)/\(i<=k\/∃e∈o.after,E3 .any e=true/\k<=e.on)/\
  (i<=k->∀j oj d,j<k->ops[j]?=some oj->oj.dst=some d->(i≠j->o.dst≠some d)/\(d∈o.looksAt ops->j<i/\∃e∈o.after,E3 .any e=true/\e.on=j)):=by
 unfold Rm at hB;simp only[A1,G1,Be]at hB;obtain⟨h1,h2⟩:=hB;refine⟨by simpa[O6]using h1,λi o hi=>?_⟩;have h:=h2 i (Ao.1 hi).1;rw[hi]at h;simp only[A1,N1]at h;obtain⟨⟨a1,a2⟩,a3⟩:=h;refine⟨λe he=>?_,?_,λpT j oj d hj DP hd=>?_⟩;have:=Array.all_eq_true_iff_forall_mem.1 a1 e he;simpa[O6]using this
 ·rcases a2 with a2|a2;·exact .inl (by simpa using a2)
  obtain⟨e,he,h3⟩:=Ip.1 a2;simp only[A1]at h3;exact .inr ⟨e,he,h3.1,by simpa using h3.2⟩
 have a3:=a3.resolve_left (by simp;omega);have a4:=G1.1 a3 j (Be.2 hj);unfold Zci at a4;rw[DP,hi]at a4;simp only[Option.bind_some,hd,A1,N1,Bool.not_eq_true']at a4;refine⟨λBK he=>?_,λhm=>?_⟩
 ·rcases a4.1 with k1|k1;·exact BK (by simpa using k1)
  simp[he]at k1
 rcases a4.2 with k1|⟨k1,k2⟩;simp[hm]at k1;unfold pY at k2;obtain⟨e,he,h3⟩:=Ip.1 k2;simp only[A1]at h3;exact⟨by simpa[O6]using k1,e,he,h3.1,by simpa using h3.2⟩
theorem ZcD{vs:List AV}(hB:Rm ops k=true)(EA:vs.length=k)
  (ZpY:ZdG P ops.toList k (JK (ops.toList.take k) vs E) H X)
  (Ai:∀j o v,j<k->ops[j]?=some o->vs[j]?=some v->∀E',Fi ops.toList (JK (ops.toList.take j) (vs.take j) E) E' o->∀K':KK,K' (B8 E' o.dst v) H->KQ P T ops.toList H.length j o E' H K'):
  ∀(fuel:Nat)(b:Array Bool)(E':List AV),LN ops b<=fuel->X1 ops k vs E b E'->Gu P T ops H.length [k] K X fuel b E' H:=by
 obtain⟨hk,Dj⟩:=Lq hB;have dif:∀{i j:Nat}{oi oj:Oper}{t:Tmp},i<k->j<k->ops[i]?=some oi->ops[j]?=some oj->oi.dst=some t->oj.dst=some t->i=j:=λ{i j oi oj t} hi hj hoi DP h1 h2=>by by_cases e:i=j;exact e;exact absurd h1 (((Dj i oi hoi).2.2 (by omega) j oj t hj DP h2).1 e)
 have wG:∀{j:Nat},j<k->∃v,vs[j]?=some v:=λ{j} hj=>⟨vs[j],by simp[EA,hj]⟩;have pre:∀{b E'},X1 ops k vs E b E'->∀{i:Nat}{o:Oper},i<=k->ops[i]?=some o->(∀e∈o.after,E3 .any e=true->b.getD e.on false=true)->Fi ops.toList (JK (ops.toList.take i) (vs.take i) E) E' o:=λ{b E'} hD {i o} pT hi MK=>Sq λt ht=>by by_cases hex:∃j oj,j<k/\ops[j]?=some oj/\oj.dst=some t;obtain⟨j,oj,hj,DP,hd⟩:=hex;obtain⟨NU,e,he,hb,rfl⟩:=((Dj i o hi).2.2 pT j oj t hj DP hd).2 ht;obtain⟨v,hv⟩:=wG hj;(have AA:e.on<b.size:=by rw[hD.sz];exact(Ao.1 DP).1);(have Xr:b.getD e.on true=true:=by have:=MK e he hb;simp only[Bb,AA,dif_pos]at this ⊢;exact this);rw[hD.new t e.on oj v hj DP hd hv Xr];refine(Yr _ _ _ e.on oj v (by rw[A0];simp[NU];simpa using DP) hd (by rw[A0];simp[NU];exact hv) λm om hm BK hdm=>BK ?_).symm;rw[A0]at hm;split at hm;exact dif (by omega) hj (by simpa using hm) DP hdm hd;cases hm;rw[hD.G5 t λj oj hj DP hd=>absurd ⟨j,oj,hj,DP,hd⟩ hex];refine(J6 _ _ _ λom hm hdm=>hex ?_).symm;obtain⟨m,hm⟩:=Cz.1 hm;rw[A0]at hm;split at hm;exact⟨m,om,by omega,by simpa using hm,hdm⟩;cases hm
 have prog:∀{b E'},X1 ops k vs E b E'->AZ .any ops b≠[]:=λ{b E'} hD hr=>by
  exact Yay
 intro fuel
 induction fuel with
 |zero=>
  intro b E' hf hD;unfold Gu;intro _;exfalso;refine prog hD ?_;cases hr:AZ .any ops b with
  |nil=>rfl
  |cons i r=>
   exact Yaz
 |succ fuel ih=>
  intro b E' hf hD;unfold Gu;refine λ_=>⟨λhr=>absurd hr (prog hD),λi hi=>?_⟩;obtain⟨h1,o,h2,h3⟩:=mem_ready.1 hi;have DT:=(Ao.1 h2).1;have pT:i<=k:=by rcases (Dj i o h2).2.1 with h|⟨e,he,hb,hke⟩;exact h;have hd:=h3 e he hb;have AA:e.on<ops.size:=Nat.lt_trans ((Dj i o h2).1 e he) DT;have:=hD.up e.on hke AA;(have h4:e.on<b.size:=by rw[hD.sz];exact AA);simp only[Bb,h4,dif_pos]at this hd;rw[this]at hd;cases hd
  have Y7:=pre hD pT h2 h3;unfold mD;rw[h2];simp only;by_cases hkk:i=k;subst hkk;rw[show DO [i] i=true by simp[DO]];simp only;refine⟨λ_ _=>False,ZdF h2 ?_ Y7,λ_ _ h=>h.elim⟩;rwa [show vs.take i=vs by rw[List.take_of_length_le];omega]
  rw[show DO [k] i=false by
   have:L2 k i=false:=by
    cases hb:L2 k i with
    |false=>rfl
    |true=>exact absurd (GH hb).symm hkk
   simp[DO,this]]
  simp only;exact Yax
theorem Aa.ZfP(k:Nat)(hT:CY P T)(hm:P.follows .mixedOrders=true)(hB:Rm ops k=true)
  (h:rpK P T ops.toList H.length 0 (ops.toList.take k) E H λE' H'=>ZdG P ops.toList k E' H' X):Aa P (.region id ops true) E H K X:=by
 refine⟨λn G a w hP Ai=>?_⟩;subst hP;obtain⟨C,mu,Ai⟩:=Ai;have Dx:AJ G C mu E H a w.drew:=Ai.drew;have hk:=(Lq hB).1;obtain⟨vs,k1,k2,k3⟩:=Zai rfl _ 0 E h;have hlen:vs.length=k:=by rw[k1];simp;omega
 have h1:=ZcD (K:=K) (T:=T) hB hlen k2 (λj o v hj DP hv E' ha K' hK=>by
  have:=k3 j o v (by rw[A0];simp[hj];simpa using DP) hv E' (by rwa [OH,show min j k=j by omega]) K' hK;simpa using this) ops.size (HB ops.size false) E (by unfold LN;exact M3 (K2 _ _) (by simp))
  ⟨by simp,λj _ hj=>by simp[Bb,hj],rfl,λ_ _=>rfl,λt j o v hj DP _ _ hb=>by
   have:=(Ao.1 DP).1
   simp[Bb,this]at hb⟩
 refine Vy (wpIn_region_any hm ?_);have h2:=Hv (r:=G.rd) (n:=n) hT _ _ _ _ a _ h1 ⟨C,mu,Dx⟩;simpa using h2
end
def K9(b n:Nat):Value:=.slice (some ⟨b,0,none⟩) n n
def Zjt(b i:Nat):Value:=.pointer (some ⟨b,i,none⟩)
def RwJ(te:TypeId)(L:List (Nat×List Int))(Sw Sr:Nat->Prop)(w:World):Prop:=
 (L.map Kj).Nodup/\∀x∈L,(Sw x.1/\Sr x.1)/\w.heap[x.1]?=some (.cells (x.2.map (Value.int .i64)).toArray te (0,0))/\(∀n∈x.2,IU .i64 n)/\x.2.length<=9223372036854775807
def Rz(te:TypeId)(L:List (Nat×List Int)):Inv where
 J:=RwJ te L
 Ol:=λSw Sr w w' h hs=>⟨h.1,λx hx=>⟨(h.2 x hx).1,(hs.block x.1 (h.2 x hx).1.2).trans (h.2 x hx).2.1,(h.2 x hx).2.2⟩⟩
 Cb:=λ_ _=>True
 nb:=0
section
variable {G:Cx}{C:Af}{w w':World}{mu:Mu}{H:List HO}{E:List AV}{a:Act}{T:List TY}{P:Program}{K:KK}{X:XX}
theorem AJ.Mm(te:TypeId)(h:AJ G C mu E H a w)(BR:H[0]?=some (.inv WV)):AJ G C mu E (H.set 0 (.inv (Rz te []))) a w:=by
 obtain⟨Sw,Sr,hf,_,key⟩:=h.TV BR;exact key (Rz te []) w Sw Sr rfl rfl ⟨rfl,rfl,rfl,A5 _,λ_ _=>rfl⟩ (λ_ h=>.inl h) (λ_ h=>.inl (.inl h)) hf.sub hf.lt ⟨OL,λx hx=>by cases hx⟩
theorem Aa.Mm(te:TypeId){c:Code}(h:Aa P c E [.inv (Rz te [])] K X):Aa P c E [] K X:=
 Aa.ZaT ⟨λn G a w hP ⟨C,mu,Ai⟩=>h.out n G a w hP ⟨C,mu,Ai.Mm te rfl⟩⟩
theorem AJ.release(h:AJ G C mu E H a w){I:Inv}(BR:H[0]?=some (.inv I))(hCb:I.Cb=WV.Cb)(hnb:I.nb=WV.nb):
  ∃Sw Sr,I.J Sw Sr w/\∀B:Nat->Prop,(∀b,B b->Sw b)->AJ G (λb o=>C b o\/B b) mu E (H.set 0 (.inv WV)) a w:=by
 obtain⟨ms,d1,d2⟩:=h.defers;obtain⟨_,Sw,Sr,hf,hJ,wD,wB⟩:=d2.Ho 0 I BR;have h0:0<H.length:=(As.1 BR).1;refine⟨Sw,Sr,hJ,λB hB=>?_⟩;obtain⟨C2,hC2⟩:∃C2:Af,C2=λb o=>C b o\/B b:=⟨_,rfl⟩;rw[<-hC2];have hx:Ext C C2 w w:=⟨λ_ _ h=>by rw[hC2];exact .inl h,λ_ _ _=>rfl⟩;have hinv:∀{b o},C2 b o->C b o\/Sw b:=λ{b o} hc=>by rw[hC2]at hc;exact hc.imp id (hB b)
 have hmu:∀{i g b},mu i=some g->g.Az=some b->∀o,¬C2 b o:=λ{i g b} hi hg o hc=>(hinv hc).elim ((h.heap.fresh i g b hi hg).2.2 o) λhs=>hf.own b (hf.sub b hs) i g hi hg;have get:∀{i QS},(H.set 0 (.inv WV))[i]?=some QS->(i=0/\QS=.inv WV)\/(H[i]?=some QS):=λ{i QS} hi=>by by_cases e:0=i;subst e;rw[Ap h0]at hi;simp only[A4.injEq]at hi;exact .inl ⟨rfl,hi.symm⟩;rw[Am e]at hi;exact .inr hi
 have R7:∀D:Nat×Obj,¬Sr D.1->CS C w G.fresh mu D->CS C2 w G.fresh mu D:=λD hd m=>
  ⟨m.at_,λo hc=>(hinv hc).elim (m.HT o) λhs=>hd (hf.sub _ hs),m.own,m.fr⟩
 have gg:∀{i:Nat}{cs:List AV}{us:List Value}{DL:List Nat},(H.set 0 (.inv WV))[i]?=some (.ghost cs us DL)->H[i]?=some (.ghost cs us DL):=λ{i cs us DL} hi=>by rcases get hi with⟨_,h⟩|h;cases h;exact h
 refine⟨λb o hc=>by rw[hC2];exact .inl (h.c0 b o hc),λb o hc=>(hinv hc).elim (h.c1 b o) λhs=>.inr (hf.fr b hs),λb o hc=>(hinv hc).elim (h.lt b o) λhs=>hf.lt b (hf.sub b hs),
  ⟨λi g hi=>by simpa using h.heap.JX i g hi,λi g b hi hg=>?_,h.heap.sep,λi hi=>?_,λi cs hi=>?_,λi e sz es hi=>?_,λi ks vs hi=>?_⟩,Ac.mono hx _ (AU.refl _) h.env,
  ⟨ms,d1,λi cs us DL hi=>?_,λi I' hi=>?_,λd hd=>R7 d (wD d hd) (d2.marks d hd),d2.nd,λl l' cs vs ms cs' CJ DL hl CT BK=>d2.sep l l' cs vs ms cs' CJ DL (gg hl) (gg CT) BK⟩,h.Ax,by simpa using h.Dv.1,h.Dv.2⟩
 obtain⟨k1,k2,_⟩:=h.heap.fresh i g b hi hg;exact⟨k1,k2,hmu hi hg⟩
 ·rcases get hi with⟨_,k⟩|k;·cases k
  exact h.heap.dead i k
 ·rcases get hi with⟨_,k⟩|k;·cases k
  obtain⟨b,cur,e,k1,k2,k3,k4⟩:=h.heap.Dp i cs k;exact⟨b,cur,e,k1,k2,Ac.mono hx _ (AU.refl _) k3,k4⟩
 ·rcases get hi with⟨_,k⟩|k;·cases k
  obtain⟨k0,k⟩:=h.heap.Dk i e sz es k;exact⟨k0,k.imp id λ⟨b,cap,cur,k1,k2,k3,k4,k5,k6,k7⟩=>⟨b,cap,cur,k1,k2,k3,k4,k5,Ac.mono hx _ (AU.refl _) k6,k7⟩⟩
 ·rcases get hi with⟨_,k⟩|k;·cases k
  exact h.heap.maps i ks vs k
 have k:=gg hi;obtain⟨k1,k3,k2⟩:=d2.BG i cs us DL k;exact⟨Ac.mono hx _ (AU.refl _) k1,k3,λd hd=>⟨R7 (d,Gj) (wB i cs us DL k d hd) (k2 d hd).1,(k2 d hd).2⟩⟩;have fin:I'=WV->i=0->i=0/\∃Sw Sr,ZcK C2 w G.fresh mu I'.Cb I'.nb Sw Sr/\I'.J Sw Sr w/\(∀D∈ms.map (λD=>(D,Gj))++G.Lf,¬Sr D.1)/\∀(l:Nat) cs vs DL,(H.set 0 (.inv WV))[l]?=some (.ghost cs vs DL)->∀D∈DL,¬Sr D:=λhI' h0'=>by subst hI';exact⟨h0',λ_=>False,λ_=>False,⟨λb hb=>hb.elim,Hs _,λ_ _ _=>.inl trivial,λl g b _ _=>Hs _,λ_ h=>h,λ_ h=>h.elim,λ_ h=>h.elim,λ_ _ h=>h.elim⟩,trivial,λ_ _ h=>h,λ_ _ _ _ _ _ _ h=>h⟩
 rcases get hi with⟨e,k⟩|k;simp only[HO.inv.injEq]at k;exact fin k e;have hi0:=(d2.Ho i I' k).1;subst hi0;rw[Ap h0]at hi;simp only[A4.injEq,HO.inv.injEq]at hi;exact fin hi.symm rfl
theorem AJ.Zjx(h:AJ G C mu E H a w){l:Nat}{e:TypeId}{sz:Nat}{es':List AV}(BR:H[l]?=some (.arr e sz es))(hlen:es'.length=es.length)(hz:∀a∈es',a.cells.length=sz)
  (hr:∀vs,Ac C w (flat es) (Cf mu) vs->Ac C w (flat es') (Cf mu) vs):AJ G C mu E (H.set l (.arr e sz es')) a w:=by
 have AA:l<H.length:=(As.1 BR).1;have get:∀{i QS},(H.set l (.arr e sz es'))[i]?=some QS->(i=l/\QS=.arr e sz es')\/(H[i]?=some QS):=λ{i QS} hi=>by by_cases k:l=i;subst k;rw[Ap AA]at hi;simp only[A4.injEq]at hi;exact .inl ⟨rfl,hi.symm⟩;rw[Am k]at hi;exact .inr hi
 obtain⟨ms,d1,d2⟩:=h.defers;have gg:∀{i:Nat}{cs:List AV}{us:List Value}{DL:List Nat},(H.set l (.arr e sz es'))[i]?=some (.ghost cs us DL)->H[i]?=some (.ghost cs us DL):=λ{i cs us DL} hi=>by rcases get hi with⟨_,h⟩|h;cases h;exact h
 refine⟨h.c0,h.c1,h.lt,⟨λi g hi=>by simpa using h.heap.JX i g hi,h.heap.fresh,h.heap.sep,λi hi=>?_,λi cs hi=>?_,λi e' De lX hi=>?_,λi ks vs hi=>?_⟩,h.env,
  ⟨ms,d1,λi cs us DL hi=>d2.BG i cs us DL (gg hi),λi I' hi=>?_,d2.marks,d2.nd,λl l' cs vs ms cs' CJ DL hl CT BK=>d2.sep l l' cs vs ms cs' CJ DL (gg hl) (gg CT) BK⟩,h.Ax,by simpa using h.Dv.1,h.Dv.2⟩
 ·rcases get hi with⟨_,k⟩|k;·cases k
  exact h.heap.dead i k
 ·rcases get hi with⟨_,k⟩|k;·cases k
  exact h.heap.Dp i cs k
 ·rcases get hi with⟨rfl,k⟩|k;·injection k with q1 q2 q3;subst q1 q2 q3;obtain⟨_,k⟩:=h.heap.Dk i _ _ _ BR;refine⟨hz,k.imp (λ⟨k1,k2⟩=>⟨k1,by subst k2;simpa using hlen⟩) λ⟨b,cap,cur,k1,k2,k3,k4,k5,k6,k7⟩=>⟨b,cap,cur,by rw[hlen];exact k1,k2,by rw[hlen];exact k3,k4,k5,by rw[hlen];exact hr _ k6,k7⟩⟩
  exact h.heap.Dk i e' De lX k
 ·rcases get hi with⟨_,k⟩|k;·cases k
  exact h.heap.maps i ks vs k
 rcases get hi with⟨_,k⟩|k;cases k;obtain⟨q1,Sw,Sr,q2,q3,q4,q5⟩:=d2.Ho i I' k;exact⟨q1,Sw,Sr,q2,q3,q4,λl' cs vs DL CT=>q5 l' cs vs DL (gg CT)⟩
def Bl(L:List (Nat×List Int)):List AV:=L.map λx=>.raw (K9 x.1 x.2.length)
def Gy(L:List (Nat×List Int)):List AV:=L.map λx=>.sl 1 (x.2.map (.int .i64))
theorem lO(L:List (Nat×List Int)):flat (Bl L)=Bl L:=by
 unfold flat Bl;induction L with
 |nil=>rfl
 |cons x L ih=>simp only[Bc,L3,ih];rfl
theorem lN(L:List (Nat×List Int)):flat (Gy L)=Gy L:=by
 unfold flat Gy;induction L with
 |nil=>rfl
 |cons x L ih=>simp only[Bc,L3,ih];rfl
theorem AJ.Jp(h:AJ G C mu E H a w){te:TypeId}{L:List (Nat×List Int)}(BR:H[0]?=some (.inv (Rz te L))){l:Nat}{e:TypeId}(hl:H[l]?=some (.arr e 1 (Bl L))):
  ∃C',AJ G C' mu E ((H.set 0 (.inv WV)).set l (.arr e 1 (Gy L))) a w:=by
 obtain⟨Sw,Sr,hJ,key⟩:=h.release BR rfl rfl;obtain⟨O2,hJ⟩:RwJ te L Sw Sr w:=hJ;have Ai:=key (λb=>∃x∈L,x.1=b) λb ⟨x,hx,e⟩=>e▸(hJ x hx).1.1;refine⟨_,Ai.Zjx (es:=Bl L) (es':=Gy L) ?_ (by simp[Bl,Gy]) (λa ha=>?_) λvs hv=>?_⟩
 ·by_cases k:0=l;·subst k;rw[BR]at hl;cases hl
  rw[Am k];exact hl
 obtain⟨x,_,rfl⟩:=Ll.1 ha;rfl;rw[lO]at hv;rw[lN]
 have row:∀x∈L,∀mu' v,Aj (λb o=>C b o\/∃x∈L,x.1=b) w (.raw (K9 x.1 x.2.length)) mu' v->Aj (λb o=>C b o\/∃x∈L,x.1=b) w (.sl 1 (x.2.map (.int .i64))) mu' v:=λx hx mu' v hv=>by
  obtain⟨_,h1,h2,hlen⟩:=hJ x hx;unfold Aj at hv⊢;subst hv;refine .inr ⟨x.1,0,x.2.length,by simp[K9],by simp,hlen,(FC _ 0).2 λi hi=>⟨by simp[AV.cells],(Dc _ _).2 λj hj=>?_⟩⟩;have EW:i<x.2.length:=by simpa using hi
  simp only[List.getElem_map,AV.cells,List.length_cons,List.length_nil]at hj ⊢;obtain rfl:j=0:=by omega
  refine⟨.int .i64 x.2[i],rfl,⟨.inr ⟨x,hx,rfl⟩,?_⟩,by simp only[List.getElem_cons_zero];exact CH (h2 _ (Kt EW))⟩;rw[show 0+i*1+0=i by omega,cell_of_row w x.1 _ _ te _ h1];simp[EW]
 clear key Ai BR hl
 have gen:∀(L':List (Nat×List Int)) (vs:List Value),(∀x∈L',x∈L)->Ac (λb o=>C b o\/∃x∈L,x.1=b) w (Bl L') (Cf mu) vs->Ac (λb o=>C b o\/∃x∈L,x.1=b) w (Gy L') (Cf mu) vs:=by
  intro L'
  induction L' with
  |nil=>intro vs _ h;exact h
  |cons x L' ih=>
   intro vs yJ h;simp only[Bl,Gy,Bc]at h ⊢;unfold Ac at h⊢;obtain⟨v,CJ,rfl,h1,h2⟩:=h;exact⟨v,CJ,rfl,row x (yJ x (by simp)) _ _ h1,ih CJ (λy hy=>yJ y (by simp[hy])) h2⟩
 exact gen L vs (λ_ h=>h) hv
theorem Aa.Jp(l:Nat){te e:TypeId}{L:List (Nat×List Int)}{c:Code}(BR:H[0]?=some (.inv (Rz te L)))(hl:H[l]?=some (.arr e 1 (Bl L)))(h:Aa P c E ((H.set 0 (.inv WV)).set l (.arr e 1 (Gy L))) K X):Aa P c E H K X:=
 ⟨λn G a w hP ⟨C,mu,Ai⟩=>by
  obtain⟨C',Ai⟩:=Ai.Jp BR hl
  exact h.out n G a w hP ⟨C',mu,Ai⟩⟩
def Yo(T:List TY)(E:List AV)(H:List HO)(t:TypeId)(ln cp:Operand)(K:AV->KK):Prop:=
 Dr T t λy=>match y.k with
  |.slice te 1 by' _=>Dr T te λye=>(match ye.agg with
   |false=>DF E ln λln=>DF E cp λcp=>(match ln,cp with
    |.int .i64 n,.int .i64 m=>(0<=n/\n=m/\n<=1000000/\by'<=8)/\ye.zero=[.int .i64 0]/\∃L,H[0]?=some (.inv (Rz te L))/\∀b,b∉L.map Kj->K (.raw (K9 b n.toNat)) E (H.set 0 (.inv (Rz te (L++[(b,Bg n.toNat 0)]))))
    |_,_=>False)
   |true=>False)
  |_=>False
def TC(T:List TY)(t:TypeId)(x i:AV)(K:AV->Prop):Prop:=
 match x with
 |.raw v=>(match v with
  |.slice (some ⟨b,0,none⟩) n _=>Dr T t λy=>(match y.k with
   |.slice _ 1 _ _=>(match i with
    |.int _ m=>(0<=m/\m<n)/\K (.raw (Zjt b m.toNat))
    |_=>False)
   |_=>False)
  |_=>False)
 |_=>False
def Pn(T:List TY)(H:List HO)(t:TypeId)(p:AV)(K:AV->Prop):Prop:=
 match p with
 |.raw v=>(match v with
  |.pointer (some ⟨b,i,none⟩)=>∃te L row x,H[0]?=some (.inv (Rz te L))/\(b,row)∈L/\row[i]?=some x/\ldK T t [.int .i64 x] K
  |_=>False)
 |_=>False
def TB(T:List TY)(E:List AV)(H:List HO)(t:TypeId)(p x:AV)(K:AV->KK):Prop:=
 match p with
 |.raw v=>(match v with
  |.pointer (some ⟨b,i,none⟩)=>Dr T t λy=>(match y.size with
   |1=>(match x with
    |.int .i64 n=>∃te L j row,H[0]?=some (.inv (Rz te L))/\L[j]?=some (b,row)/\i<row.length/\K (.raw undef) E (H.set 0 (.inv (Rz te (L.set j (b,row.set i n)))))
    |_=>False)
   |_=>False)
  |_=>False)
 |_=>False
theorem sO(hT:CY G.P T)(h:AJ G C mu E H a w){ln cp:Operand}{K:AV->KK}(hk:Yo T E H t ln cp K):Nc G a w K (Instr.makeSlice t (a.eval ln) (a.eval cp)):=by
 unfold Yo at hk;replace hk:=Bf.1 hk;obtain⟨y,hy,hk⟩:=hk;split at hk;case h_2=>exact hk.elim
 rename_i te by' ag hs
 obtain⟨hu,DT,Sa,_⟩:=hT.slice hy hs;replace hk:=Bf.1 hk;obtain⟨ye,R5,hk⟩:=hk;split at hk;case h_2=>exact hk.elim
 rename_i Y7;rw[Ae,Ae]at hk;have NA:=Bv h.env ln;have hcp:=Bv h.env cp;split at hk;case h_2=>exact hk.elim
 rename_i n m e1 e2;obtain⟨⟨hn0,rfl,yF,Zqp⟩,hz,L,BR,hk⟩:=hk;rw[e1]at NA;rw[e2]at hcp;obtain⟨v1,r1⟩:=AG NA;obtain⟨v2,r2⟩:=AG hcp;have w1:IntKind.i64.wrap n=n:=by have:=fY _ _ r1;unfold Wr at this;exact this
 have Ic:=run_sizeOf (P:=G.P) (w:=w) DT (A5 1);obtain⟨i,d,hi,hd,R4⟩:=hT.facts R5;have LR:i.size=1:=by simp[sizeOf,typeInfo,hi]at Ic;exact Ic
 have ZbE:i.bytes=by':=by unfold Program.bytesOf at Sa;simpa[hi]using Sa
 obtain⟨zv,UG,NS⟩:=EE (C:=C) (w:=w) (mu:=Cf mu) hT R5 (by rw[R4]at hz⊢;simp only at hz⊢;rw[hz];exact LR.symm) (by rw[R4];simp only[LR];exact A5 1);rw[hz]at NS;unfold Ac at NS;obtain⟨z0,zs,YX,hz3,hz4⟩:=NS;unfold Ac at hz4;subst hz4;unfold Aj at hz3;obtain⟨rfl,_⟩:=hz3;have ZmL:zv.cells=#[.int .i64 0]:=by apply Np.1;rw[YX]
 obtain⟨Sw,Sr,hf,hJ,key⟩:=h.TV BR;obtain⟨O2,hJ⟩:RwJ te L Sw Sr w:=hJ;have hold:∀x∈L,x.1<w.heap.size:=λx hx=>hf.lt x.1 (hJ x hx).1.2;have Zka:w.heap.size∉L.map Kj:=λhm=>by obtain⟨x,hx,e⟩:=Ll.1 hm;have:=hold x hx;omega
 have Kp:(Array.range n.toNat).map (λj=>zv.cells[j%zv.cells.size]!)=((Bg n.toNat (0:Int)).map (Value.int .i64)).toArray:=by apply Np.1;rw[ZmL];apply List.ext_getElem;simp;intro j h1 h2;simp[Nat.mod_one]
 refine⟨_,_,_,_,_,_,_,hk w.heap.size Zka,?_,key (Rz te (L++[(w.heap.size,Bg n.toNat 0)])) (w.alloc (.cells ((Bg n.toNat (0:Int)).map (Value.int .i64)).toArray te (0,0))) (λk=>Sw k\/k=w.heap.size) (λk=>Sr k\/k=w.heap.size) rfl rfl
  ⟨rfl,rfl,rfl,by simp,λk hk=>heap_alloc_old w _ hk.1⟩ (λk hk=>hk.imp id (λe=>by omega)) (λk hk=>.inl (hk.imp id λe=>by omega)) (λk hk=>hk.imp (hf.sub k) id) (λk hk=>by rcases hk with hk|rfl;exact LQ (hf.lt k hk) (by simp);simp)
  ⟨?_,λx hx=>?_⟩,by unfold Aj;rfl⟩
 ·rw[v1,v2];have ZbB:¬n<0:=by omega
  have Zhn:¬((281474976710656:Int)<(by':Int)*n):=by have:(by':Int)*n<=8*1000000:=Int.mul_le_mul (by omega) yF hn0 (by omega);omega
  by_cases hn:n.toNat=0;·(have hn:n=0:=by omega);subst hn;have Q3:Array.range 0=#[]:=rfl;simp[Instr.makeSlice,run_underlying hu,Ic,asInt,asIntOf,typeInfo,hi,w1,ZbB,newRow,Q3,K9]
  simp[Instr.makeSlice,run_underlying hu,Ic,asInt,asIntOf,typeInfo,hi,ZbE,w1,ZbB,Zhn,newRow,hn,UG,K9];rw[Kp];simp
 rw[List.map_append,List.nodup_append];exact⟨O2,by simp,λx hx y hy e=>Zka (by simp at hy;rw[<-hy,<-e];exact hx)⟩;rcases HS.1 hx with hx|hx;obtain⟨k1,k2,k3⟩:=hJ x hx;exact⟨⟨.inl k1.1,.inl k1.2⟩,by rw[heap_alloc_old w _ (hold x hx)];exact k2,k3⟩;simp only[A6]at hx;subst hx;exact⟨⟨.inr rfl,.inr rfl⟩,heap_alloc_new w _,λx hx=>by rw[List.eq_of_mem_replicate hx];exact MI.2 (by decide),by simp;omega⟩
theorem sQ(hT:CY P T){x i:AV}{u v:Value}{K:AV->Prop}(hx:Aj C w x mu u)(hi:Aj C w i mu v)(h:TC T t x i K):∃r z,K r/\Aj C w r mu z/\(Instr.indexAt t u v).run P w=.ok z w:=by
 unfold TC at h;split at h;case h_2=>exact h.elim
 split at h;case h_2=>exact h.elim
 rename_i b n c;replace h:=Bf.1 h;obtain⟨y,hy,h⟩:=h;split at h;case h_2=>exact h.elim
 rename_i el by' ag hk
 obtain⟨h1,h2,h3,h4⟩:=hT.slice hy hk;split at h;case h_2=>exact h.elim
 rename_i k m;obtain⟨⟨m0,m1⟩,h⟩:=h;obtain⟨rfl,_⟩:=AG hi;unfold Aj at hx;subst hx;refine⟨_,_,h,by unfold Aj;rfl,?_⟩;simp[Instr.indexAt,asIntOf,run_underlying h1,m0,m1,run_sizeOf h2 (A5 1),add_lit,Zjt]
theorem iP(hT:CY G.P T)(h:AJ G C mu E H a w){p:AV}{u:Value}{K:AV->Prop}(hp:Aj C w p mu u)(hk:Pn T H t p K):∃r z,K r/\Aj C w r mu z/\(Instr.loadAt t u).run G.P w=.ok z w:=by
 unfold Pn at hk;split at hk;case h_2=>exact hk.elim
 split at hk;case h_2=>exact hk.elim
 rename_i b i;obtain⟨te,L,row,x,BR,hL,hx,hk⟩:=hk;obtain⟨Sw,Sr,hf,hJ,_⟩:=h.TV BR;obtain⟨_,hJ⟩:RwJ te L Sw Sr w:=hJ;obtain⟨_,h1,h2,_⟩:=hJ _ hL;unfold Aj at hp;subst hp;have hi:i<row.length:=(As.1 hx).1
 obtain⟨r,v,k1,k2,k3⟩:=Yp (C:=C) (mu:=mu) (P:=G.P) (w:=w) (b:=b) (o:=i) (vs:=[.int .i64 x]) hT (λj v hv=>by
  cases j with
  |zero=>
   simp at hv;subst hv;rw[Nat.add_zero,cell_of_row w b _ _ te _ h1];simp[hx]
  |succ j=>simp at hv) (by unfold Ac;exact⟨_,_,rfl,CH (h2 x (LJ hx)),by unfold Ac;rfl⟩) hk
 exact⟨r,v,k1,k2,by simpa[Instr.loadAt,Instr.sureAddr]using k3⟩
theorem iO(hT:CY G.P T)(h:AJ G C mu E H a w){ad x:Operand}{K:AV->KK}(hk:TB T E H t (BL E ad) (BL E x) K):
  ∃E' H' C' mu' w',K (.raw undef) E' H'/\(Instr.storeAt t (a.eval ad) (a.eval x)).run G.P w=.ok () w'/\AJ G C' mu' E' H' a w':=by
 have hp:=Bv h.env ad;have hx:=Bv h.env x;unfold TB at hk;split at hk;case h_2=>exact hk.elim
 rename_i v hv;rw[hv]at hp;split at hk;case h_2=>exact hk.elim
 rename_i b i;replace hk:=Bf.1 hk;obtain⟨y,hy,hk⟩:=hk;split at hk;case h_2=>exact hk.elim
 rename_i DT;split at hk;case h_2=>exact hk.elim
 rename_i n hn;rw[hn]at hx;obtain⟨te,L,j,row,BR,hL,hi,hk⟩:=hk;obtain⟨hxv,hxn⟩:=AG hx;unfold Aj at hp;obtain⟨Sw,Sr,hf,hJ,key⟩:=h.TV BR;obtain⟨O2,hJ⟩:RwJ te L Sw Sr w:=hJ;have hbL:(b,row)∈L:=LJ hL;obtain⟨⟨k0,k0'⟩,k1,k2,k3⟩:=hJ _ hbL;obtain⟨ii,d,hii,hd,R4⟩:=hT.facts hy
 have ZmZ:(sizeOf t).run G.P w=.ok 1 w:=by
  have:ii.size=1:=by rw[R4]at DT;exact DT
  simp[sizeOf,typeInfo,hii,this]
 have Ai:=run_storeCells_at G.P b i te [.int .i64 n] 0 (row.map (Value.int .i64)).toArray w k1 (by simp;omega) (by simp[Value.oneCell']);simp only[Nat.add_zero]at Ai;have UI:((row.map (Value.int .i64)).toArray.toList.take i++[Value.int .i64 n]++(row.map (Value.int .i64)).toArray.toList.drop (i+[Value.int .i64 n].length)).toArray=((row.set i n).map (Value.int .i64)).toArray:=by have pS:i<row.length:=hi;rw[List.set_eq_take_append_cons_drop,if_pos pS];simp[List.map_take,List.map_drop]
 refine⟨_,_,_,_,w.setRow b ((row.set i n).map (Value.int .i64)).toArray,hk,?_,key (Rz te (L.set j (b,row.set i n))) _ Sw Sr rfl rfl (RO (λh=>h.2 k0) _) (λ_ h=>.inl h) (λ_ h=>.inl (.inl h)) hf.sub (λk hk=>by have:=hf.lt k hk;simpa using this) ⟨?_,λx hx=>?_⟩⟩;rw[hp,hxv];simp only[Instr.storeAt,Instr.sureAddr,storeVar,M0,M1,Ix,ZmZ];rw[<-UI];exact Ai
 ·have:(L.set j (b,row.set i n)).map Kj=L.map Kj:=by rw[List.map_set];apply L4;intro q;by_cases e:j=q;subst e;(have AA:j<(L.map Kj).length:=by simpa using (As.1 hL).1);rw[Ap AA,L5,hL];rfl;rw[Am e]
  rw[this];exact O2
 obtain⟨q,hq,e⟩:=List.mem_iff_getElem.1 hx;by_cases eq:j=q;subst eq;rw[List.getElem_set_self]at e;subst e;refine⟨⟨k0,k0'⟩,setRow_heap _ _ _ _ _ _ k1,λy hy=>?_,by simpa using k3⟩;rcases List.mem_or_eq_of_mem_set hy with hy|rfl;exact k2 y hy;exact hxn;rw[List.getElem_set_ne eq]at e;have hq':q<L.length:=by simpa using hq
 have hxL:x∈L:=e▸Kt hq';obtain⟨q1,q2,q3⟩:=hJ x hxL;refine⟨q1,?_,q3⟩;rw[setRow_other];exact q2;intro e2;have hj':=(As.1 hL);have h1:(L.map Kj)[j]'(by simpa using hj'.1)=(L.map Kj)[q]'(by simpa using hq'):=by simp[hj'.2,e,e2]
 rcases Nat.lt_trichotomy j q with AA|AA|AA;exact absurd h1 (It.1 O2 j q _ _ AA);exact eq AA;exact absurd h1.symm (It.1 O2 q j _ _ AA)
end
section
variable {G:Cx}{C:Af}{w w':World}{mu:Mu}{H:List HO}{E:List AV}{a:Act}{T:List TY}{P:Program}{ops:Array Oper}{K:KK}{X:XX}
def RS(T:List TY)(E:List AV)(H:List HO)(o:Op)(K:AV->Prop):Prop:=
 match o with
 |.indexAddr t x i=>DF E x λx=>DF E i λi=>TC T t x i K
 |.load t x=>DF E x λp=>Pn T H t p K
 |_=>False
theorem Zad(hT:CY G.P T)(h:AJ G C mu E H a w){o:Oper}{K:AV->Prop}(hk:RS T E H o.op K):(∀c,o.op≠.defer c)/\∃r v,K r/\Aj C w r mu v/\(execOp a.eval o).run G.P w=.ok (.value v) w:=by
 unfold RS at hk;split at hk;·rename_i t x i ho;rw[Ae,Ae]at hk;obtain⟨r,z,k1,k2,k3⟩:=sQ hT (Bv h.env x) (Bv h.env i) hk;exact⟨λc hc=>(by rw[ho]at hc;cases hc),r,z,k1,k2,Bm (by simp[execOp,ho]) k3⟩
 ·rename_i t x ho;rw[Ae]at hk;obtain⟨r,z,k1,k2,k3⟩:=iP hT h (Bv h.env x) hk;exact⟨λc hc=>(by rw[ho]at hc;cases hc),r,z,k1,k2,Bm (by simp[execOp,ho]) k3⟩
 exact hk.elim
theorem tM{o:Op}{K:AV->Prop}(hk:RS T E H o K):∃r,K r/\∀E',X3 E E' o->∀K':AV->Prop,K' r->RS T E' H o K':=by
 unfold RS at hk;split at hk
 ·rename_i t x i;rw[Ae,Ae]at hk;obtain⟨r,k1,k2⟩:∃r,K r/\∀K':AV->Prop,K' r->TC T t (BL E x) (BL E i) K':=by unfold TC at hk⊢;generalize BL E x=x at hk;(cases x<;>first|exact hk.elim|skip);rename_i v;(cases v<;>first|exact hk.elim|skip);rename_i p n c;(cases p<;>first|exact hk.elim|skip);rename_i p;obtain⟨b,o,m⟩:=p;(cases o<;>first|exact hk.elim|skip);(cases m<;>first|exact hk.elim|skip);simp only at hk⊢;replace hk:=Bf.1 hk;obtain⟨y,hy,hk⟩:=hk;split at hk;(case h_2=>exact hk.elim);rename_i hkk;generalize BL E i=i at hk;(cases i<;>first|exact hk.elim|skip);exact⟨_,hk.2,λK' k=>Bf.2 ⟨y,hy,by simp only[hkk];exact⟨hk.1,k⟩⟩⟩
  refine⟨r,k1,λE' ha K' k=>?_⟩;unfold RS;simp only;rw[Ae,Ae,ha x (by simp[LP]),ha i (by simp[LP])];exact k2 K' k
 ·rename_i t x;rw[Ae]at hk;obtain⟨r,k1,k2⟩:∃r,K r/\∀K':AV->Prop,K' r->Pn T H t (BL E x) K':=by unfold Pn at hk⊢;generalize BL E x=x at hk;(cases x<;>first|exact hk.elim|skip);rename_i v;(cases v<;>first|exact hk.elim|skip);rename_i p;(cases p<;>first|exact hk.elim|skip);rename_i p;obtain⟨b,o,m⟩:=p;(cases m<;>first|exact hk.elim|skip);simp only at hk⊢;obtain⟨te,L,row,x,h1,h2,h3,h4⟩:=hk;obtain⟨r,k1,k2⟩:=SR h4;exact⟨r,k1,λK' k=>⟨te,L,row,x,h1,h2,h3,k2 K' k⟩⟩
  refine⟨r,k1,λE' ha K' k=>?_⟩;unfold RS;simp only;rw[Ae,ha x (by simp[LP])];exact k2 K' k
 exact hk.elim
def rsK(P:Program)(T:List TY)(ops:List Oper)(sp:List Nat)(n0 i:Nat)(o:Oper)(E:List AV)(H:List HO)(K:KK):Prop:=
 match DO sp i with
 |false=>KQ P T ops n0 i o E H K
 |true=>(match o.guard with|none=>RS T E H o.op λv=>BV E o.dst v λE'=>K E' H|some _=>False)
def rrK(P:Program)(T:List TY)(ops:List Oper)(sp:List Nat)(n0:Nat):Nat->List Oper->List AV->List HO->KK->Prop
 |_,[],E,H,K=>K E H
 |i,o::r,E,H,K=>rsK P T ops sp n0 i o E H λE H=>rrK P T ops sp n0 (i+1) r E H K
def rlK(P:Program)(T:List TY)(ops:List Oper)(sp:List Nat)(k:Nat)(E:List AV)(H:List HO)(K:KK)(X:XX):Prop:=
 Dr ops k λo=>match o.guard with
  |none=>(match DO sp k with
   |true=>(match o.op with
    |.store t ad x=>DF E ad λp=>DF E x λx=>TB T E H t p x λv E' H'=>BV E' o.dst v λGp=>K Gp H'
    |_=>False)
   |false=>TX none P T E H o.op (λv E' H'=>BV E' o.dst v λGp=>K Gp H') X)
  |some _=>False
theorem ZdA{n0 i:Nat}{o:Oper}{L:List Oper}{K:KK}(hn:H.length<=n0+i)(h:rsK P T L sp n0 i o E H K):∃v,K (B8 E o.dst v) H/\∀E',Fi L E E' o->∀K':KK,K' (B8 E' o.dst v) H->rsK P T L sp n0 i o E' H K':=by
 unfold rsK at h⊢;split at h
 ·rename_i hm;obtain⟨v,ob,h1,h2,h3⟩:=Ih h
  have BR:ob=none:=by
   cases ob with
   |none=>rfl
   |some y=>
    have:=h1 y rfl;rw[A3 (by omega)]at this;cases this
  subst BR;exact⟨v,h2,λE' ha K' hK=>h3 E' H ha (λy _ l ob _ hl=>hl) rfl K' hK⟩
 rename_i hm;split at h;·rename_i hg;obtain⟨v,h1,h2⟩:=tM h;rw[AF]at h1;refine⟨v,h1,λE' ha K' hK=>?_⟩;exact h2 E' ha.1 _ (by rw[AF];exact hK)
 exact h.elim
theorem Zag(hT:CY G.P T){n0 i:Nat}{o:Oper}(hi:ops[i]?=some o){K:KK}(h:rsK G.P T ops.toList sp n0 i o E H K)(Ai:AJ G C mu E H a w):
  wpOpIn (fw r) n G.P ops (L6 G Kn X) i (λa w=>∃E' H',K E' H'/\St G E' H' a w) a w:=by
 unfold wpOpIn;rw[hi];simp only;unfold rsK at h;split at h
 ·rcases Pd hT hi h Ai with⟨hw,h⟩|⟨hw,h⟩;·rw[if_pos hw];exact h
  rw[if_neg (by simp[hw])];exact⟨λ_ _=>trivial,h⟩
 split at h;·rename_i hg;rw[if_pos (by simp[Hp,hg])];obtain⟨hc,rv,v,k1,k2,k3⟩:=Zad hT Ai h;rw[AF]at k1;refine Dd hc (A8 (X:=X) (Q:=Kn) (K:=λv E' H'=>K (B8 E' o.dst v) H') (λa' w' ⟨r',E',H',hk,hs⟩=>⟨_,_,hk,hs⟩) k1 k3 Ai k2)
 exact h.elim
theorem Zaj(hT:CY G.P T){o:Oper}(hi:ops[k]?=some o){K:KK}(h:rlK G.P T ops.toList sp k E H K X)(Ai:AJ G C mu E H a w):
  wpOpIn (fw r) n G.P ops (L6 G Kn X) k (λa w=>∃E' H',K E' H'/\St G E' H' a w) a w:=by
 unfold wpOpIn;rw[hi];simp only;unfold rlK at h;replace h:=Bf.1 h;obtain⟨o',ho,h⟩:=h
 obtain rfl:o=o':=by have:ops[k]?=some o':=by simpa using ho
                     rw[hi]at this;exact A4.inj this
 split at h;case h_2=>exact h.elim
 rename_i hg;rw[if_pos (by simp[Hp,hg])];have nx:∀a' w',I9 G o (λv E' H'=>BV E' o.dst v λGp=>K Gp H') a' w'->∃E' H',K E' H'/\St G E' H' a' w':=λa' w' ⟨r',E',H',hk,hs⟩=>by simp only at hk;rw[AF]at hk;exact⟨_,_,hk,hs⟩
 split at h
 ·split at h;·rename_i t ad x YZ;rw[Ae,Ae]at h;obtain⟨E',H',C',mu',w',k1,k2,k3⟩:=iO hT Ai h;refine Dd (λc hc=>by rw[YZ]at hc;cases hc) ?_;unfold Pg;(have:(execOp a.eval o).run G.P w=.ok .skip w':=by simp[execOp,YZ,k2]);rw[this];exact nx _ _ ⟨_,E',H',k1,C',mu',k3.frame (BF k3.env o.dst (by unfold Aj;rfl)) (put_defers _ _ _)⟩
  exact h.elim
 exact Ex hT h Ai nx
theorem Zah{n0:Nat}{sp:List Nat}{L:List Oper}(hn:H.length=n0):∀(l:List Oper)(i:Nat)(E:List AV),rrK P T L sp n0 i l E H K->∃vs:List AV,vs.length=l.length/\K (JK l vs E) H/\
  ∀j o v,l[j]?=some o->vs[j]?=some v->∀E',Fi L (JK (l.take j) (vs.take j) E) E' o->∀K':KK,K' (B8 E' o.dst v) H->rsK P T L sp n0 (i+j) o E' H K'
 |[],i,E,h=>⟨[],rfl,h,λj o v h=>by simp at h⟩
 |x::l,i,E,h=>by
  unfold rrK at h;obtain⟨v,h2,h3⟩:=ZdA (by omega) h;obtain⟨vs,k1,k2,k3⟩:=Zah hn l (i+1) _ h2;refine⟨v::vs,by simp[k1],k2,λj o v' hj hv E' ha K' hK=>?_⟩;cases j with
  |zero=>
   simp only[Fw,A4.injEq]at hj hv;subst hj hv;exact h3 E' ha K' hK
  |succ j=>
   exact YaA
def We(P:Program)(T:List TY)(ops:Array Oper)(sp:List Nat)(n0 k:Nat)(K:KK)(X:XX):Nat->Array Bool->List AV->List HO->Prop
 |0,listed,E,H=>AZ .any ops listed=[]/\K E H
 |fuel+1,listed,E,H=>(AZ .any ops listed=[]->K E H)/\
  ∀i∈AZ .any ops listed,∃o,ops[i]?=some o/\(i=k->∃Kw:KK,rlK P T ops.toList sp k E H Kw X/\∀E H,Kw E H->We P T ops sp n0 k K X fuel (listed.setIfInBounds i true) E H)/\(i≠k->rsK P T ops.toList sp n0 i o E H (We P T ops sp n0 k K X fuel (listed.setIfInBounds i true)))
theorem OX(hT:CY G.P T){r:Option Nat}{n n0 k:Nat}{sp:List Nat}:∀(fuel:Nat)(listed:Array Bool)(E:List AV)(H:List HO)(a:Act)(w:World),We G.P T ops sp n0 k K X fuel listed E H->St G E H a w->wpAnyIn (fw r) n G.P .any ops (L6 G K X) fuel listed a w
 |0,listed,E,H,a,w,h,Ai=>by unfold We at h;exact⟨h.1,E,H,h.2,Ai⟩
 |fuel+1,listed,E,H,a,w,h,Ai=>by unfold We at h;refine⟨λh0=>⟨E,H,h.1 h0,Ai⟩,λi hi=>?_⟩;obtain⟨C,mu,Ai⟩:=Ai;obtain⟨o,ho,h1,h2⟩:=h.2 i hi;by_cases pT:i=k;subst pT;obtain⟨Kw,q1,q2⟩:=h1 rfl;exact wpOpIn_mono (λa' w' ⟨E',H',k1,k2⟩=>OX hT fuel _ E' H' a' w' (q2 _ _ k1) k2) (Zaj hT ho q1 Ai);exact wpOpIn_mono (λa' w' ⟨E',H',k1,k2⟩=>OX hT fuel _ E' H' a' w' k1 k2) (Zag hT ho (h2 pT) Ai)
def Zcj(ops:Array Oper):Bool:=
 Rm ops (ops.size-1)&&(Hq (ops.size-1)).all λj=>match ops[ops.size-1]? with|some o=>pY o j|none=>false
theorem xO{vs:List AV}(hB:Rm ops k=true)(hks:ops.size=k+1)(ZkK:∀o,ops[k]?=some o->∀j,j<k->∃e∈o.after,E3 .any e=true/\e.on=j)(EA:vs.length=k)
  (Zkk:rlK P T ops.toList sp k (JK (ops.toList.take k) vs E) H K X)
  (Ai:∀j o v,j<k->ops[j]?=some o->vs[j]?=some v->∀E',Fi ops.toList (JK (ops.toList.take j) (vs.take j) E) E' o->∀K':KK,K' (B8 E' o.dst v) H->rsK P T ops.toList sp H.length j o E' H K'):
  ∀(fuel:Nat)(b:Array Bool)(E':List AV),LN ops b<=fuel->X1 ops k vs E b E'->We P T ops sp H.length k K X fuel b E' H:=by
 obtain⟨hk,Dj⟩:=Lq hB;have dif:∀{i j:Nat}{oi oj:Oper}{t:Tmp},i<k->j<k->ops[i]?=some oi->ops[j]?=some oj->oi.dst=some t->oj.dst=some t->i=j:=λ{i j oi oj t} hi hj hoi DP h1 h2=>by by_cases e:i=j;exact e;exact absurd h1 (((Dj i oi hoi).2.2 (by omega) j oj t hj DP h2).1 e)
 have wG:∀{j:Nat},j<k->∃v,vs[j]?=some v:=λ{j} hj=>⟨vs[j],by simp[EA,hj]⟩;have pre:∀{b E'},X1 ops k vs E b E'->∀{i:Nat}{o:Oper},i<=k->ops[i]?=some o->(∀e∈o.after,E3 .any e=true->b.getD e.on false=true)->Fi ops.toList (JK (ops.toList.take i) (vs.take i) E) E' o:=λ{b E'} hD {i o} pT hi MK=>Sq λt ht=>by by_cases hex:∃j oj,j<k/\ops[j]?=some oj/\oj.dst=some t;obtain⟨j,oj,hj,DP,hd⟩:=hex;obtain⟨NU,e,he,hb,rfl⟩:=((Dj i o hi).2.2 pT j oj t hj DP hd).2 ht;obtain⟨v,hv⟩:=wG hj;(have AA:e.on<b.size:=by rw[hD.sz];exact(Ao.1 DP).1);(have Xr:b.getD e.on true=true:=by have:=MK e he hb;simp only[Bb,AA,dif_pos]at this ⊢;exact this);rw[hD.new t e.on oj v hj DP hd hv Xr];refine(Yr _ _ _ e.on oj v (by rw[A0];simp[NU];simpa using DP) hd (by rw[A0];simp[NU];exact hv) λm om hm BK hdm=>BK ?_).symm;rw[A0]at hm;split at hm;exact dif (by omega) hj (by simpa using hm) DP hdm hd;cases hm;rw[hD.G5 t λj oj hj DP hd=>absurd ⟨j,oj,hj,DP,hd⟩ hex];refine(J6 _ _ _ λom hm hdm=>hex ?_).symm;obtain⟨m,hm⟩:=Cz.1 hm;rw[A0]at hm;split at hm;exact⟨m,om,by omega,by simpa using hm,hdm⟩;cases hm
 have prog:∀{b E'},X1 ops k vs E b E'->AZ .any ops b≠[]:=λ{b E'} hD hr=>by
  exact Yay
 intro fuel
 induction fuel with
 |zero=>
  intro b E' hf hD;unfold We;exfalso;refine prog hD ?_;cases hr:AZ .any ops b with
  |nil=>rfl
  |cons i r=>
   exact Yaz
 |succ fuel ih=>
  intro b E' hf hD;unfold We;refine⟨λhr=>absurd hr (prog hD),λi hi=>?_⟩;obtain⟨h1,o,h2,h3⟩:=mem_ready.1 hi;have DT:=(Ao.1 h2).1;have pT:i<=k:=by rcases (Dj i o h2).2.1 with h|⟨e,he,hb,hke⟩;exact h;have hd:=h3 e he hb;have AA:e.on<ops.size:=Nat.lt_trans ((Dj i o h2).1 e he) DT;have:=hD.up e.on hke AA;(have h4:e.on<b.size:=by rw[hD.sz];exact AA);simp only[Bb,h4,dif_pos]at this hd;rw[this]at hd;cases hd
  have Y7:=pre hD pT h2 h3;refine⟨o,h2,λhkk=>?_,λhkk=>?_⟩
  ·subst hkk;(have Xr:∀j,j<i->b.getD j true=true:=λj hj=>by obtain⟨e,he,hb,rfl⟩:=ZkK o h2 j hj;have:=h3 e he hb;(have AA:e.on<b.size:=by rw[hD.sz];omega);simp only[Bb,AA,dif_pos]at this ⊢;exact this);have hE:E'=JK (ops.toList.take i) vs E:=by apply L4;intro t;by_cases hex:∃j oj,j<i/\ops[j]?=some oj/\oj.dst=some t;obtain⟨j,oj,hj,DP,hd⟩:=hex;obtain⟨v,hv⟩:=wG hj;rw[hD.new t j oj v hj DP hd hv (Xr j hj)];refine(Yr _ _ _ j oj v (by rw[A0];simp[hj];simpa using DP) hd hv λm om hm BK hdm=>BK ?_).symm;rw[A0]at hm;split at hm;exact dif (by omega) hj (by simpa using hm) DP hdm hd;cases hm;rw[hD.G5 t λj oj hj DP hd=>absurd ⟨j,oj,hj,DP,hd⟩ hex];refine(J6 _ _ _ λom hm hdm=>hex ?_).symm;obtain⟨m,hm⟩:=Cz.1 hm;rw[A0]at hm;split at hm;exact⟨m,om,by omega,by simpa using hm,hdm⟩;cases hm
   have Xn:AZ .any ops (b.setIfInBounds i true)=[]:=by
    cases hr:AZ .any ops (b.setIfInBounds i true)with
    |nil=>rfl
    |cons q r=>
     obtain⟨g1,o',g2,_⟩:=mem_ready.1 (show q∈AZ .any ops (b.setIfInBounds i true) by rw[hr];simp);have hq:=(Ao.1 g2).1;by_cases hqi:i=q;subst hqi;simp[Bb,show i<b.size by rw[hD.sz];exact hq]at g1;rw[getD_set_ne true hqi,Xr q (by omega)]at g1;cases g1
   refine⟨K,hE▸Zkk,λE1 H1 vR=>?_⟩;cases fuel with
   |zero=>unfold We;exact⟨Xn,vR⟩
   |succ f=>unfold We;exact⟨λ_=>vR,λq hq=>by rw[Xn]at hq;cases hq⟩
  exact Yax
theorem Aa.Vd(sp:List Nat)(hT:CY P T)(hm:P.follows .mixedOrders=true)(hB:Zcj ops=true)
  (h:rrK P T ops.toList sp H.length 0 (ops.toList.take (ops.size-1)) E H λE' H'=>rlK P T ops.toList sp (ops.size-1) E' H' K X):Aa P (.region id ops true) E H K X:=by
 refine⟨λn G a w hP Ai=>?_⟩;subst hP;obtain⟨C,mu,Ai⟩:=Ai;have Dx:AJ G C mu E H a w.drew:=Ai.drew;unfold Zcj at hB;simp only[A1,G1,Be]at hB;obtain⟨hB,hB2⟩:=hB;have hk:=(Lq hB).1;obtain⟨k,hks⟩:∃k,ops.size=k+1:=⟨ops.size-1,by omega⟩;have vR:ops.size-1=k:=by omega
 rw[vR]at h hB hB2;obtain⟨vs,k1,k2,k3⟩:=Zah rfl _ 0 E h;have hlen:vs.length=k:=by rw[k1];simp;omega
 have h1:=xO (K:=K) (T:=T) (sp:=sp) (X:=X) hB hks (λo ho j hj=>by
  have:=hB2 j hj;rw[ho]at this;unfold pY at this;obtain⟨e,he,h3⟩:=Ip.1 this;simp only[A1]at h3;exact⟨e,he,h3.1,by simpa using h3.2⟩) hlen k2 (λj o v hj DP hv E' ha K' hK=>by
  have:=k3 j o v (by rw[A0];simp[hj];simpa using DP) hv E' (by rwa [OH,show min j k=j by omega]) K' hK;simpa using this) ops.size (HB ops.size false) E (by unfold LN;exact M3 (K2 _ _) (by simp))
  ⟨by simp,λj _ hj=>by simp[Bb,hj],rfl,λ_ _=>rfl,λt j o v hj DP _ _ hb=>by
   have:=(Ao.1 DP).1
   simp[Bb,this]at hb⟩
 refine Vy (wpIn_region_any hm ?_);have h2:=OX (r:=G.rd) (n:=n) hT _ _ _ _ a _ h1 ⟨C,mu,Dx⟩;simpa using h2
def iQ(T:List TY)(E:List AV)(c:Call)(K:AV->Prop):Prop:=
 match c.callee with
 |.builtin .len=>(match c.args.toList,c.argTypes.toList with
  |[x],[t]=>Dr T t λy=>(match y.k with
   |.slice _ _ _ _=>DF E x λx=>(match x with
    |.raw v=>(match v with
     |.slice (some _) n _=>n<=9223372036854775807/\K (.int .i64 n)
     |_=>False)
    |_=>False)
   |_=>False)
  |_,_=>False)
 |_=>False
theorem sP(hT:CY G.P T)(h:AJ G C mu E H a w){o:Oper}{c:Call}(ho:o.op=.call c){K:AV->Prop}(hk:iQ T E c K):∃r v,K r/\Aj C w r mu v/\(execOp a.eval o).run G.P w=.ok (.value v) w:=by
 unfold iQ at hk;split at hk;case h_2=>exact hk.elim
 rename_i hc;split at hk;case h_2=>exact hk.elim
 rename_i x t h1 h2;obtain⟨Gs,args,N0⟩:=c;simp only at hc h1 h2;subst hc;obtain rfl:args=#[x]:=by cases args;simp_all
 obtain rfl:N0=#[t]:=by cases N0;simp_all
 replace hk:=Bf.1 hk;obtain⟨y,hy,hk⟩:=hk;split at hk;case h_2=>exact hk.elim
 rename_i hyk;rw[Ae]at hk;have hx:=Bv h.env x;split at hk;case h_2=>exact hk.elim
 rename_i v hv;split at hk;case h_2=>exact hk.elim
 rename_i p n cp;rw[hv]at hx;unfold Aj at hx;obtain⟨hu,_⟩:=hT.slice hy hyk;refine⟨_,.int .i64 n,hk.2,CH (MI.2 (by omega)),?_⟩;simp[execOp,ho,resolve,invoke,builtin,Builtin.len_,run_underlying hu,hx,goInt]
def Pq(P:Program)(T:List TY)(ops:List Oper)(sp:List Nat):Nat->List Oper->List AV->List HO->KK->XX->Prop
 |_,[],E,H,K,_=>K E H
 |n,o::r,E,H,K,X=>match DO sp n with
   |true=>(match o.guard with
    |none=>(match o.op with
     |.makeSlice t l c=>Yo T E H t l c λv E' H'=>BV E' o.dst v λGp=>Pq P T ops sp (n+1) r Gp H' K X
     |.call c=>iQ T E c λv=>BV E o.dst v λGp=>Pq P T ops sp (n+1) r Gp H K X
     |_=>False)
    |some _=>False)
   |false=>gdK ops E o.guard
    (λE=>TX none P T E H o.op (λv E' H'=>BV E' o.dst v λGp=>Pq P T ops sp (n+1) r Gp H' K X) X)
    (λE=>BV E o.dst (.raw undef) λE'=>Pq P T ops sp (n+1) r E' H K X)
theorem II(hT:CY G.P T){r:Option Nat}{n:Nat}{ops:Array Oper}{sp:List Nat}{K:KK}{X:XX}:∀(l:List Oper)(k:Nat){C:Af}{mu:Mu}{E:List AV}{H:List HO}{a:Act}{w:World},Pq G.P T ops.toList sp k l E H K X->AJ G C mu E H a w->wpListIn (fw r) n G.P ops (L6 G K X) l a w
 |[],k,_,_,_,_,_,_,h,Ai=>⟨_,_,h,_,_,Ai⟩
 |o::l,k,C,mu,E,H,a,w,h,Ai=>by
  unfold Pq at h;unfold wpListIn;split at h
  ·split at h;(case h_2=>exact h.elim);rename_i hg;rw[if_pos (by simp[Hp,hg])];split at h;case h_3=>exact h.elim
   case h_2=>
    rename_i c ho;obtain⟨rv,v,k1,k2,k3⟩:=sP hT Ai ho h;refine Dd (λc hc=>by rw[ho]at hc;cases hc) (A8 (X:=X) (Q:=K) (K:=λv E' H'=>BV E' o.dst v λGp=>Pq G.P T ops.toList sp (k+1) l Gp H' K X) (λa' w' hp=>?_) k1 k3 Ai k2);obtain⟨x,Gp,H',h3,C',mu',h4⟩:=hp;rw[AF]at h3;exact II hT l (k+1) h3 h4
   rename_i t ln cp ho;obtain⟨rv,v,E',H',C',mu',w',k1,k2,k3,k4⟩:=sO hT Ai h;refine Dd (λc hc=>by rw[ho]at hc;cases hc) (A8 (X:=X) (Q:=K) (K:=λv E' H'=>BV E' o.dst v λGp=>Pq G.P T ops.toList sp (k+1) l Gp H' K X) (λa' w' hp=>?_) k1 (Bm (by simp[execOp,ho]) k2) k3 k4);obtain⟨x,Gp,H',h3,C',mu',h4⟩:=hp;rw[AF]at h3;exact II hT l (k+1) h3 h4
  rcases GK rfl Ai h with⟨hw,E',h1,h2⟩|⟨hw,E',h1,h2⟩;rw[if_pos hw];refine Ex hT h1 h2 λa' w' hp=>?_;obtain⟨x,Gp,H',h3,C',mu',h4⟩:=hp;rw[AF]at h3;exact II hT l (k+1) h3 h4;rw[if_neg (by simp[hw])];rw[AF]at h1;exact⟨λ_ _=>trivial,II hT l (k+1) h1 (h2.frame (BF h2.env o.dst (by unfold Aj;rfl)) (put_defers _ _ _))⟩
theorem Aa.K7(sp:List Nat)(hT:CY P T){ops:Array Oper}(h:Pq P T ops.toList sp 0 ops.toList E H K X):Aa P (.region id ops false) E H K X:=
 ⟨λn G a w hP Ai=>by
  obtain⟨C,mu,Ai⟩:=Ai
  subst hP
  exact Vy (wpIn_region_list (II hT _ 0 h Ai))⟩
end
mutual
def gQ(l:Nat)(cs:List AV):AV->AV
 |.ptr k o=>match L2 k l with|true=>.at_ (cs.drop o)|false=>.ptr k o
 |.om k=>match L2 k l with|true=>.any|false=>.om k
 |.fn f cap=>.fn f (Rk l cs cap)
 |.mv f cap=>.mv f (Rk l cs cap)
 |.iface t x=>.iface t (gQ l cs x)
 |.agg xs=>.agg (Rk l cs xs)
 |.tuple vs=>.tuple (Rk l cs vs)
 |a=>a
def Rk(l:Nat)(cs:List AV):List AV->List AV
 |[]=>[]
 |a::P1=>gQ l cs a::Rk l cs P1
end
def Va(l:Nat)(cs:List AV):List AV->(List AV->Prop)->Prop
 |[],K=>K []
 |a::P1,K=>(gQ l cs a).force λb=>Va l cs P1 λbs=>K (b::bs)
def IY(l:Nat)(cs:List AV):List HO->(List HO->Prop)->Prop
 |[],K=>K []
 |.cells xs::r,K=>Va l cs xs λxs=>IY l cs r λr=>K (.cells xs::r)
 |.arr e s xs::r,K=>(∀e∈xs,closed e=true)/\IY l cs r λr=>K (.arr e s xs::r)
 |.dead::r,K=>IY l cs r λr=>K (.dead::r)
 |.ghost xs vs ms::r,K=>Va l cs xs λxs=>IY l cs r λr=>K (.ghost xs vs ms::r)
 |.inv I::r,K=>IY l cs r λr=>K (.inv I::r)
 |.map ks vs::r,K=>IY l cs r λr=>K (.map ks vs::r)
def ZhI(l:Nat)(E:List AV)(H:List HO)(K:KK):Prop:=
 Dr H l λob=>match ob with
  |.cells cs=>(match AI cs with
   |true=>Va l cs E λE=>IY l cs H λH=>Dn H l .dead λH=>K E H
   |false=>False)
  |_=>False
def KC(l:Nat)(cs:List AV):HO->HO
 |.cells xs=>.cells (Rk l cs xs)
 |.ghost xs vs ms=>.ghost (Rk l cs xs) vs ms
 |o=>o
theorem NI{l:Nat}{cs:List AV}:∀(P1:List AV){K:List AV->Prop},Va l cs P1 K->K (Rk l cs P1)
 |[],K,h=>by unfold Va at h;unfold Rk;exact h
 |a::P1,K,h=>by unfold Va at h;rw[AV.AS]at h;unfold Rk;exact NI P1 h
theorem XL{l:Nat}{cs:List AV}:∀(H:List HO){K:List HO->Prop},IY l cs H K->(∀(i:Nat) e s xs,H[i]?=some (.arr e s xs)->∀a∈xs,closed a=true)/\K (H.map (KC l cs))
 |[],K,h=>⟨λi e s xs hi=>by simp at hi,h⟩
 |o::r,K,h=>by
  have key:∀{K':List HO->Prop},IY l cs r K'->(∀e s xs,o=.arr e s xs->∀a∈xs,closed a=true)->(∀(i:Nat) e s xs,(o::r)[i]?=some (.arr e s xs)->∀a∈xs,closed a=true)/\K' (r.map (KC l cs)):=λ{K'} h1 h2=>by
   obtain⟨h3,h4⟩:=XL r h1;refine⟨λi e s xs hi=>?_,h4⟩;cases i with
   |zero=>simp at hi;exact h2 e s xs hi
   |succ i=>exact h3 i e s xs (by simpa using hi)
  cases o with
  |cells xs=>unfold IY at h;exact key (NI xs h) (λ_ _ _ h=>by cases h)
  |ghost xs vs ms=>unfold IY at h;exact key (NI xs h) (λ_ _ _ h=>by cases h)
  |arr e s xs=>unfold IY at h;exact key h.2 (λ_ _ _ h'=>by cases h';exact h.1)
  |dead=>unfold IY at h;exact key h (λ_ _ _ h=>by cases h)
  |inv I=>unfold IY at h;exact key h (λ_ _ _ h=>by cases h)
  |map ks vs=>unfold IY at h;exact key h (λ_ _ _ h=>by cases h)
section
variable {G:Cx}{C C2:Af}{w:World}{mu:Mu}{H:List HO}{E:List AV}{a:Act}{l:Nat}{cs:List AV}{T:List TY}{P:Program}{K:KK}{X:XX}
mutual
theorem qL(hx:Ext C C2 w w)(hl:∀g,mu l=some g->∃b,g=.D6 b)(Ce:∀o v,Aj C w (.ptr l o) mu v->Aj C2 w (.at_ (cs.drop o)) Mu.none v):∀(x:AV){v:Value},Aj C w x mu v->Aj C2 w (gQ l cs x) (mu.set l none) v
 |.any,_,_=>by unfold gQ Aj;trivial
 |.int _ _,_,h|.bool _,_,h|.lit _,_,h|.str _,_,h|.raw _,_,h=>by unfold gQ;unfold Aj at*;exact h
 |.sl _ _,_,h|.at_ _,_,h|.mp _ _,_,h=>by unfold gQ;exact Aj.mono hx _ (AU.none _) (Ci _ rfl h)
 |.om k,_,h=>by unfold gQ;split;unfold Aj;trivial;rename_i hb;unfold Aj at*;obtain⟨b,h1,h2⟩:=h;refine⟨b,?_,h2⟩;rw[Mu.AQ _ _ (KR hb)];exact h1
 |.ptr k o,_,h=>by
  unfold gQ;split;·rename_i hb;obtain rfl:=GH hb;exact Aj.mono (Ext.refl _ _) _ (AU.none _) (Ce _ _ h)
  rename_i hb;unfold Aj at*;obtain⟨b,h1,h2⟩:=h;refine⟨b,?_,h2⟩;rw[Mu.AQ _ _ (KR hb)];exact h1
 |.el k De i o,_,h=>by unfold gQ;unfold Aj at*;obtain⟨b,n,c,h1,h2⟩:=h;refine⟨b,n,c,?_,h2⟩;rw[Mu.AQ];exact h1;rintro rfl;obtain⟨b,hb⟩:=hl _ h1;cases hb
 |.own k De lo n,_,h=>by unfold gQ;unfold Aj at*;obtain⟨x,h1,h2⟩:=h;refine⟨x,?_,h2⟩;rw[Mu.AQ];exact h1;rintro rfl;obtain⟨b,hb⟩:=hl _ h1;cases hb
 |.fn f cap,_,h=>by unfold gQ;unfold Aj at*;obtain⟨vs,h1,h2⟩:=h;exact⟨vs,h1,HN hx hl Ce cap h2⟩
 |.mv f cap,_,h=>by unfold gQ;unfold Aj at*;obtain⟨vs,h1,h2⟩:=h;exact⟨vs,h1,HN hx hl Ce cap h2⟩
 |.iface t x,_,h=>by unfold gQ;unfold Aj at*;obtain⟨vs,h1,h2⟩:=h;exact⟨vs,h1,qL hx hl Ce x h2⟩
 |.agg xs,_,h=>by unfold gQ;unfold Aj at*;obtain⟨vs,h1,h2⟩:=h;exact⟨vs,h1,HN hx hl Ce xs h2⟩
 |.tuple xs,_,h=>by unfold gQ;unfold Aj at*;obtain⟨vs,h1,h2⟩:=h;exact⟨vs,h1,HN hx hl Ce xs h2⟩
theorem HN(hx:Ext C C2 w w)(hl:∀g,mu l=some g->∃b,g=.D6 b)(Ce:∀o v,Aj C w (.ptr l o) mu v->Aj C2 w (.at_ (cs.drop o)) Mu.none v):∀(xs:List AV){vs:List Value},Ac C w xs mu vs->Ac C2 w (Rk l cs xs) (mu.set l none) vs
 |[],_,h=>by unfold Rk;unfold Ac at*;exact h
 |x::xs,_,h=>by unfold Rk;unfold Ac at*;obtain⟨v,CJ,h1,h2,h3⟩:=h;exact⟨v,CJ,h1,qL hx hl Ce x h2,HN hx hl Ce xs h3⟩
end
theorem Sf:∀{es:List AV},(∀e∈es,closed e=true)->AI (flat es)=true
 |[],_=>rfl
 |x::es,h=>by
  have h1:=h x (by simp);have h2:=Sf (es:=es) λe he=>h e (by simp[he]);have h3:AI x.cells=true:=by cases x<;>first|(unfold closed at h1;exact h1)|(show AI [_]=true;unfold AI AI;rw[h1];rfl)
  have:flat (x::es)=x.cells++flat es:=by simp[flat]
  rw[this];generalize x.cells=l1 at h3
  induction l1 with
  |nil=>exact h2
  |cons y l1 ih=>
   unfold AI at h3;rw[A1]at h3;show AI (y::(l1++flat es))=true;unfold AI;rw[h3.1,ih h3.2];rfl
theorem AJ.ZeI(h:AJ G C mu E H a w){K:KK}(hnp:G.np<=l)(hk:ZhI l E H K):∃E' H' C' mu',K E' H'/\AJ G C' mu' E' H' a w:=by
 unfold ZhI at hk;replace hk:=Bf.1 hk;obtain⟨ob,BR,hk⟩:=hk;cases ob<;>first|exact hk.elim|skip
 rename_i cs;simp only at hk;split at hk;case h_2=>exact hk.elim
 rename_i LS;replace hk:=NI E hk;obtain⟨hH,hk⟩:=XL H hk;rw[AY]at hk;obtain⟨bl,cur,el,hml,gO,ZkA,Y0⟩:=h.heap.Dp l cs BR;let C2:Af:=λb o=>C b o\/∃g,mu l=some g/\g.Az=some b
 have hx:Ext C C2 w w:=⟨λ_ _ h=>.inl h,λ_ _ _=>rfl⟩;have hl:∀g,mu l=some g->∃b,g=.D6 b:=λg hg=>by rw[hml]at hg;cases hg;exact⟨_,rfl⟩
 have Ce:∀o v,Aj C w (.ptr l o) mu v->Aj C2 w (.at_ (cs.drop o)) Mu.none v:=λo v hv=>by
  unfold Aj at hv;obtain⟨b,h1,rfl⟩:=hv;rw[hml]at h1;cases h1;unfold Aj;refine⟨_,o,rfl,(Dc _ _).2 λj hj=>?_⟩;have MJ:=(Bo _).1 (BD cs LS ZkA);simp only[List.length_drop]at hj;have gK:o+j<cs.length:=by omega
  have ZE:o+j<cur.toList.length:=by rw[MJ.1];exact gK
  refine⟨cur.toList[o+j],Y0 _ (Kt ZE),⟨.inr ⟨_,hml,rfl⟩,?_⟩,?_⟩;rw[cell_of_row w bl _ cur el _ gO];simp at ZE⊢;have:=MJ.2 (o+j) gK ZE;simp only[List.getElem_drop];exact Aj.mono hx _ (AU.refl _) this
 have hbm:∀i b,i≠l->mu i=some (.D6 b)->(mu.set l none) i=some (.D6 b):=λi b BK hi=>by rw[Mu.AQ _ _ BK];exact hi
 have VC:∀{i g},(mu.set l none) i=some g->i≠l/\mu i=some g:=λ{i g} hi=>by
  have BK:i≠l:=by rintro rfl;rw[Mu.AP]at hi;cases hi
  rw[Mu.AQ _ _ BK]at hi;exact⟨BK,hi⟩
 have hnB:∀{i g b},i≠l->mu i=some g->g.Az=some b->∀o,¬C2 b o:=λ{i g b} BK hi hg o hc=>by rcases hc with hc|⟨g',h1,h2⟩;exact(h.heap.fresh i g b hi hg).2.2 o hc;exact BK (h.heap.sep l g' b i g h1 h2 hi hg)
 have Dy:∀{i:Nat}{ob:HO},((H.map (KC l cs)).set l .dead)[i]?=some ob->(i=l/\ob=.dead)\/(i≠l/\∃o,H[i]?=some o/\ob=KC l cs o):=λ{i ob} hi=>by
  by_cases e:i=l;subst e;have AA:i<H.length:=(As.1 BR).1;rw[Ap (by simpa using AA)]at hi;exact .inl ⟨rfl,by simpa using hi.symm⟩;rw[Am (λe'=>e e'.symm),L5]at hi;cases ho:H[i]? with
  |none=>simp[ho]at hi
  |some o=>exact .inr ⟨e,o,rfl,by simpa[ho]using hi.symm⟩
 have hmd:∀{D:Nat×Obj},CS C w G.fresh mu D->CS C2 w G.fresh (mu.set l none) D:=λ{D} k=>
  ⟨k.at_,λo hc=>hc.elim (k.HT o) (λ⟨g,h1,h2⟩=>k.own l g h1 h2),λi g hi=>k.own i g (VC hi).2,k.fr⟩
 refine⟨_,_,C2,mu.set l none,hk,λb o hc=>.inl (h.c0 b o hc),λb o hc=>?_,λb o hc=>?_,⟨λi g hi=>?_,λi g b hi hg=>?_,λi g b i' g' hi hg EW R8=>?_,λi hi=>?_,λi cs hi=>?_,λi e' s' es' hi=>?_,λi ks' CJ hi=>?_⟩,(HN hx hl Ce E h.env),?_,h.Ax,by simpa using h.Dv.1,λi b hn hi=>hbm i b (by omega) (h.Dv.2 i b hn hi)⟩
 ·rcases hc with hc|⟨g,h1,h2⟩;·exact h.c1 b o hc
  exact .inr (h.heap.fresh l g b h1 h2).1
 ·rcases hc with hc|⟨g,h1,h2⟩;·exact h.lt b o hc
  exact(h.heap.fresh l g b h1 h2).2.1
 simpa using h.heap.JX i g (VC hi).2;obtain⟨k1,k2,k3⟩:=h.heap.fresh i g b (VC hi).2 hg;exact⟨k1,k2,hnB (VC hi).1 (VC hi).2 hg⟩;exact h.heap.sep i g b i' g' (VC hi).2 hg (VC EW).2 R8
 ·rcases Dy hi with⟨rfl,_⟩|⟨BK,o,ho,he⟩;·exact Mu.AP _ _ _
  rw[Mu.AQ _ _ BK];cases o with
  |dead=>exact h.heap.dead i ho
  |_=>simp[KC]at he
 ·rcases Dy hi with⟨rfl,he⟩|⟨BK,o,ho,he⟩;·cases he
  cases o with
  |cells FK=>
   simp only[KC,HO.cells.injEq]at he;subst he;obtain⟨b,cur,e',k1,k2,k3,k4⟩:=h.heap.Dp i FK ho;exact⟨b,cur,e',hbm i b BK k1,k2,HN hx hl Ce FK k3,k4⟩
  |_=>simp[KC]at he
 ·rcases Dy hi with⟨rfl,he⟩|⟨BK,o,ho,he⟩;·cases he
  cases o with
  |arr e0 s0 lX=>
   simp only[KC,HO.arr.injEq]at he;obtain⟨rfl,rfl,rfl⟩:=he;obtain⟨k0,k⟩:=h.heap.Dk i _ _ _ ho;refine⟨k0,?_⟩;rw[Mu.AQ _ _ BK];exact k.imp id λ⟨b,cap,cur,k1,k2,k3,k4,k5,k6,k7⟩=>⟨b,cap,cur,k1,k2,k3,k4,k5,Ac.mono hx _ (AU.none _) (BD _ (Sf (hH i _ _ _ ho)) k6),k7⟩
  |_=>simp[KC]at he
 ·rcases Dy hi with⟨rfl,he⟩|⟨BK,o,ho,he⟩;·cases he
  cases o with
  |map ks0 Tc=>
   simp only[KC,HO.map.injEq]at he;obtain⟨rfl,rfl⟩:=he;obtain⟨b,es,cl,k1,k2,k3⟩:=h.heap.maps i _ _ ho;exact⟨b,es,cl,hbm i b BK k1,k2,k3⟩
  |_=>simp[KC]at he
 obtain⟨ms,d1,d2⟩:=h.defers;refine⟨ms,d1,⟨λi cs vs gm hi=>?_,λi I hi=>?_,λd hd=>hmd (d2.marks d hd),d2.nd,λi i' cs vs gm cs' CJ gm' hi EW BK=>?_⟩⟩
 ·rcases Dy hi with⟨rfl,he⟩|⟨BK,o,ho,he⟩;·cases he
  cases o with
  |ghost FK Tc ms0=>
   simp only[KC,HO.ghost.injEq]at he;obtain⟨rfl,rfl,rfl⟩:=he;obtain⟨k1,k2,k3⟩:=d2.BG i _ _ _ ho;exact⟨HN hx hl Ce FK k1,k2,λD hD=>⟨hmd (k3 D hD).1,(k3 D hD).2⟩⟩
  |_=>simp[KC]at he
 ·rcases Dy hi with⟨rfl,he⟩|⟨BK,o,ho,he⟩;·cases he
  cases o with
  |inv I0=>
   simp only[KC,HO.inv.injEq]at he;subst he;obtain⟨h0,Sw,Sr,f,k2,k3,k4⟩:=d2.Ho i _ ho;refine⟨h0,Sw,Sr,⟨f.fr,f.base,λb o hc=>?_,λi g b hi hg=>f.ob i g b (VC hi).2 hg,f.sub,f.lt,λb hb i g hi=>f.own b hb i g (VC hi).2,λb o hb hc=>?_⟩,k2,k3,λi' cs vs gm EW=>?_⟩
   ·rcases hc with hc|⟨g,h1,h2⟩;·exact f.cb b o hc
    exact .inr (f.ob l g b h1 h2)
   ·rcases hc with hc|⟨g,h1,h2⟩;·exact f.HT b o hb hc
    exact f.own b (f.sub b hb) l g h1 h2
   rcases Dy EW with⟨rfl,he⟩|⟨BK,o,Y1,he⟩;cases he;cases o with
   |ghost FK Tc ms0=>
    simp only[KC,HO.ghost.injEq]at he;obtain⟨rfl,rfl,rfl⟩:=he;exact k4 i' _ _ _ Y1
   |_=>simp[KC]at he
  |_=>simp[KC]at he
 rcases Dy hi with⟨rfl,he⟩|⟨_,o,ho,he⟩;cases he;rcases Dy EW with⟨rfl,gL⟩|⟨_,o',Y1,gL⟩;cases gL;cases o with
 |ghost FK Tc ms0=>
  cases o' with
  |ghost GL vs1 ms1=>
   simp only[KC,HO.ghost.injEq]at he gL;obtain⟨rfl,rfl,rfl⟩:=he;obtain⟨rfl,rfl,rfl⟩:=gL;exact d2.sep i i' _ _ _ _ _ _ ho Y1 BK
  |_=>simp[KC]at gL
 |_=>simp[KC]at he
def qK(n0:Nat):List Nat->List AV->List HO->KK->Prop
 |[],E,H,K=>K E H
 |l::r,E,H,K=>match Nat.ble n0 l with
  |true=>ZhI l E H λE H=>qK n0 r E H K
  |false=>False
theorem eI{n0:Nat}(hn:G.np<=n0):∀(ls:List Nat){C:Af}{mu:Mu}{E:List AV}{H:List HO}{K:KK},AJ G C mu E H a w->qK n0 ls E H K->∃E' H' C' mu',K E' H'/\AJ G C' mu' E' H' a w
 |[],C,mu,E,H,K,h,hk=>⟨E,H,C,mu,hk,h⟩
 |l::r,C,mu,E,H,K,h,hk=>by
  unfold qK at hk;split at hk;·rename_i hb;obtain⟨E',H',C',mu',hk,h⟩:=h.ZeI (M3 hn (Nat.le_of_ble_eq_true hb)) hk;exact eI hn r h hk
  exact hk.elim
theorem Aa.CF(ls:List Nat){ops:Array Oper}{om:Bool}(h:Aa P (.region id ops om) E H (λE' H'=>qK H.length ls E' H' K) X):Aa P (.region id ops om) E H K X:=
 ⟨λn G a w hP Ai=>by
  have hnp:G.np<=H.length:=by obtain⟨C,mu,h⟩:=Ai;exact h.Dv.1
  refine BX (h.out n G a w hP Ai) λe a' w' hq=>?_
  cases e with
  |normal=>
   obtain⟨E',H',hk,C',mu',Dx⟩:=hq;obtain⟨E2,H2,C2,mu2,kZ,Gr⟩:=eI hnp ls Dx hk
   exact⟨E2,H2,kZ,C2,mu2,Gr⟩
  |exit id|ret|panic c|goto l|outgrown=>exact hq⟩
end
end Go.Av
namespace Go.Av
open Go.RowKit (Below)
variable {id l n:Nat}{o:Oper}{E0:List AV}{next:Act->World->Prop}
theorem Bq.plain{P:Program}{f:FuncId}{args:List AV}{R X:AV->List HO->Prop}{R':AV->Prop}(h:Bq P f args [] R X)(hX:∀x H,¬X x H)(hR':∀r H,R r H->R' r):Au P f args R':=by
 refine⟨h.D7,λC w vs hc hr=>?_⟩
 refine(h.out C Mu.none w vs hc ⟨λl g hl=>(by cases hl),λl g b hl=>(by cases hl),λl g b l' g' hl=>(by cases hl),λl hl=>(by simp at hl),λl cs hl=>(by simp at hl),λl e sz es hl=>(by simp at hl),λl ks vs hl=>(by simp at hl)⟩ hr).mono
  λe w' ⟨r,v,H1,C',mu',h1,h2,h3,h4,h5,_,_⟩=>?_
 rcases h1 with⟨he,hR⟩|⟨_,hx⟩
 ·have hmu:mu'=Mu.none:=by
   funext l
   cases hl:mu' l with
   |none=>rfl
   |some g=>have:=h3.JX l g hl;rw[h5]at this;simp at this
  rw[hmu]at h4;refine⟨r,v,he,hR' _ _ hR,⟨h2.same.os,h2.same.tape,h2.same.output,h2.same.size,λb hb=>h2.same.block b ⟨hb,λl g hl=>(by cases hl)⟩⟩,Aj.mono ⟨λb o hb=>?_,λb o _=>rfl⟩ r (AU.refl _) h4⟩;obtain⟨k1,k2⟩:=h2.new b o hb;rcases k2 with k2|k2|⟨l,g,hl,_⟩;exact .inl k2;exact .inr ⟨k2,k1⟩;cases hl
 exact absurd hx (hX _ _)
section
variable {H:List HO}{E:List AV}{T:List TY}{P:Program}{ops:Array Oper}{K:KK}{X:XX}
theorem Aa.Zhz(L:List (List Bool×List Nat))(rY:List (Nat×Nat×AV))(fH:List Bool->List HO)(hT:CY P T)(hm:P.follows .mixedOrders=true)(hB:okL ops L=true)
  (h0:qJ rY (Bg ops.size false) E=E) (h1:fH (Bg ops.size false)=H)
  (h:gP P T ops.toList (λb=>qJ rY b E) fH K X L):Aa P (.region id ops true) E H K X:=by
 unfold okL at hB;simp only[A1,G1,List.any_eq_true,beq_iff_eq]at hB;obtain⟨lJ,y0,hy0,hy1⟩:=hB;refine Aa.graph (λb E1 H1=>∃x∈L,x.1.toArray=b/\E1=qJ rY x.1 E/\H1=fH x.1) hT hm ⟨y0,hy0,?_,?_,?_⟩ ?_;rw[OP hy1];simp;rw[OP hy1];exact h0.symm;rw[OP hy1];exact h1.symm;rintro b E1 H1 ⟨x,hx,rfl,rfl,rfl⟩;have hn:=(Zb8 h x hx).out;obtain⟨hr,Dj⟩:=lJ x hx;obtain⟨xb,rs⟩:=x;simp only at hr Dj hn⊢;cases rs with
 |nil=>exact⟨λ_=>hn,λi hi=>by rw[hr]at hi;cases hi⟩
 |cons i0 rs=>
  refine⟨λh0=>(by rw[hr]at h0;cases h0),λi hi=>?_⟩;rw[hr]at hi;obtain⟨o,ho,hw⟩:=Zb7 hn i hi;refine⟨o,_,by simpa using ho,hw,?_⟩;rintro E2 H2 ⟨rfl,rfl⟩;obtain⟨y,hy,R5⟩:=Dj i hi;exact⟨y,hy,by rw[OP R5,zX],by rw[OP R5],by rw[OP R5]⟩
end
section
variable {G:Cx}{C:Af}{w w':World}{mu:Mu}{H:List HO}{E:List AV}{a:Act}{T:List TY}{P:Program}
def Ha(l:Nat)(o:Obj):Inv where
 J:=λSw Sr w=>(Sw l/\Sr l)/\w.heap[l]?=some o
 Ol:=λSw Sr w w' h hs=>⟨h.1,(hs.block l h.1.2).trans h.2⟩
 Cb:=λ_ _=>True
 nb:=0
theorem AJ.zI(h:AJ G C mu E H a w){o:Obj}(BR:H[0]?=some (.inv (Ha l o))):
  AJ (G.AX l o) C mu E (H.set 0 (.ghost [] [] [])) a w/\G.fresh l/\l<w.heap.size/\∀(i:Nat)(I:Inv),(H.set 0 (HO.ghost [] [] []))[i]?≠some (HO.inv I):=by
 obtain⟨ms,d1,d2⟩:=h.defers;obtain⟨_,Sw,Sr,hf,hJ,wD,wB⟩:=d2.Ho 0 _ BR;obtain⟨⟨hw,hr⟩,hat⟩:=hJ;have h0:0<H.length:=(As.1 BR).1;have get:∀{i:Nat}{y:HO},(H.set 0 (.ghost [] [] []))[i]?=some y->(i=0/\y=.ghost [] [] [])\/(i≠0/\H[i]?=some y):=λ{i y} hi=>by by_cases e:0=i;subst e;rw[Ap h0]at hi;simp only[A4.injEq]at hi;exact .inl ⟨rfl,hi.symm⟩;rw[Am e]at hi;exact .inr ⟨λk=>e k.symm,hi⟩
 have V2:∀(i:Nat) I,(H.set 0 (.ghost [] [] []))[i]?≠some (.inv I):=λi I hi=>by rcases get hi with⟨_,k⟩|⟨k,hk⟩;cases k;exact k (d2.Ho i I hk).1
 refine⟨⟨h.c0,h.c1,h.lt,⟨λi g hi=>by simpa using h.heap.JX i g hi,h.heap.fresh,h.heap.sep,λi hi=>?_,λi cs hi=>?_,λi e sz es hi=>?_,λi ks vs hi=>?_⟩,h.env,⟨ms,d1,?_⟩,⟨h.Ax.os,h.Ax.tape,h.Ax.output,h.Ax.size,h.Ax.block⟩,by have:=h.Dv.1;simpa[Cx.AX]using this,h.Dv.2⟩,hf.fr l hw,hf.lt l hr,V2⟩
 ·rcases get hi with⟨_,k⟩|⟨_,k⟩;·cases k
  exact h.heap.dead i k
 ·rcases get hi with⟨_,k⟩|⟨_,k⟩;·cases k
  exact h.heap.Dp i cs k
 ·rcases get hi with⟨_,k⟩|⟨_,k⟩;·cases k
  exact h.heap.Dk i e sz es k
 ·rcases get hi with⟨_,k⟩|⟨_,k⟩;·cases k
  exact h.heap.maps i ks vs k
 have hx:B2 C w G.fresh mu (H.set 0 (.ghost [] [] [])) ((l,o)::(ms.map (λD=>(D,Gj))++G.Lf)):=by
  refine⟨λi cs vs gm hi=>?_,λi I hi=>absurd hi (V2 i I),λd hd=>?_,?_,λi i' cs vs gm cs' CJ gm' hi EW BK D hD=>?_⟩
  ·rcases get hi with⟨_,k⟩|⟨_,k⟩;·injection k with k1 k2 k3;subst k1 k2 k3;exact⟨by unfold Ac;rfl,OL,λD hD=>by cases hD⟩
   obtain⟨g1,g2,g3⟩:=d2.BG i cs vs gm k;refine⟨g1,g2,λD hD=>⟨(g3 D hD).1,λhm=>?_⟩⟩;rw[Bc]at hm;rcases C0.1 hm with rfl|hm;exact wB i cs vs gm k _ hD hr;exact(g3 D hD).2 hm
  ·rcases C0.1 hd with rfl|hd;·exact⟨hat,λo' hc=>hf.HT l o' hw hc,λi g hi=>hf.own l hr i g hi,hf.fr l hw⟩
   exact d2.marks d hd
  rw[Bc];refine N3.2 ⟨λhm=>?_,d2.nd⟩;obtain⟨d,hd,rfl⟩:=Ll.1 hm;exact wD d hd hr;rcases get hi with⟨_,k⟩|⟨_,k⟩;·injection k with k1 k2 k3;subst k3;cases hD
  rcases get EW with⟨_,k'⟩|⟨_,k'⟩;·injection k' with k1 k2 k3;subst k3;exact λh=>by cases h
  exact d2.sep i i' cs vs gm cs' CJ gm' k k' BK D hD
 exact hx.perm (by simp only[Cx.AX];exact Ky.symm)
theorem AJ.eF{o:Obj}(h:AJ (G.AX l o) C mu E H a w)(h0:0<H.length)(V2:∀(i:Nat)(I:Inv),H[i]?≠some (HO.inv I)):
  AJ G C mu E (H.set 0 (.inv (Ha l o))) a w:=by
 obtain⟨ms,d1,d2⟩:=h.defers;have hx:B2 C w G.fresh mu H ((l,o)::(ms.map (λD=>(D,Gj))++G.Lf)):=d2.perm (by simp only[Cx.AX];exact Ky);have hm:=hx.marks (l,o) (by simp);have get:∀{i:Nat}{y:HO},(H.set 0 (.inv (Ha l o)))[i]?=some y->(i=0/\y=.inv (Ha l o))\/(i≠0/\H[i]?=some y):=λ{i y} hi=>by by_cases e:0=i;subst e;rw[Ap h0]at hi;simp only[A4.injEq]at hi;exact .inl ⟨rfl,hi.symm⟩;rw[Am e]at hi;exact .inr ⟨λk=>e k.symm,hi⟩
 have O2:=hx.nd;rw[Bc,N3]at O2;refine⟨h.c0,h.c1,h.lt,⟨λi g hi=>by simpa using h.heap.JX i g hi,h.heap.fresh,h.heap.sep,λi hi=>?_,λi cs hi=>?_,λi e sz es hi=>?_,λi ks vs hi=>?_⟩,h.env,⟨ms,d1,?_⟩,⟨h.Ax.os,h.Ax.tape,h.Ax.output,h.Ax.size,h.Ax.block⟩,by have:=h.Dv.1;simpa[Cx.AX]using this,h.Dv.2⟩
 ·rcases get hi with⟨_,k⟩|⟨_,k⟩;·cases k
  exact h.heap.dead i k
 ·rcases get hi with⟨_,k⟩|⟨_,k⟩;·cases k
  exact h.heap.Dp i cs k
 ·rcases get hi with⟨_,k⟩|⟨_,k⟩;·cases k
  exact h.heap.Dk i e sz es k
 ·rcases get hi with⟨_,k⟩|⟨_,k⟩;·cases k
  exact h.heap.maps i ks vs k
 refine⟨λi cs vs gm hi=>?_,λi I hi=>?_,λd hd=>hx.marks d (LL _ hd),O2.2,λi i' cs vs gm cs' CJ gm' hi EW BK D hD=>?_⟩
 ·rcases get hi with⟨_,k⟩|⟨_,k⟩;·cases k
  obtain⟨g1,g2,g3⟩:=hx.BG i cs vs gm k;exact⟨g1,g2,λD hD=>⟨(g3 D hD).1,λgH=>(g3 D hD).2 (by rw[Bc];exact LL _ gH)⟩⟩
 ·rcases get hi with⟨rfl,k⟩|⟨_,k⟩;·simp only[HO.inv.injEq]at k;subst k;refine⟨rfl,λb=>b=l,λb=>b=l,⟨λb hb=>by subst hb;exact hm.fr,Hs _,λ_ _ _=>.inl trivial,λ_ _ _ _ _=>Hs _,λb hb=>hb,λb hb=>by subst hb;exact(Ao.1 hm.at_).1,λb hb=>by subst hb;exact hm.own,λb o' hb hc=>by subst hb;exact hm.HT o' hc⟩,⟨⟨rfl,rfl⟩,hm.at_⟩,λD hD hb=>?_,λj cs vs gm hj D hD hb=>?_⟩;exact O2.1 (by rw[<-hb];exact Ll.2 ⟨D,hD,rfl⟩);rcases get hj with⟨_,k⟩|⟨_,k⟩;cases k;refine((hx.BG j cs vs gm k).2.2 D hD).2 ?_;rw[hb];simp
  exact absurd k (V2 i I)
 rcases get hi with⟨_,k⟩|⟨_,k⟩;cases k;rcases get EW with⟨_,k'⟩|⟨_,k'⟩;cases k';exact hx.sep i i' cs vs gm cs' CJ gm' k k' BK D hD
theorem IL{H:List HO}{g:Nat}{vs:List Value}(h:DD H=true)(hg:H[g]?=some (.ghost E0 vs [])):nT H g E0 vs:=⟨hg,EH h,Iu h⟩
def XS(g0:Nat)(E0:List AV)(vs:List Value)(gn:Nat)(ws:List Value)(H1:List HO)(Q:List AV->Prop):Prop:=
 (DD H1=true/\H1[0]?=some (.ghost [] [] [])/\H1[g0]?=some (.ghost E0 vs []))/\∃E',H1[gn]?=some (.ghost E' ws [])/\Q E'
def Jd(fn:FuncId)(vs:List Value)(ps:Array Tmp)(assign body:Code)(D:Nat):Obj:=.loop (D3 fn vs.toArray ps assign body D .ready none)
def Zs(fn:FuncId)(vs:List Value)(ps:Array Tmp)(assign body:Code)(D:Nat):Obj:=.loop (D3 fn vs.toArray ps assign body D .busy none)
theorem Zf3{fn:FuncId}{U7:Func}{vs:List Value}{ps:Array Tmp}{assign body:Code}{D g0:Nat}{P1:List AV}{us:List Value}{K:AV->KK}{X:XX}(Ai:AJ G C mu E H a w)
  (BR:H[0]?=some (.inv (Ha l (Jd fn vs ps assign body D)))) (ZF:H[g0]?=some (.ghost E0 vs [])) (V1:DD (H.set 0 (.ghost [] [] []))=true) (hfd:G.P.funcs[fn]?=some U7) (hlen:P1.length=ps.size) (hc:AI P1=true) (hr:Ac C w P1 mu us)
  (OG:∀ws,Aa G.P assign (LI ps.toList P1 E0) (H.set 0 (.ghost [] [] [])++[.ghost E ws []]) (λE2 H2=>Aa G.P body E2 H2
   (λ_ H'=>∃H1,((CR H1 H1 True/\H.length<H1.length)/\XS g0 E0 vs H.length ws H1 λE'=>K (.lit true) E' (H1.set 0 (.inv (Ha l (Jd fn vs ps assign body D)))))/\Kr H' H1 True)
   (λe _ H'=>okX e/\∃x,e=.panic x/\XS g0 E0 vs H.length ws H' λE'=>X (.panic x) E' (H'.set 0 (.inv (Ha l (Zs fn vs ps assign body D)))))) (λ_ _ _=>False)) (n:Nat):
  YieldAt (fw none) n G.P l us.toArray w λe w'=>(∃r u E' H' C' mu',e=.returned u/\K r E' H'/\AJ G C' mu' E' H' a w'/\Aj C' w' r mu' u)\/∃x u E' H' C' mu',e=.panicked [{v:=u,recovered:=false}]/\X (.panic x) E' H'/\AJ G C' mu' E' H' a w'/\Aj C' w' x mu' u:=by
 obtain⟨ht,hfr,AA,V2⟩:=Ai.zI BR;obtain⟨ms,d1,d2⟩:=ht.defers;have hg0:g0≠0:=λe=>by subst e;rw[BR]at ZF;cases ZF
 obtain⟨hp1,vN⟩:=ht.QK d2 ht.env V2;have Zku:(H.set 0 (.ghost [] [] [])++[HO.ghost E a.tmps.toList []])[g0]?=some (.ghost E0 vs []):=by have hl:=(As.1 ZF).1;rw[List.getElem?_append_left (by simpa using hl),Am hg0.symm];exact ZF
 have Zm4:DD (H.set 0 (.ghost [] [] [])++[HO.ghost E a.tmps.toList []])=true:=by
  generalize H.set 0 (.ghost [] [] [])=Z at V1;clear hp1 vN Zku d2 ht V2
  induction Z with
  |nil=>rfl
  |cons y r ih=>
   cases y with
   |ghost c v m=>cases m<;>simp_all[DD]
   |inv _=>cases V1
   |_=>simp_all[DD]
 have V4:∀d∈DM G ms,CS C w G.fresh mu d:=λd hd=>d2.marks d (by simp only[DM,Cx.AX,HS,C0]at hd ⊢;exact hd.imp id .inr);have hml:CS C w G.fresh mu (l,Jd fn vs ps assign body D):=d2.marks _ (by simp[Cx.AX])
 have hJ:Zy G l (Jd fn vs ps assign body D) ms (H.set 0 (.ghost [] [] [])++[.ghost E a.tmps.toList []]) (λb=>(∃i g,mu i=some g/\g.Az=some b)\/b=l) (λb=>Rel (G.AX l (Jd fn vs ps assign body D)) C mu (DM (G.AX l (Jd fn vs ps assign body D)) ms) b) w:=
  ⟨C,mu,⟨ht.c0,ht.c1,ht.lt,hp1,by simp[Ac],⟨ms,rfl,vN⟩,ht.Ax,by have:=ht.Dv.1;simp at this⊢;omega,ht.Dv.2⟩,vN,λb=>Iff.rfl,λb hb=>hb⟩
 have hy:=uE (G:=G) (P:=G.P) (l:=l) (fn:=fn) (n:=n) (C1:=C) (n1:=w.heap.size) (C':=C) (Hx:=λe H'=>∃x,e=.panic x/\XS g0 E0 vs H.length a.tmps.toList H' λE'=>X (.panic x) E' (H'.set 0 (.inv (Ha l (Zs fn vs ps assign body D)))))
  hfd (tmps:=vs.toArray) (g:=g0) (E:=E0) rfl (by simpa using IL Zm4 Zku) (λH1=>(CR H1 H1 True/\H.length<H1.length)/\XS g0 E0 vs H.length a.tmps.toList H1 λE'=>K (.lit true) E' (H1.set 0 (.inv (Ha l (Jd fn vs ps assign body D)))))
  (λH1 h=>⟨by simpa using IL h.2.1.1 h.2.1.2.2,h.1.1,by have:=Ai.Dv.1;have:=h.1.2;omega⟩) hlen
  ((OG a.tmps.toList).mono (λE2 H2 h=>h.mono (λ_ _ h=>h) (λe E' H' ⟨k1,x,k2,k3⟩=>⟨k1,⟨x,k2,k3⟩,by simpa using IL k3.1.1 k3.1.2.2⟩)) (λ_ _ _ h=>h))
  hfr AA (λd hd=>(Ao.1 (V4 d hd).at_).1) Ai.c1 Ai.Ax.size hml.HT (λd hd=>(V4 d hd).HT) Ai.lt (λb o h=>.inl h) (A5 _)
  (λb o hb=>by
   rcases hb with⟨i,g,hi,hg⟩|rfl
   ·exact(Ai.heap.fresh i g b hi hg).2.2 o
   ·exact hml.HT o) hJ (BD P1 hc hr)
 obtain⟨fn',tm',as',bo',y1,y2⟩:=hy;refine⟨fn',tm',as',bo',y1,y2.mono λe w' ⟨EU,D9,_,_,_,_,_,q6⟩=>?_⟩;have back:∀{o:Obj}{H1:List HO}{E':List AV},Zy G l o ms H1 EU D9 w'->DD H1=true->H1[0]?=some (.ghost [] [] [])->H1[H.length]?=some (.ghost E' a.tmps.toList [])->∃C4 Fo,AJ G C4 Fo E' (H1.set 0 (.inv (Ha l o))) a w':=λ{o H1 E'} hJ hp h0 hn=>by obtain⟨C4,Fo,BU,vZ,_,_⟩:=hJ;have hE:=(vZ.BG _ _ _ _ hn).1;have Xl:AJ (G.AX l o) C4 Fo E' H1 a w':=BU.frame hE d1;exact⟨C4,Fo,Xl.eF (As.1 h0).1 (EH hp)⟩
 rcases q6 with⟨rfl,H1,⟨_,⟨b1,b2,b3⟩,E',b4,b5⟩,Y8⟩|⟨rfl,e',c',H',j1,⟨x,rfl,_⟩,_⟩|⟨u,rfl,x,H',hx0,⟨x',Oe,⟨b1,b2,b3⟩,E',b4,b5⟩,_,Y8⟩;obtain⟨C4,Fo,hs⟩:=back Y8 b1 b2 b4;exact .inl ⟨_,_,E',_,C4,Fo,rfl,b5,hs,by unfold Aj;rfl⟩;cases j1;cases Oe;obtain⟨C4,Fo,hs⟩:=back Y8 b1 b2 b4;exact .inr ⟨_,u,E',_,C4,Fo,rfl,b5,hs,hx0 _ _ _⟩
def Zf4(P:Program)(E:List AV)(H:List HO)(op:Op)(K:AV->KK)(X:XX):Prop:=
 match op with
 |.call c=>(match c.callee with
  |.value f=>∃(l:Nat) (fn:FuncId) (U7:Func) (vs:List Value) (ps:Array Tmp) (assign body:Code) (D g0:Nat) (E0:List AV),BL E f=.raw (.func (.yield l) #[] #[])/\H[0]?=some (.inv (Ha l (Jd fn vs ps assign body D)))/\H[g0]?=some (.ghost E0 vs [])/\
    DD (H.set 0 (.ghost [] [] []))=true/\P.funcs[fn]?=some U7/\GZ (DF E) c.args.toList λP1=>(P1.length=ps.size/\AI P1=true)/\
    ∀ws,Aa P assign (LI ps.toList P1 E0) (H.set 0 (.ghost [] [] [])++[.ghost E ws []]) (λE2 H2=>Aa P body E2 H2
     (λ_ H'=>∃H1,((CR H1 H1 True/\H.length<H1.length)/\XS g0 E0 vs H.length ws H1 λE'=>K (.lit true) E' (H1.set 0 (.inv (Ha l (Jd fn vs ps assign body D)))))/\Kr H' H1 True)
     (λe _ H'=>okX e/\∃x,e=.panic x/\XS g0 E0 vs H.length ws H' λE'=>X (.panic x) E' (H'.set 0 (.inv (Ha l (Zs fn vs ps assign body D)))))) (λ_ _ _=>False)
  |_=>False)
 |_=>False
theorem rJ{K:AV->KK}{X:XX}{Kn:KK}{r:Option Nat}(h:Zf4 G.P E H o.op K X)(Ai:AJ G C mu E H a w)(hn:∀a w,I9 G o K a w->next a w):
  o.wpIn (fw r) n G.P a w next (L6 G Kn X):=by
 unfold Zf4 at h;cases ho:o.op<;>rw[ho]at h<;>first|exact h.elim|skip
 case call c=>
  simp only at h;split at h;case h_2=>exact h.elim
  rename_i f hc;obtain⟨l,fn,U7,vs,ps,assign,body,D,g0,E0,dP,BR,ZF,V1,hfd,h⟩:=h;rw[Di (DF E) (BL E) (Ae E)]at h;have hf:=Bv Ai.env f;rw[dP]at hf;have vT:a.eval f=.func (.yield l) #[] #[]:=by unfold Aj at hf;exact hf
  have hy:=Zf3 Ai BR ZF V1 hfd h.1.1 h.1.2 (Li Ai.env c.args.toList) h.2 (n-1);refine⟨λ_ _=>trivial,?_⟩;rw[Oper.semAt_eq _ _ _ (λc hc=>by rw[ho]at hc;cases hc)];obtain⟨fn',tm',as',bo',y1,y2⟩:=hy;have BQ:(execOp a.eval o).run G.P w=.ok (.round l fn' tm' as' bo') w:=by obtain⟨Gs,args,N0⟩:=c;simp only at hc;subst hc;simp only[<-Array.toList_map]at y1;simp[execOp,ho,resolve,invoke,vT,Deferred.ofValue,y1]
  rw[BQ];refine⟨λh=>(by cases h),y2.mono λe w' hp=>?_⟩;rcases hp with⟨r,u,E',H',C',mu',he,k1,k2,k3⟩|⟨x,u,E',H',C',mu',he,k1,k2,k3⟩;subst he;exact hn _ _ ⟨r,E',H',k1,C',mu',k2.frame (BF k2.env o.dst k3) (put_defers _ _ _)⟩;subst he;exact⟨x,u,E',H',C',mu',rfl,k1,k2,k3⟩
def WD(P:Program)(T:List TY)(ops:List Oper)(sp:List Nat):Nat->List Oper->List AV->List HO->KK->XX->Prop
 |_,[],E,H,K,_=>K E H
 |n,o::r,E,H,K,X=>gdK ops E o.guard
   (λE=>match ZdX n sp with
    |true=>Zf4 P E H o.op (λv E' H'=>BV E' o.dst v λGp=>WD P T ops sp (n+1) r Gp H' K X) X
    |false=>TX none P T E H o.op (λv E' H'=>BV E' o.dst v λGp=>WD P T ops sp (n+1) r Gp H' K X) X)
   (λE=>BV E o.dst (.raw undef) λE'=>WD P T ops sp (n+1) r E' H K X)
theorem Lc(hT:CY G.P T){r:Option Nat}{n:Nat}{ops:Array Oper}{sp:List Nat}{K:KK}{X:XX}:∀(l:List Oper)(k:Nat){C:Af}{mu:Mu}{E:List AV}{H:List HO}{a:Act}{w:World},WD G.P T ops.toList sp k l E H K X->AJ G C mu E H a w->wpListIn (fw r) n G.P ops (L6 G K X) l a w
 |[],k,_,_,_,_,_,_,h,Ai=>⟨_,_,h,_,_,Ai⟩
 |o::l,k,C,mu,E,H,a,w,h,Ai=>by
  unfold WD at h;unfold wpListIn;rcases GK rfl Ai h with⟨hw,E',h1,h2⟩|⟨hw,E',h1,h2⟩
  ·rw[if_pos hw];split at h1;·refine rJ h1 h2 λa' w' hp=>?_;obtain⟨x,Gp,H',h3,C',mu',h4⟩:=hp;rw[AF]at h3;exact Lc hT l (k+1) h3 h4
   refine Ex hT h1 h2 λa' w' hp=>?_;obtain⟨x,Gp,H',h3,C',mu',h4⟩:=hp;rw[AF]at h3;exact Lc hT l (k+1) h3 h4
  rw[if_neg (by simp[hw])];rw[AF]at h1;exact⟨λ_ _=>trivial,Lc hT l (k+1) h1 (h2.frame (BF h2.env o.dst (by unfold Aj;rfl)) (put_defers _ _ _))⟩
theorem Aa.Zgn(sp:List Nat)(hT:CY P T){ops:Array Oper}{K:KK}{X:XX}(h:WD P T ops.toList sp 0 ops.toList E H K X):Aa P (.region id ops false) E H K X:=
 ⟨λn G a w hP Ai=>by
  obtain⟨C,mu,Ai⟩:=Ai
  subst hP
  exact Vy (wpIn_region_list (Lc hT _ 0 h Ai))⟩
def eQ(l:Nat)(o:Obj)(g0:Nat)(E0:List AV)(vs:List Value)(H':List HO)(Q:List HO->Prop):Prop:=
 H'[0]?=some (.inv (Ha l o))/\H'[g0]?=some (.ghost E0 vs [])/\DD (H'.set 0 (.ghost [] [] []))=true/\Q (H'.set 0 (.ghost [] [] []))
theorem Aa.aW{g:Operand}{ps:Array Tmp}{assign body c:Code}{K:KK}{X:XX}{f:FuncId}{U7:Func}{cap:List AV}(hE:rH E E0)(hg:BL E g=.fn f cap)(hf:P.funcs[f]?=some U7)(hb:U7.body=some c)(lA:Cp P f=true)(Ik:U7.results=#[])
  (h0:0<H.length) (hH:DD H=true)
  (h:∀(l:Nat)(fn:FuncId)(fd:Func)(vs:List Value)(D:Nat),P.funcs[fn]?=some fd->EN U7.ntmps (.raw (.func (.yield l) #[] #[])::cap) λE1=>
   Aa P c E1 (H.set 0 (.inv (Ha l (Jd fn vs ps assign body D)))++[.ghost E0 vs []]) (λ_ H'=>eQ l (Jd fn vs ps assign body D) H.length E0 vs H' λH2=>K E0 H2)
    (λe _ H'=>match e with|.ret=>eQ l (Jd fn vs ps assign body D) H.length E0 vs H' λH2=>K E0 H2|.panic x=>NZ x=true/\eQ l (Zs fn vs ps assign body D) H.length E0 vs H' λH2=>X (.panic x) E0 H2|_=>False)):
  Aa P (.rangeFunc g ps assign body) E H K X:=by
 refine⟨λn G a w hP Ai=>?_⟩;obtain⟨C,mu,Ai⟩:=Ai;obtain⟨ms,hd,hx⟩:=Ai.defers;subst hP;refine NX λfn _ vT=>?_;obtain⟨ZkX,Zhe⟩:=JW.1 vT;obtain⟨l,D,new,W1,he,hl0,Qm,Fc,Xj⟩:=eP (P:=G.P) Ai hx (EH hH) (Iu hH) fn a.tmps ps assign body;obtain⟨vs,EA⟩:∃vs,vs=a.tmps.toList:=⟨_,rfl⟩;have Zj1:Obj.loop (D3 fn a.tmps ps assign body D .ready none)=Jd fn vs ps assign body D:=by unfold Jd;rw[EA]
 rw[Zj1]at Xj;have hE0:Ac C W1 E0 mu vs:=by rw[EA];exact Qj hE Fc.env
 have hgv:=Bv Fc.env g;rw[hg]at hgv;unfold Aj at hgv;obtain⟨us,hgv,Kv⟩:=hgv;have dM:U7.name ≠ "runtime.NumGoroutine":=by unfold Cp at lA;rw[hf]at lA;simp only[A1]at lA;simpa using lA.2
 have h:=h l fn ZkX vs D Zhe;unfold EN at h;rw[Ev,Dl]at h;let G':Cx:={G with ds:=[],rd:=none,Lf:=DM G (new++ms),MK:=by intro l h;cases h}
 have Gr:AJ (G'.AX l (Jd fn vs ps assign body D)) C mu [] H {tmps:=#[],defers:=[]} W1:=
  ⟨Fc.c0,Fc.c1,Fc.lt,Fc.heap,by simp[Ac],⟨[],rfl,Xj⟩,⟨Fc.Ax.os,Fc.Ax.tape,Fc.Ax.output,Fc.Ax.size,Fc.Ax.block⟩,Fc.Dv⟩
 obtain⟨hp1,vN⟩:=Gr.QK (ms:=[]) Xj hE0 (EH hH);have Znb:∀(i:Nat)(I:Inv),(H++[HO.ghost E0 vs []])[i]?≠some (HO.inv I):=λi I hi=>by rcases EY hi with⟨_,k⟩|⟨_,k⟩;exact EH hH i I k;cases k
 have DW:AJ (G'.AX l (Jd fn vs ps assign body D)) C mu [] (H++[.ghost E0 vs []]) {tmps:=#[],defers:=[]} W1:=
  ⟨Gr.c0,Gr.c1,Gr.lt,hp1,by simp[Ac],⟨[],rfl,vN⟩,Gr.Ax,by have:=Gr.Dv.1;simp at this⊢;omega,Gr.Dv.2⟩
 have BU:=DW.eF (by simp) Znb;rw[List.set_append_left _ _ h0]at BU;have R6:Ac C W1 (AV.raw (.func (.yield l) #[] #[])::cap) mu (Ki (.yield l) #[] #[]::us):=by unfold Ac;exact⟨_,_,rfl,by unfold Aj;rfl,Kv⟩
 have JQ:St G' ((AV.raw (.func (.yield l) #[] #[])::cap)++Bg (U7.ntmps-(AV.raw (.func (.yield l) #[] #[])::cap).length) (.raw undef)) (H.set 0 (.inv (Ha l (Jd fn vs ps assign body D)))++[.ghost E0 vs []])
   {tmps:=(Ki (.yield l) #[] #[]::us).toArray++HB (U7.ntmps-(Ki (.yield l) #[] #[]::us).toArray.size) undef,defers:=[]} W1:=by
  refine⟨C,mu,BU.frame ?_ rfl⟩;have hl:=AM _ R6;have:=Bj R6 (CG (C:=C) (w:=W1) (mu:=mu) (U7.ntmps-(AV.raw (.func (.yield l) #[] #[])::cap).length));simpa[<-hl,AM _ Kv]using this
 -- Zmr zJ call ends in
 have Xt:CallsIn Fence.wide 0 G.P f (Ki (.yield l) #[] #[]::us).toArray W1 λe w3=>
   (∃v,e=.returned v/\∃H4 C4 Fo,eQ l (Jd fn vs ps assign body D) H.length E0 vs H4 (λH2=>K E0 H2)/\AJ G' C4 Fo [] H4 {tmps:=#[],defers:=[]} w3)\/
   ∃x u,e=.panicked [{v:=u,recovered:=false}]/\NZ x=true/\∃H4 C4 Fo,eQ l (Zs fn vs ps assign body D) H.length E0 vs H4 (λH2=>X (.panic x) E0 H2)/\AJ G' C4 Fo [x] H4 {tmps:=#[u],defers:=[]} w3:=by
  refine DE (F:=Fence.wide) (n:=0) hf hb trivial ?_ rfl
  have fin:∀H4 a4 w4,(eQ l (Jd fn vs ps assign body D) H.length E0 vs H4 λH2=>K E0 H2)->(∃E4,St G' E4 H4 a4 w4)->LeavesInM (fw none) 0 G.P U7 a4.tmps (λe w3=>
    (∃v,e=.returned v/\∃H4 C4 Fo,eQ l (Jd fn vs ps assign body D) H.length E0 vs H4 (λH2=>K E0 H2)/\AJ G' C4 Fo [] H4 {tmps:=#[],defers:=[]} w3)\/
    ∃x u,e=.panicked [{v:=u,recovered:=false}]/\NZ x=true/\∃H4 C4 Fo,eQ l (Zs fn vs ps assign body D) H.length E0 vs H4 (λH2=>X (.panic x) E0 H2)/\AJ G' C4 Fo [x] H4 {tmps:=#[u],defers:=[]} w3) a4.defers .returning w4:=by
   rintro H4 a4 w4 hk ⟨E4,C4,Fo,hs⟩;obtain⟨SV,e1,e2⟩:=hs.defers;rw[show a4.defers=SV.map mark by simpa[G']using e1];refine F3 (G:=G') rfl (by simp) SV (a:={tmps:=#[],defers:=SV.map mark}) (tm2:=#[]) rfl (hs.frame (E':=[]) (by simp[Ac]) (by simpa[G']using e1.symm)) e2 λa5 w5 ha5 Xl=>?_;unfold LeavesIn;(have Ic:(results U7 a4.tmps).run G.P w5=.ok (.tuple #[]) w5:=by rw[FX,Ik];simp);obtain⟨ms5,_,e5⟩:=Xl.defers;exact⟨_,Ic,.inl ⟨_,rfl,H4,C4,Fo,hk,Xl.c0,Xl.c1,Xl.lt,Xl.heap,by simp[Ac],⟨[],rfl,B2.less e5⟩,Xl.Ax,Xl.Dv⟩⟩
  refine BX (h.out 0 G' _ W1 rfl JQ) λe4 a4 w4 q=>?_;cases e4 with
  |normal|ret=>obtain⟨E4,H4,k1,k2⟩:=q;exact fin H4 a4 w4 k1 ⟨E4,k2⟩
  |exit id=>obtain⟨E4,H4,k1,k2⟩:=q;exact k1.elim
  |goto t|outgrown=>exact q.elim
  |panic ch=>
   obtain⟨x,v,E4,H4,C4,Fo,rfl,⟨hwf,hk⟩,hs,hv⟩:=q;obtain⟨SV,e1,e2⟩:=hs.defers;show LeavesInM (fw none) 0 G.P U7 a4.tmps _ a4.defers (.panicking [{v,recovered:=false}]) w4;rw[show a4.defers=SV.map mark by simpa[G']using e1];have hs0:AJ G' C4 Fo [x] H4 {tmps:=#[v],defers:=SV.map mark} w4:=hs.frame (by unfold Ac;exact⟨v,[],rfl,hv,by unfold Ac;rfl⟩) (by simpa[G']using e1.symm);refine F3 (G:=G') (tm2:=#[v]) rfl (by simp) SV rfl hs0 e2 λa5 w5 ha5 Xl=>?_;obtain⟨ms5,_,e5⟩:=Xl.defers;exact .inr ⟨x,v,rfl,hwf,H4,C4,Fo,hk,Xl.c0,Xl.c1,Xl.lt,Xl.heap,by have:=Xl.env;rwa [ha5]at this,⟨[],rfl,B2.less e5⟩,Xl.Ax,Xl.Dv⟩
 -- zJ record is taken back
 have back:∀{o:Obj}{E4:List AV}{H4:List HO}{C4:Af}{Fo:Mu}{a4:Act}{w3:World},H4[0]?=some (.inv (Ha l o))->AJ G' C4 Fo E4 H4 a4 w3->a4.defers=[]->
   Zy G l o (new++ms) (H4.set 0 (.ghost [] [] [])) (λb=>(∃i g,Fo i=some g/\g.Az=some b)\/b=l) (λb=>Rel (G.AX l o) C4 Fo (DM (G.AX l o) (new++ms)) b) w3:=λ{o E4 H4 C4 Fo a4 w3} h4 hs hde=>by
  obtain⟨ht,_,_,_⟩:=hs.zI h4;obtain⟨SV,q1,q2⟩:=ht.defers;have q3:B2 C4 w3 G.fresh Fo (H4.set 0 (.ghost [] [] [])) (DM (G.AX l o) (new++ms)):=(B2.less q2).perm (by simp only[DM,Cx.AX];exact Ky.symm);exact⟨C4,Fo,⟨ht.c0,ht.c1,ht.lt,ht.heap,by simp[Ac],⟨new++ms,rfl,q3⟩,⟨ht.Ax.os,ht.Ax.tape,ht.Ax.output,ht.Ax.size,ht.Ax.block⟩,ht.Dv⟩,q3,λb=>Iff.rfl,λb hb=>hb⟩
 have hdl:(Ki (.yield l) #[] #[]::us).toArray=#[Ki (.yield l) #[] #[]]++us.toArray:=by simp
 refine⟨l,new.map mark,W1,{target:=.fn (.func f) us.toArray,args:=#[.func (.yield l) #[] #[]]},W1,f,#[.func (.yield l) #[] #[]]++us.toArray,W1,he,?_,?_,?_,λh=>(by cases h),?_⟩;simp only[resolve,hgv];simp[go_sem];intro f' hf';trivial;simp[invoke,callFunc,hf,dM,hb];refine(callsIn_wide (n:=n-1)).2 ?_;rw[<-hdl];refine((callsIn_wide (n:=0)).1 Xt).mono λe w3 Ks=>?_;have hda:({a with defers:=new.map mark++a.defers}:Act).defers=(new++ms).map mark++G.ds:=by simp[hd]
 have htm:({a with defers:=new.map mark++a.defers}:Act).tmps.toList=vs:=EA.symm;rcases Ks with⟨v,rfl,H4,C4,Fo,⟨k1,k2,k3,k4⟩,hs⟩|⟨x,u,rfl,hwf,H4,C4,Fo,⟨k1,k2,k3,k4⟩,hs⟩
 ·have hJ:=back k1 hs rfl;have hg0:(H4.set 0 (.ghost [] [] []))[H.length]?=some (.ghost E0 vs []):=by rw[Am (by omega)];exact k2
  have O3:w3.heap[l]?=some (.loop (D3 fn a.tmps ps assign body D .ready none)):=by obtain⟨C3,xW,_,hX,_,_⟩:=hJ;rw[Zj1];exact(hX.marks (l,Jd fn vs ps assign body D) (by simp only[DM,Cx.AX,HS,C0];exact .inr (.inl trivial))).at_
  exact⟨none,_,run_endLoop O3 (by simp[D3]),E0,_,k4,MC (g:=H.length) (by rw[htm];exact IL k3 hg0) hJ hda⟩
 have hJ:=back k1 hs rfl;have hg0:(H4.set 0 (.ghost [] [] []))[H.length]?=some (.ghost E0 vs []):=by rw[Am (by omega)];exact k2
 have O3:w3.heap[l]?=some (Zs fn vs ps assign body D):=by obtain⟨C3,xW,_,hX,_,_⟩:=hJ;exact(hX.marks (l,Zs fn vs ps assign body D) (by simp only[DM,Cx.AX,HS,C0];exact .inr (.inl trivial))).at_
 have hS:=MC (o':=Zs fn vs ps assign body D) (g:=H.length) (a:={a with defers:=new.map mark++a.defers}) (by rw[htm];exact IL k3 hg0) hJ hda;rw[Jr O3]at hS;obtain⟨C5,mu5,hS⟩:=hS;have F4:Aj C4 w3 x Fo u:=by have:=hs.env;unfold Ac at this;obtain⟨v',CJ,gL,k,_⟩:=this;simp only[List.cons.injEq]at gL;obtain⟨rfl,_⟩:=gL;exact k
 exact⟨x,u,E0,_,C5,mu5,rfl,k4,hS,JZ x hwf F4⟩
end
section
variable {G:Cx}{C:Af}{w w':World}{mu:Mu}{H:List HO}{E:List AV}{a:Act}{T:List TY}{P:Program}{K:KK}{X:XX}
def Zgf(T:List TY)(E:List AV)(H:List HO)(o:Op)(K:AV->KK):Prop:=
 match o with
 |.typeAssert x _ t true=>Dr T t λy=>(match y.k with
  |.int _=>(match BL E x with
   |.iface t' v=>(match L2 t' t with|true=>K (.tuple [v,.lit true]) E H|false=>False)
   |_=>False)
  |_=>False)
 |_=>False
theorem sC(hT:CY G.P T){K:AV->KK}{Kn:KK}{r:Option Nat}(h:Zgf T E H o.op K)(Ai:AJ G C mu E H a w)(hn:∀a w,I9 G o K a w->next a w):
  o.wpIn (fw r) n G.P a w next (L6 G Kn X):=by
 unfold Zgf at h;split at h;case h_2=>exact h.elim
 rename_i x xt t ho;replace h:=Bf.1 h;obtain⟨y,hy,h⟩:=h;obtain⟨i,d,hi,hd,he⟩:=hT.facts hy;split at h;case h_2=>exact h.elim
 rename_i ik hk;have Dx:∃k,d=.int k:=by rw[he]at hk;simp only at hk;cases d<;>first|exact⟨_,rfl⟩|(simp[kindOf]at hk;done)
 obtain⟨k',rfl⟩:=Dx;split at h;case h_2=>exact h.elim
 rename_i t' av hx;split at h;case h_2=>exact h.elim
 rename_i hb;obtain rfl:=GH hb;have hm:=Bv Ai.env x;rw[hx]at hm;unfold Aj at hm;obtain⟨q,hv,hq⟩:=hm;have hr:Aj C w (.tuple [av,.lit true]) mu (.tuple #[q,.bool true]):=by unfold Aj;exact⟨[q,.bool true],rfl,by simp[Ac,hq,Aj]⟩
 exact Dd (λc hc=>by rw[ho]at hc;cases hc) (A8 (X:=X) (Q:=Kn) hn h (by simp[execOp,ho,hv,Instr.typeAssert,underlying,hd]) Ai hr)
def QG(P:Program)(T:List TY)(ops:List Oper)(sp:List Nat):Nat->List Oper->List AV->List HO->KK->XX->Prop
 |_,[],E,H,K,_=>K E H
 |n,o::r,E,H,K,X=>gdK ops E o.guard
   (λE=>match ZdX n sp with
    |true=>Zgf T E H o.op (λv E' H'=>BV E' o.dst v λGp=>QG P T ops sp (n+1) r Gp H' K X)
    |false=>TX none P T E H o.op (λv E' H'=>BV E' o.dst v λGp=>QG P T ops sp (n+1) r Gp H' K X) X)
   (λE=>BV E o.dst (.raw undef) λE'=>QG P T ops sp (n+1) r E' H K X)
theorem Jq(hT:CY G.P T){r:Option Nat}{n:Nat}{ops:Array Oper}{sp:List Nat}{K:KK}{X:XX}:∀(l:List Oper)(k:Nat){C:Af}{mu:Mu}{E:List AV}{H:List HO}{a:Act}{w:World},QG G.P T ops.toList sp k l E H K X->AJ G C mu E H a w->wpListIn (fw r) n G.P ops (L6 G K X) l a w
 |[],k,_,_,_,_,_,_,h,Ai=>⟨_,_,h,_,_,Ai⟩
 |o::l,k,C,mu,E,H,a,w,h,Ai=>by
  unfold QG at h;unfold wpListIn;rcases GK rfl Ai h with⟨hw,E',h1,h2⟩|⟨hw,E',h1,h2⟩
  ·rw[if_pos hw];split at h1;·refine sC hT h1 h2 λa' w' hp=>?_;obtain⟨x,Gp,H',h3,C',mu',h4⟩:=hp;rw[AF]at h3;exact Jq hT l (k+1) h3 h4
   refine Ex hT h1 h2 λa' w' hp=>?_;obtain⟨x,Gp,H',h3,C',mu',h4⟩:=hp;rw[AF]at h3;exact Jq hT l (k+1) h3 h4
  rw[if_neg (by simp[hw])];rw[AF]at h1;exact⟨λ_ _=>trivial,Jq hT l (k+1) h1 (h2.frame (BF h2.env o.dst (by unfold Aj;rfl)) (put_defers _ _ _))⟩
theorem Aa.Zdu(sp:List Nat)(hT:CY P T){ops:Array Oper}(h:QG P T ops.toList sp 0 ops.toList E H K X):Aa P (.region id ops false) E H K X:=
 ⟨λn G a w hP Ai=>by
  obtain⟨C,mu,Ai⟩:=Ai
  subst hP
  exact Vy (wpIn_region_list (Jq hT _ 0 h Ai))⟩
end
section
variable {G:Cx}{C:Af}{w:World}{mu:Mu}{H:List HO}{E:List AV}{a:Act}{P:Program}{K:KK}{X:XX}
theorem AJ.ZjH(h:AJ G C mu E H a w)(hg:H[0]?=some (.ghost [] [] []))(hE:AR (H.set 0 .dead) E=true)(hO:CR (H.set 0 .dead) (H.set 0 .dead) True)(hp:∀b,0<G.np->¬G.Dv 0 b):
  AJ G C (λl=>if l=0 then none else mu l) E (H.set 0 .dead) a w:=by
 obtain⟨_,o1,o2,o3⟩:=E6 hO;have h0:0<H.length:=(As.1 hg).1;have hs:∀{l:Nat}{g:GO},(if l=0 then none else mu l)=some g->l≠0/\mu l=some g:=λ{l g} hl=>by by_cases e:l=0;rw[if_pos e]at hl;cases hl;rw[if_neg e]at hl;exact⟨e,hl⟩
 have get:∀{i:Nat}{y:HO},(H.set 0 .dead)[i]?=some y->(i=0/\y=.dead)\/(i≠0/\H[i]?=some y):=λ{i y} hi=>by by_cases e:0=i;subst e;rw[Ap h0]at hi;simp only[A4.injEq]at hi;exact .inl ⟨rfl,hi.symm⟩;rw[Am e]at hi;exact .inr ⟨λk=>e k.symm,hi⟩
 have hle:AU (mu.only (H.set 0 .dead)) (λl=>if l=0 then none else mu l):=λl g hl=>by obtain⟨k1,k2⟩:=CZ hl;obtain⟨ob,ho,hr⟩:=Cq.1 k1;rcases get ho with⟨_,rfl⟩|⟨BK,_⟩;cases hr;show(if l=0 then none else mu l)=some g;rw[if_neg BK];exact k2
 have wr:∀(xs:List AV){vs:List Value},AR (H.set 0 .dead) xs=true->Ac C w xs mu vs->Ac C w xs (λl=>if l=0 then none else mu l) vs:=λxs vs h1 h2=>Ac.mono (Ext.refl _ _) _ hle (CM xs h1 h2)
 refine⟨h.c0,h.c1,h.lt,⟨λl g hl=>by simpa using h.heap.JX l g (hs hl).2,λl g b hl hg=>h.heap.fresh l g b (hs hl).2 hg,λl g b l' g' hl hg CT R8=>h.heap.sep l g b l' g' (hs hl).2 hg (hs CT).2 R8,λl hl=>?_,λl cs hl=>?_,λl e sz es hl=>?_,λl ks vs hl=>?_⟩,
  wr E hE h.env,?_,h.Ax,by simpa using h.Dv.1,λl b hl V1=>?_⟩
 show(if l=0 then none else mu l)=none;rcases get hl with⟨e,_⟩|⟨e,hl⟩;rw[if_pos e];rw[if_neg e];exact h.heap.dead l hl
 ·rcases get hl with⟨_,e⟩|⟨e,CT⟩;·cases e
  obtain⟨b,cur,e',k1,k2,k3,k4⟩:=h.heap.Dp l cs CT;exact⟨b,cur,e',by show(if l=0 then none else mu l)=_;rw[if_neg e];exact k1,k2,wr cs (o1 l cs hl) k3,k4⟩
 ·rcases get hl with⟨_,e⟩|⟨e',CT⟩;·cases e
  obtain⟨k0,k⟩:=h.heap.Dk l e sz es CT;refine⟨k0,?_⟩;show((if l=0 then none else mu l)=_/\_)\/∃b cap cur,(if l=0 then none else mu l)=_/\_;rw[if_neg e'];exact k.imp id λ⟨b,cap,cur,k1,k2,k3,k4,k5,k6,k7⟩=>⟨b,cap,cur,k1,k2,k3,k4,k5,Ac.mono (Ext.refl _ _) _ (AU.none _) (BD _ (GR (o2 l e sz es hl)) k6),k7⟩
 ·rcases get hl with⟨_,e⟩|⟨e,CT⟩;·cases e
  obtain⟨b,es,cl,k1,k2,k3⟩:=h.heap.maps l ks vs CT;exact⟨b,es,cl,by show(if l=0 then none else mu l)=_;rw[if_neg e];exact k1,k2,k3⟩
 ·obtain⟨ms,d1,d2⟩:=h.defers;have V4:∀{D:Nat×Obj},CS C w G.fresh mu D->CS C w G.fresh (λl=>if l=0 then none else mu l) D:=λk=>⟨k.at_,k.HT,λl g hl=>k.own l g (hs hl).2,k.fr⟩;have up:∀{i:Nat}{y:HO},(H.set 0 .dead)[i]?=some y->y≠.dead->H[i]?=some y:=λ{i y} hi BK=>(get hi).elim (λk=>absurd k.2 BK) (λk=>k.2);refine⟨ms,d1,⟨λl cs vs gm hl=>?_,λl I hl=>?_,λd hd=>V4 (d2.marks d hd),d2.nd,λl l' cs vs gm cs' CJ gm' hl CT=>d2.sep l l' cs vs gm cs' CJ gm' (up hl (by simp)) (up CT (by simp))⟩⟩;·obtain⟨k1,k2,k3⟩:=d2.BG l cs vs gm (up hl (by simp));exact⟨wr cs (o3 l cs vs gm hl) k1,k2,λD hD=>⟨V4 (k3 D hD).1,(k3 D hD).2⟩⟩
  rcases get hl with⟨_,e⟩|⟨e,CT⟩;cases e;exact absurd (d2.Ho l I CT).1 e
 show(if l=0 then none else mu l)=some (.D6 b);by_cases e:l=0;subst e;exact absurd V1 (hp b hl);rw[if_neg e];exact h.Dv.2 l b hl V1
theorem Aa.Zk8{c:Code}(h0:H[0]?=some .dead)(h:Aa P c E H (λE' H'=>H'[0]?=some (.ghost [] [] [])/\AR (H'.set 0 .dead) E'=true/\CR (H'.set 0 .dead) (H'.set 0 .dead) True/\K E' (H'.set 0 .dead)) X):Aa P c E H K X:=by
 refine⟨λn G a w hP Ai=>?_⟩;obtain⟨C,mu,Ai⟩:=Ai;have hm:=Ai.heap.dead 0 h0;refine BX (h.out n G a w hP ⟨C,mu,Ai⟩) λe a' w' hq=>?_;cases e with
 |normal=>
  obtain⟨E',H',⟨k1,k2,k3,k4⟩,C',mu',Dx⟩:=hq;refine⟨E',_,k4,C',_,Dx.ZjH k1 k2 k3 λb hn hb=>?_⟩;have:=Ai.Dv.2 0 b hn hb;rw[hm]at this;cases this
 |exit id|ret|panic c|goto l|outgrown=>exact hq
end
section
variable {G:Cx}{C:Af}{w w':World}{mu:Mu}{H:List HO}{E:List AV}{a:Act}{T:List TY}{P:Program}
def TM(P:Program):Op->Bool
 |.call c=>(match c.callee with|.value (.func i)=>Cp P i|_=>false)
 |op=>Gz op
theorem aY(hq:TM P o.op=true){next':Act->World->Prop}{Q Q':Exit->Act->World->Prop}(hn:∀a' w',next a' w'->a'.defers=a.defers->next' a' w')
  (hQ:∀e a' w',Q e a' w'->a'.defers=a.defers->Q' e a' w') (hL:LetsOut Q->False) (h:o.wpIn (fw none) n P a w next Q):o.wpIn (fw none) n P a w next' Q':=by
 by_cases hc:∃c,o.op=.call c
 ·obtain⟨c,ho⟩:=hc;unfold TM at hq;rw[ho]at hq;simp only at hq;split at hq;case h_2=>cases hq
  rename_i i hci;refine⟨h.1,?_⟩;have h2:=h.2;rw[show(fw none).round=none from rfl,Oper.semAt_none]at h2 ⊢
  have hr:(execOp a.eval o).run P w=.ok (.enter i (c.args.map a.eval)) w:=by
   unfold Cp at hq;cases hf:P.funcs[i]? with
   |none=>rw[hf]at hq;cases hq
   |some fn=>
    rw[hf]at hq;simp only[A1]at hq;obtain⟨b,hb⟩:=JW.1 hq.1;(have dM:fn.name ≠ "runtime.NumGoroutine":=by simpa using hq.2);have lC:a.eval (.func i)=.func (.func i) #[] #[]:=rfl;simp[execOp,ho,resolve,hci,lC,Deferred.ofValue,invoke,callFunc,hf,dM,hb]
  rw[hr]at h2 ⊢;simp only[Oper.uponIn_enter]at h2 ⊢;refine⟨h2.1,h2.2.mono λe w2 k=>?_⟩;cases e with
  |returned v=>exact hn _ _ k (put_defers _ _ _)
  |panicked ch=>exact hQ _ _ _ k rfl
  |outgrown=>exact(hL k).elim
 refine quiet_mono ?_ hn hQ h;unfold TM at hq;cases ho:o.op<;>rw[ho]at hq<;>first|exact hq|exact absurd ⟨_,ho⟩ hc
theorem KV{n:Nat}{ops:Array Oper}{Q:Exit->Act->World->Prop}{d:List Deferred}(hL:LetsOut Q->False):∀(l:List Oper){a:Act}{w:World},(l.all λo=>TM P o.op)=true->a.defers=d->wpListIn (fw none) n P ops Q l a w->wpListIn (fw none) n P ops (λe a w=>Q e a w/\a.defers=d) l a w
 |[],a,w,_,hd,h=>⟨h,hd⟩
 |o::l,a,w,hq,hd,h=>by
  simp only[List.all_cons,A1]at hq;unfold wpListIn at h⊢;split at h;·rename_i hw;rw[if_pos hw];exact aY hq.1 (λa' w' k e=>KV hL l hq.2 (e.trans hd) k) (λe a' w' k e'=>⟨k,e'.trans hd⟩) hL h
  rename_i hw;rw[if_neg hw];exact⟨h.1,KV hL l hq.2 ((put_defers _ _ _).trans hd) h.2⟩
theorem Nb.ZmB{ops:Array Oper}{K:KK}{X:XX}(hT:CY P T)(hq:(ops.toList.all λo=>TM P o.op)=true)(h:TI P T ops.toList ops.toList E H K X):Nb P (.region id ops false) E H K X:=by
 refine⟨λn G a w d hP MK Ai hd=>?_⟩;obtain⟨C,mu,Ai⟩:=Ai;subst hP;exact wpIn_region_list (KV (λ⟨_,_,h⟩=>h) _ hq hd (Hg hT _ h Ai))
end
end Go.Av