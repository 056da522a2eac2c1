/- AV: abstract values. -/
import Derived.WalkKit
import Derived.MapKept
import Derived.RangeFuncRecord
set_option linter.unusedVariables false
set_option maxRecDepth 100000
set_option linter.unusedSectionVars false
set_option linter.unusedSimpArgs false
open Nat renaming eq_of_beq_eq_true → Am, le_of_ble_eq_true → As, add_mul → A5, beq → A6, mul_le_mul_right → A9, ble → D0, ne_of_beq_eq_false → E4, zero_add → Fo, add_zero → Gp, le_trans → HS, min_eq_left → H2, le_refl → Kw, le_mul_of_pos_right → L4, add_assoc → OG, add_left_comm → OL, add_comm → O6, mul_eq_zero → Q6, mod_lt → R7
open Option renaming some → Ao, map_some → Bg, bind_none → Pl, bind_some → PU
open Bool renaming and_eq_true → Ap, and_true → L3, eq_iff_iff → Qm, true_and → SV
open List renaming getElem?_eq_some_iff → AZ, getElem?_set_ne → A0, length_append → A1, replicate → A2, getElem?_map → A3, length_take → A4, mem_of_mem_take → BU, getElem?_eq_getElem → Cc, mem_append → CL, length_drop → C1, size_toArray → C3, getElem?_set_self → Dx, eq_of_mem_replicate → DP, mem_of_mem_drop → DW, map_cons → EU, length_cons → E0, getElem_cons_succ → E2, drop_eq_nil_of_le → E3, getElem?_take → Fc, length_replicate → GH, ext_getElem? → G0, drop_eq_getElem_cons → G2, mem_map → Hp, length_nil → H0, take_of_length_le → Ik, take_left → It, getElem?_eq_none → Ix, take_append_drop → IW, eq_nil_of_length_eq_zero → JQ, getElem_mem → JW, nil_append → Kt, length_map → Ky, take_set_of_le → KO, flatMap_append → K0, getElem?_drop → LJ, drop_drop → LL, getElem?_eq_none_iff → LM, mem_or_eq_of_mem_set → LP, getElem_take → L0, getElem_drop → L1, take_add_one → L2, getElem_map → MM, drop_append → M1, map_nil → M3, append_nil → Np, getElem?_append → NB, mem_of_getElem? → NU, replicate_succ → N2, drop_set_of_lt → N3, foldl_toArray' → N4, mem_singleton → Of, cons_append → Pg, take_append → PW, map_append → P0, take_left' → Qx, length_set → QS, drop_take → R2, take_take → R6, all_cons → SY, getD → UH
open Go.Result renaming andThen_ok → Bb
open Go.Builtin renaming zeroCells → Bc, append_ → C4, firstCells → Ib, len_ → IV, lenOf → Kj, clear_ → LQ, min_ → UJ, max_ → UK
open Go.Sem renaming run_bind → Be, run_pure → Hx
open Go.World renaming putObj_heap_other → C5
open Go.Op renaming equalIn → D7, stringOp → Ip, intCmp → M5, intArith → N1, intBits → OI, bytesLess → O3, unary → PX, eqFields → Qk, equal → R9
open Array renaming toList_map → D9, range → EV, getElem?_modify → Gr, toList_setIfInBounds → G1, length_toList → G8, toArray_toList → Ki, getElem?_eq_some_iff → K2, toList_inj → L5, getElem?_toList → Nz, zipIdx_toArray → NV, toList_push → O2
open Go.IntKind renaming signed → E1, bits → Hs, min → Kn, max → Ks, wrap → UB, i64 → UL
open Go.Program renaming cellsOf → M4, bytesOf → RR, built → Ts
open Int renaming tmod_nonneg → P1
namespace Go.Av
theorem Yaa{P:Prop}(e:P:=by
 unfold JB at h;obtain⟨h3,h4,h5⟩:=Ht r h;refine⟨λi cs hi=>?_,λi cs vs ms hi=>?_,h5⟩
 ·cases i with
  |zero=>simp at hi
  |succ i=>exact h3 i cs (by simpa using hi)
 cases i with
 |zero=>simp at hi
 |succ i=>exact h4 i cs vs ms (by simpa using hi)):P:=e
theorem Yab{P:Prop}(e:P:=by simp only[Fb]at hle;(obtain rfl:n=0:=by omega);(obtain rfl:p=0:=by omega);obtain⟨a,b,⟨⟨h0,h1,h2,_⟩,h⟩,BQ⟩:=Hf (P:=P) (isS:=true) (cap:=0) hl CT hh hh' h;have BQ:=BQ h0 h1 h2;simp at h2;(obtain rfl:b=0:=by omega);(obtain rfl:a=0:=by omega);refine⟨_,.slice none 0 0,h,by unfold Aj;exact⟨_,hm,by simp,UM,by simp[DJ]⟩,?_⟩;have BQ:(Instr.sliceBounds true 0 0 ul uh none).run P w=.ok (0,0,0) w:=BQ;simp[Instr.sliceAt,Instr.slice,DJ,run_underlying hu,BQ,run_sizeOf hs Fw]):P:=e
theorem Yac{P:Prop}(e:P:=by exact⟨λh=>h,λcs h=>⟨cs,h,λ_ h=>h⟩,λ_ _ _ h=>h,λcs _ _ h=>⟨cs,h,λ_ h=>h⟩,λ_ h=>h⟩):P:=e
theorem Yad{P:Prop}(e:P:=by
 rcases Hq.free with hf|hf
 ·cases hm:mu n with
  |none=>rfl
  |some x=>exact absurd (h.heap.JX _ _ hm) (by have:=LM.1 hf;omega)
 exact h.heap.dead n hf):P:=e
end Go.Av
namespace Go.Av
inductive AV where
 |any
 |int (k:IntKind) (n:Int)
 |bool (b:Bool)
 |lit (b:Bool)
 |str (l:List UInt8)
 |sl (sz:Nat) (es:List AV)
 |at_ (cs:List AV)
 |fn (f:FuncId) (cap:List AV)
 |mv (f:FuncId) (fs:List AV)
 |iface (t:TypeId) (x:AV)
 |agg (cs:List AV)
 |tuple (vs:List AV)
 |raw (v:Value)
 |ptr (l o:Nat)
 |el (l sz i o:Nat)
 |own (l sz lo n:Nat)
 |mp (ks vs:List AV)
 |om (l:Nat)
instance:Inhabited AV:=⟨.any⟩
inductive GO where
 |D6 (b:Nat)
 |arr (v:Value)
def GO.Az:GO->Option Nat
 |.D6 b=>some b
 |.arr (.slice (some a) _ _)=>some a.block
 |.arr _=>none
abbrev Mu:=Nat->Option GO
def Mu.none:Mu:=λ_=>Option.none
abbrev Af:=Nat->Nat->Prop
def IU(k:IntKind)(n:Int):Prop:=k.min<=n/\n<=k.max
def Cl(C:Af)(w:World)(b o:Nat)(v:Value):Prop:=C b o/\w.cell? ⟨b,o,none⟩=some v
def Fb:Value->Nat
 |.slice (some _) n _=>n
 |_=>0
def Qf:Value->Nat
 |.slice (some _) _ c=>c
 |_=>0
def DJ(x:Value)(sz lo n:Nat):Value:=
 match x with
 |.slice (some a) _ cap=>.slice (some ⟨a.block,a.off+lo*sz,none⟩) n (cap-lo)
 |_=>.slice none 0 0
def Ja(es:List MapEntry)(clock:Nat):Prop:=(∀x∈es,x.born<clock)/\(es.map (·.born)).Nodup
theorem Ja.nil(clock:Nat):Ja [] clock:=⟨by simp,by simp⟩
theorem Ja.push{es:List MapEntry}{clock:Nat}(h:Ja es clock)(key val:Value):Ja (es++[{key,val,born:=clock}]) (clock+1):=by
 obtain⟨h1,h2⟩:=h;refine⟨λx hx=>?_,?_⟩
 ·rcases CL.1 hx with hx|hx;·exact Nat.lt_succ_of_lt (h1 x hx)
  rw[Of.1 hx];exact Nat.lt_succ_self _
 rw[P0];refine List.nodup_append.2 ⟨h2,by simp,λa ha b hb=>?_⟩;obtain⟨x,hx,rfl⟩:=Hp.1 ha;simp only[EU,M3,Of]at hb;subst hb;exact Nat.ne_of_lt (h1 x hx)
theorem Ja.of_map{es es':List MapEntry}{clock:Nat}(h:Ja es clock)(he:es'.map (·.born)=es.map (·.born)):Ja es' clock:=by
 obtain⟨h1,h2⟩:=h;refine⟨λx hx=>?_,by rw[he];exact h2⟩;have:x.born∈es.map (·.born):=by rw[<-he];exact Hp.2 ⟨x,hx,rfl⟩
 obtain⟨y,hy,e⟩:=Hp.1 this;rw[<-e];exact h1 y hy
mutual
def Aj(C:Af)(w:World):AV->Mu->Value->Prop
 |.any,_,_=>True
 |.int k n,_,v=>v=.int k n/\IU k n
 |.bool b,_,v|.lit b,_,v=>v=.bool b
 |.str l,_,v=>v=.string ⟨l.toArray⟩/\l.length<=9223372036854775807
 |.sl sz es,_,v=>((∃a,v=.slice a 0 0)/\es=[])\/
   ∃b o cap,v=.slice (some ⟨b,o,none⟩) es.length cap/\es.length<=cap/\cap<=9223372036854775807/\Rows C w sz es b o
 |.at_ cs,_,v=>∃b o,v=.pointer (some ⟨b,o,none⟩)/\Cells C w cs b o
 |.fn f cap,mu,v=>∃vs:List Value,v=.func (.func f) #[] vs.toArray/\Ac C w cap mu vs
 |.mv f cap,mu,v=>∃vs:List Value,v=.func (.func f) vs.toArray #[]/\Ac C w cap mu vs
 |.iface t x,mu,v=>∃y,v=.iface t y/\Aj C w x mu y
 |.agg cs,mu,v=>∃vs:List Value,v=.agg vs.toArray/\Ac C w cs mu vs
 |.tuple cs,mu,v=>∃vs:List Value,v=.tuple vs.toArray/\Ac C w cs mu vs
 |.raw x,_,v=>v=x
 |.ptr l o,mu,v=>∃b,mu l=some (.D6 b)/\v=.pointer (some ⟨b,o,none⟩)
 |.el l sz i o,mu,v=>∃b n c,mu l=some (.arr (.slice (some ⟨b,0,none⟩) n c))/\v=.pointer (some ⟨b,i*sz+o,none⟩)
 |.own l sz lo n,mu,v=>∃x,mu l=some (.arr x)/\lo+n<=Fb x/\(Fb x<=Qf x/\Qf x<=9223372036854775807)/\v=DJ x sz lo n
 |.mp ks vs,_,v=>(v=.map none/\ks=[]/\vs=[])\/∃b es clock,v=.map (some b)/\C b 0/\w.heap[b]?=some (.map es clock)/\
   Ac C w ks Mu.none (es.toList.map MapEntry.key)/\Ac C w vs Mu.none (es.toList.map MapEntry.val)/\Ja es.toList clock
 |.om l,mu,v=>∃b,mu l=some (.D6 b)/\v=.map (some b)
def Ac(C:Af)(w:World):List AV->Mu->List Value->Prop
 |[],_,vs=>vs=[]
 |a::as,mu,vs=>∃v CJ,vs=v::CJ/\Aj C w a mu v/\Ac C w as mu CJ
def Rows(C:Af)(w:World)(sz:Nat):List AV->Nat->Nat->Prop
 |[],_,_=>True
 |.agg cs::es,b,o=>cs.length=sz/\Cells C w cs b o/\Rows C w sz es b (o+sz)
 |e::es,b,o=>sz=1/\(∃v,v.oneCell'=true/\Cl C w b o v/\Aj C w e Mu.none v)/\Rows C w sz es b (o+sz)
def Cells(C:Af)(w:World):List AV->Nat->Nat->Prop
 |[],_,_=>True
 |c::cs,b,o=>(∃v,v.oneCell'=true/\Cl C w b o v/\Aj C w c Mu.none v)/\Cells C w cs b (o+1)
end
structure Ext(C C':Af)(w w':World):Prop where
 sub:∀b o,C b o->C' b o
 block:∀b o,C b o->w'.heap[b]?=w.heap[b]?
theorem Ext.same{C C':Af}{w w':World}(h:Ext C C' w w')(b o:Nat)(v:Value)(hc:C b o)(hv:w.cell? ⟨b,o,none⟩=some v):w'.cell? ⟨b,o,none⟩=some v:=by
 rw[World.cell?_of_block (h.block b o hc)];exact hv
theorem Ext.maps{C C':Af}{w w':World}(h:Ext C C' w w')(b o:Nat)(es:Array MapEntry)(clock:Nat)(hc:C b o)(hv:w.heap[b]?=some (.map es clock)):w'.heap[b]?=some (.map es clock):=by
 rw[h.block b o hc];exact hv
theorem Ext.of_block{C C':Af}{w w':World}(h:∀b o,C b o->C' b o)(k:∀b o,C b o->w'.heap[b]?=w.heap[b]?):Ext C C' w w':=⟨h,k⟩
theorem Ext.refl(C:Af)(w:World):Ext C C w w:=⟨λ_ _ h=>h,λ_ _ _=>rfl⟩
theorem Cl.ext{C C':Af}{w w':World}(h:Ext C C' w w'){b o:Nat}{v:Value}(c:Cl C w b o v):Cl C' w' b o v:=
 ⟨h.sub b o c.1,h.same b o v c.1 c.2⟩
def AU(mu mu':Mu):Prop:=∀l g,mu l=some g->mu' l=some g
theorem AU.refl(mu:Mu):AU mu mu:=λ_ _ h=>h
theorem AU.none(mu:Mu):AU Mu.none mu:=λ_ _ h=>by cases h
section mono
variable {C C':Af}{w w':World}(hx:Ext C C' w w')
include hx
mutual
theorem Aj.mono:∀(a:AV){mu mu':Mu}{v:Value},AU mu mu'->Aj C w a mu v->Aj C' w' a mu' v
 |.any,_,_,_,_,_=>by unfold Aj;trivial
 |.int _ _,_,_,_,_,h|.bool _,_,_,_,_,h|.lit _,_,_,_,_,h|.str _,_,_,_,_,h=>by unfold Aj at*;exact h
 |.sl sz es,_,_,_,_,h=>by unfold Aj at*;rcases h with h|⟨b,o,cap,h1,h2,h3,h4⟩;exact .inl h;exact .inr ⟨b,o,cap,h1,h2,h3,Rows.mono es h4⟩
 |.at_ cs,_,_,_,_,h=>by unfold Aj at*;obtain⟨b,o,h1,h2⟩:=h;exact⟨b,o,h1,Cells.mono cs h2⟩
 |.fn f cap,_,_,_,hm,h=>by unfold Aj at*;obtain⟨vs,h1,h2⟩:=h;exact⟨vs,h1,Ac.mono cap hm h2⟩
 |.mv f cap,_,_,_,hm,h=>by unfold Aj at*;obtain⟨vs,h1,h2⟩:=h;exact⟨vs,h1,Ac.mono cap hm h2⟩
 |.iface t x,_,_,_,hm,h=>by unfold Aj at*;obtain⟨y,h1,h2⟩:=h;exact⟨y,h1,Aj.mono x hm h2⟩
 |.agg cs,_,_,_,hm,h=>by unfold Aj at*;obtain⟨vs,h1,h2⟩:=h;exact⟨vs,h1,Ac.mono cs hm h2⟩
 |.tuple cs,_,_,_,hm,h=>by unfold Aj at*;obtain⟨vs,h1,h2⟩:=h;exact⟨vs,h1,Ac.mono cs hm h2⟩
 |.raw _,_,_,_,_,h=>by unfold Aj at*;exact h
 |.ptr l o,_,_,_,hm,h=>by unfold Aj at*;obtain⟨b,h1,h2⟩:=h;exact⟨b,hm _ _ h1,h2⟩
 |.el l sz i o,_,_,_,hm,h=>by unfold Aj at*;obtain⟨b,n,c,h1,h2⟩:=h;exact⟨b,n,c,hm _ _ h1,h2⟩
 |.own l sz lo n,_,_,_,hm,h=>by unfold Aj at*;obtain⟨x,h1,h2⟩:=h;exact⟨x,hm _ _ h1,h2⟩
 |.mp ks vs,_,_,_,_,h=>by unfold Aj at*;rcases h with h|⟨b,es,clock,h1,h2,h3,h4,h5⟩;exact .inl h;exact .inr ⟨b,es,clock,h1,hx.sub _ _ h2,hx.maps _ _ _ _ h2 h3,Ac.mono ks (AU.refl _) h4,Ac.mono vs (AU.refl _) h5.1,h5.2⟩
 |.om l,_,_,_,hm,h=>by unfold Aj at*;obtain⟨b,h1,h2⟩:=h;exact⟨b,hm _ _ h1,h2⟩
theorem Ac.mono:∀(as:List AV){mu mu':Mu}{vs:List Value},AU mu mu'->Ac C w as mu vs->Ac C' w' as mu' vs
 |[],_,_,_,_,h=>by unfold Ac at*;exact h
 |a::as,_,_,_,hm,h=>by unfold Ac at*;obtain⟨v,CJ,h1,h2,h3⟩:=h;exact⟨v,CJ,h1,Aj.mono a hm h2,Ac.mono as hm h3⟩
theorem Rows.mono{sz:Nat}:∀(es:List AV){b o:Nat},Rows C w sz es b o->Rows C' w' sz es b o
 |[],_,_,_=>by unfold Rows;trivial
 |.agg cs::es,_,_,h=>by unfold Rows at*;exact⟨h.1,Cells.mono cs h.2.1,Rows.mono es h.2.2⟩
 |.any::es,_,_,h|.int _ _::es,_,_,h|.bool _::es,_,_,h|.lit _::es,_,_,h|.str _::es,_,_,h|.sl _ _::es,_,_,h|.at_ _::es,_,_,h|.fn _ _::es,_,_,h|.mv _ _::es,_,_,h|.iface _ _::es,_,_,h|.tuple _::es,_,_,h|.raw _::es,_,_,h|.ptr _ _::es,_,_,h|.el _ _ _ _::es,_,_,h|.own _ _ _ _::es,_,_,h|.mp _ _::es,_,_,h|.om _::es,_,_,h=>by unfold Rows at*;obtain⟨h1,⟨v,h2,h3,h4⟩,h5⟩:=h;exact⟨h1,⟨v,h2,h3.ext hx,Aj.mono _ (AU.refl _) h4⟩,Rows.mono es h5⟩
theorem Cells.mono:∀(cs:List AV){b o:Nat},Cells C w cs b o->Cells C' w' cs b o
 |[],_,_,_=>by unfold Cells;trivial
 |c::cs,_,_,h=>by unfold Cells at*;obtain⟨⟨v,h2,h3,h4⟩,h5⟩:=h;exact⟨⟨v,h2,h3.ext hx,Aj.mono c (AU.refl _) h4⟩,Cells.mono cs h5⟩
end
end mono
def AV.cells:AV->List AV
 |.agg cs=>cs
 |a=>[a]
def flat(es:List AV):List AV:=es.flatMap AV.cells
def Row(C:Af)(w:World)(sz:Nat)(e:AV)(b o:Nat):Prop:=e.cells.length=sz/\Cells C w e.cells b o
theorem QE{C:Af}{w:World}{sz:Nat}{e:AV}{es:List AV}{b o:Nat}:
  Rows C w sz (e::es) b o↔Row C w sz e b o/\Rows C w sz es b (o+sz):=by
 cases e<;>simp only[Rows,Row,AV.cells,Cells,and_assoc,and_true,E0,H0,Fo]<;>(constructor<;>(rintro⟨h1,h2⟩;exact⟨h1.symm,h2⟩))
theorem FC{C:Af}{w:World}{sz:Nat}{b:Nat}:∀(es:List AV)(o:Nat),
  Rows C w sz es b o↔∀i (h:i<es.length),Row C w sz es[i] b (o+i*sz)
 |[],o=>by simp[Rows]
 |e::es,o=>by
  rw[QE,FC es (o+sz)];constructor
  ·rintro⟨h1,h2⟩ i h;cases i with
   |zero=>simpa using h1
   |succ i=>
    have:=h2 i (by simpa using h);simp only[E2];(have e:o+(i+1)*sz=o+sz+i*sz:=by rw[A5];omega);rw[e];exact this
  intro h;refine⟨by have:=h 0 (by simp);simp only[Nat.zero_mul,Gp]at this;exact this,λi hi=>?_⟩;have:=h (i+1) (by simpa using hi);simp only[E2]at this;have e:o+(i+1)*sz=o+sz+i*sz:=by rw[A5];omega
  rw[e]at this;exact this
theorem Dc{C:Af}{w:World}{b:Nat}:∀(cs:List AV)(o:Nat),
  Cells C w cs b o↔∀i (h:i<cs.length),∃v,v.oneCell'=true/\Cl C w b (o+i) v/\Aj C w cs[i] Mu.none v
 |[],o=>by simp[Cells]
 |c::cs,o=>by
  rw[Cells,Dc cs (o+1)];constructor
  ·rintro⟨h1,h2⟩ i h;cases i with
   |zero=>simpa using h1
   |succ i=>
    have:=h2 i (by simpa using h);simp only[E2];(have e:o+(i+1)=o+1+i:=by omega);rw[e];exact this
  intro h;refine⟨by have:=h 0 (by simp);simp only[Gp]at this;exact this,λi hi=>?_⟩;have:=h (i+1) (by simpa using hi);simp only[E2]at this;have e:o+(i+1)=o+1+i:=by omega
  rw[e]at this;exact this
theorem AM{C:Af}{w:World}:∀(as:List AV){mu:Mu}{vs:List Value},Ac C w as mu vs->vs.length=as.length
 |[],_,_,h=>by unfold Ac at h;subst h;rfl
 |a::as,_,_,h=>by unfold Ac at h;obtain⟨v,CJ,rfl,_,h3⟩:=h;simp[AM as h3]
theorem Bo{C:Af}{w:World}:∀(as:List AV){mu:Mu}{vs:List Value},
  Ac C w as mu vs↔vs.length=as.length/\∀i (h:i<as.length) (h':i<vs.length),Aj C w as[i] mu vs[i]
 |[],_,vs=>by cases vs<;>simp[Ac]
 |a::as,mu,vs=>by
  unfold Ac;constructor
  ·rintro⟨v,CJ,rfl,h2,h3⟩;have:=(Bo as).1 h3;refine⟨by simp[this.1],λi h h'=>?_⟩;cases i with
   |zero=>simpa using h2
   |succ i=>simpa using this.2 i (by simpa using h) (by simpa using h')
  rintro⟨h1,h2⟩;cases vs with
  |nil=>simp at h1
  |cons v vs=>
   refine⟨v,vs,rfl,h2 0 (by simp) (by simp),(Bo as).2 ⟨by simpa using h1,λi h h'=>?_⟩⟩;exact h2 (i+1) (by simpa using h) (by simpa using h')
theorem Bj{C:Af}{w:World}{mu:Mu}{as bs:List AV}{vs us:List Value}(h:Ac C w as mu vs)(k:Ac C w bs mu us):
  Ac C w (as++bs) mu (vs++us):=by
 induction as generalizing vs with
 |nil=>unfold Ac at h;subst h;simpa using k
 |cons a as ih=>
  unfold Ac at h;obtain⟨v,CJ,rfl,h2,h3⟩:=h;simp only[Pg];unfold Ac;exact⟨v,_,rfl,h2,ih h3⟩
end Go.Av
namespace Go.Av
variable {n b sz l o g:Nat}{k:IntKind}{w':World}{e t:TypeId}{vs:List Value}{v u c:Value}{op:BinOp}{d:TypeDesc}{x y:Operand}{ms:Array (String×TypeId)}{S:Nat->Prop}
def MO:List (Nat×List AV):=[(0,[.str [99,97,108,101,110,100,97,114],.str [111,112,101,114,97,116,111,114],.str [111,102,102,105,99,101],.str [108,105,110,101],.str [99,108,97,115,115],.str [122,111,110,101],.str [119,101,101,107],.str [104,111,108,105,100,97,121],.str [112,111,99,107,101,116,115],.str [112,97,115,115,101,115],.str [109,105,110,117,116,101,115],.str [99,111,100,101,115],.str [97,116],.str [116,114,97,118,101,108],.str [108,111,97,100],.str [99,117,116],.str [100,101,108,105,118,101,114]]),
 (1,[.str [45,62],.str [123],.str [125],.str [40],.str [41],.str [91],.str [93],.str [44],.str [59],.str [58],.str [61],.str [46],.str [45]]),
 (2,[.iface 272 .any]),
 (3,[.iface 272 .any]),
 (4,[.str [99,97,108,101,110,100,97,114],.str [111,112,101,114,97,116,111,114],.str [111,102,102,105,99,101],.str [108,105,110,101],.str [99,108,97,115,115],.str [122,111,110,101],.str [119,101,101,107],.str [104,111,108,105,100,97,121],.str [112,111,99,107,101,116,115],.str [112,97,115,115,101,115],.str [109,105,110,117,116,101,115],.str [99,111,100,101,115],.str [97,116],.str [116,114,97,118,101,108],.str [108,111,97,100],.str [99,117,116],.str [100,101,108,105,118,101,114]]),
 (5,[.int .u64 1,.int .u64 10,.int .u64 100,.int .u64 1000,.int .u64 10000,.int .u64 100000,.int .u64 1000000,.int .u64 10000000,.int .u64 100000000,.int .u64 1000000000,.int .u64 10000000000,.int .u64 100000000000,.int .u64 1000000000000,.int .u64 10000000000000,.int .u64 100000000000000,.int .u64 1000000000000000,.int .u64 10000000000000000,.int .u64 100000000000000000,.int .u64 1000000000000000000,.int .u64 10000000000000000000]),
 (11,[.str [99,97,108,101,110,100,97,114],.str [111,112,101,114,97,116,111,114],.str [111,102,102,105,99,101],.str [108,105,110,101],.str [99,108,97,115,115],.str [122,111,110,101],.str [119,101,101,107],.str [104,111,108,105,100,97,121],.str [112,111,99,107,101,116,115],.str [112,97,115,115,101,115],.str [109,105,110,117,116,101,115],.str [99,111,100,101,115],.str [97,116],.str [116,114,97,118,101,108],.str [108,111,97,100],.str [99,117,116],.str [100,101,108,105,118,101,114]])]
structure GV(S:Nat->Prop)(w w':World):Prop where
 os:w'.os=w.os
 tape:w'.tape=w.tape
 output:w'.output=w.output
 size:w.heap.size<=w'.heap.size
 block:∀b,S b->w'.heap[b]?=w.heap[b]?
structure Inv where
 J:(Nat->Prop)->(Nat->Prop)->World->Prop
 Ol:∀Sw Sr w w',J Sw Sr w->GV Sr w w'->J Sw Sr w'
 Cb:Af
 nb:Nat
inductive HO where
 |cells (cs:List AV)
 |arr (e:TypeId) (sz:Nat) (es:List AV)
 |dead
 |ghost (cs:List AV) (vs:List Value) (ms:List Nat)
 |inv (I:Inv)
 |map (ks vs:List AV)
inductive TK where
 |scalar|string|bool
 |int (k:IntKind)
 |struct (fs:List (Nat×Nat×Bool))      -- offset,size,an aggregate?
 |array (n Cz:Nat) (Zoe:Bool)
 |slice (e Cz bytes:Nat) (Zoe:Bool)
 |map (k v:Nat)
 |iface
structure TY where
 size:Nat
 agg:Bool
 zero:List AV
 k:TK
 eq:Option (List Nat)
def xU:Value->AV
 |.int k n=>bif (decide (k.min<=n)&&decide (n<=k.max))then .int k n else .any
 |.bool b=>.lit b
 |.string s=>bif D0 s.data.toList.length 9223372036854775807 then .str s.data.toList else .any
 |v=>.raw v
def Br(P:Program)(t:TypeId):Bool:=match P.underlying t with|some (.struct _)|some (.array _ _)=>true|_=>false
def GW(P:Program)(t:TypeId):Nat:=match P.underlying t with|some _=>P.cellsOf t|none=>0
def kindOf(P:Program):TypeDesc->TK
 |.struct fs=>.struct (fs.toList.map λf=>(f.offset,GW P f.type,Br P f.type))
 |.array n e=>.array n (GW P e) (Br P e)
 |.slice e=>.slice e (GW P e) (P.bytesOf e) (Br P e)
 |.int k=>.int k
 |.string=>.string
 |.bool=>.bool
 |.interface _=>.iface
 |.map k v=>.map k v
 |_=>.scalar
def Kg(P:Program)(lf:TypeId->Option (List Nat)):Nat->List Field->Option (List Nat)
 |_,[]=>some []
 |off,f::r=>match lf f.type with
  |some l=>bif A6 f.offset off&&f.name != "_"&&A6 (GW P f.type) l.length&&D0 1 l.length then (Kg P lf (off+l.length) r).map (l++·)else none
  |none=>none
def Ez(P:Program):Nat->TypeId->Option (List Nat)
 |0,_=>none
 |n+1,t=>match P.underlying t with
  |some .bool=>some [0]
  |some (.int _)=>some [1]
  |some .string=>some [2]
  |some (.struct fs)=>bif P.stoodInHeld t then none else Kg P (Ez P n) 0 fs.toList
  |_=>none
def ZeO(P:Program)(t:TypeId):Option (List Nat):=bif P.eqGuardType P.depth t then none else Ez P 8 t
def zeroOf(ag:Bool):Option Value->List AV
 |some (.agg cs)=>bif ag then cs.toList.map xU else []
 |some z=>bif ag then []else [xU z]
 |none=>[]
theorem KU(ag:Bool)(o:Option Value):zeroOf ag o=[]\/∃z,o=some z/\zeroOf ag o=z.cells.toList.map xU/\((ag=true/\∃cs,z=.agg cs)\/(ag=false/\z.cells=#[z])):=by
 cases o with
 |none=>exact .inl rfl
 |some z=>
  cases ag<;>cases z<;>first|exact .inl rfl|exact .inr ⟨_,rfl,rfl,.inl ⟨rfl,_,rfl⟩⟩|exact .inr ⟨_,rfl,rfl,.inr ⟨rfl,rfl⟩⟩
def X7(P:Program)(t:TypeId):Option TY:=
 match P.info? t,P.underlying t with
 |some i,some d=>some {size:=i.size,agg:=Br P t,zero:=zeroOf (Br P t) i.zero,k:=kindOf P d,eq:=ZeO P t}
 |_,_=>none
def CY(P:Program)(T:List TY):Prop:=∀t y,T[t]?=some y->X7 P t=some y
@[irreducible] def Wr(k:IntKind)(n:Int):Int:=k.wrap n
theorem JP(k:IntKind)(n:Int):IU k (Wr k n):=by
 unfold Wr IU UB Kn Ks;cases k<;>simp[E1,Hs]<;>(try split)<;>omega
theorem fY(k:IntKind)(n:Int)(h:IU k n):Wr k n=n:=by
 unfold Wr;unfold IU Kn Ks at h;unfold UB;cases k<;>simp[E1,Hs]at h ⊢<;>(try split)<;>omega
theorem LY(n:Int)(h:-9223372036854775808<=n)(h':n<=9223372036854775807):Wr .i64 n=n:=fY _ _ (by unfold IU Kn Ks;simp[E1,Hs];omega)
theorem HE{n:Int}(h:-9223372036854775808<=n/\n<=9223372036854775807):Wr .i64 n=n:=LY n h.1 h.2
theorem ZI(k:Nat)(h:k+1<=9223372036854775807):Wr .i64 ((k:Int)+1)=((k+1:Nat):Int):=by rw[HE (by omega)];rfl
theorem MI{n:Int}:IU .i64 n↔-9223372036854775808<=n/\n<=9223372036854775807:=by
 unfold IU Kn Ks;simp[E1,Hs]
theorem Zfr{n:Int}:IU .u8 n↔0<=n/\n<=255:=by
 unfold IU Kn Ks;simp[E1,Hs]
def AV.force(v:AV)(K:AV->Prop):Prop:=
 match v with
 |.any=>K .any
 |.int k n=>K (.int k n)
 |.bool b=>K (.bool b)
 |.lit b=>K (.lit b)
 |.str l=>K (.str l)
 |.sl sz es=>K (.sl sz es)
 |.at_ cs=>K (.at_ cs)
 |.fn f cap=>K (.fn f cap)
 |.mv f cap=>K (.mv f cap)
 |.iface t x=>K (.iface t x)
 |.agg cs=>K (.agg cs)
 |.tuple vs=>K (.tuple vs)
 |.raw v=>K (.raw v)
 |.ptr l o=>K (.ptr l o)
 |.el l sz i o=>K (.el l sz i o)
 |.own l sz lo n=>K (.own l sz lo n)
 |.mp ks vs=>K (.mp ks vs)
 |.om l=>K (.om l)
theorem AV.AS(v:AV)(K:AV->Prop):v.force K↔K v:=by cases v<;>rfl
def Dr{α:Type}:List α->Nat->(α->Prop)->Prop
 |[],_,_=>False
 |x::_,0,K=>K x
 |_::l,k+1,K=>Dr l k K
theorem PH{α:Type}:∀(l:List α)(k:Nat)(K:α->Prop),Dr l k K↔∃x,l[k]?=some x/\K x
 |[],_,_|x::l,0,K=>by simp[Dr]
 |_::l,k+1,K=>by simp[Dr,PH l k K]
theorem Bf{α:Type}{l:List α}{k:Nat}{K:α->Prop}:Dr l k K↔∃x,l[k]?=some x/\K x:=PH l k K
def Dn{α:Type}:List α->Nat->α->(List α->Prop)->Prop
 |[],_,_,K=>K []
 |_::l,0,v,K=>K (v::l)
 |x::l,k+1,v,K=>Dn l k v λl=>K (x::l)
theorem AY{α:Type}:∀(l:List α)(k:Nat)(v:α)(K:List α->Prop),Dn l k v K↔K (l.set k v)
 |[],_,_,_|x::l,0,v,K=>by simp[Dn]
 |x::l,k+1,v,K=>by simp[Dn,AY l k v]
def MT{α:Type}:List α->Nat->(List α->Prop)->Prop
 |l,0,K=>K l
 |[],_+1,K=>K []
 |_::l,k+1,K=>MT l k K
theorem BC{α:Type}:∀(l:List α)(k:Nat)(K:List α->Prop),MT l k K↔K (l.drop k)
 |[],0,_|[],_+1,_|x::l,0,K=>by simp[MT]
 |x::l,k+1,K=>by simp[MT,BC l k]
def Tm{α:Type}:List α->Nat->(List α->Prop)->Prop
 |_,0,K=>K []
 |[],_+1,_=>False
 |x::l,k+1,K=>Tm l k λl=>K (x::l)
theorem Fj{α:Type}:∀(l:List α)(k:Nat)(K:List α->Prop),Tm l k K↔k<=l.length/\K (l.take k)
 |_,0,_|[],_+1,_=>by simp[Tm]
 |x::l,k+1,K=>by simp[Tm,Fj l k]
def aE{α:Type}:List α->α->(List α->Nat->Prop)->Prop
 |[],v,K=>K [v] 0
 |x::l,v,K=>aE l v λl n=>K (x::l) (n+1)
theorem Nh{α:Type}:∀(l:List α)(v:α)(K:List α->Nat->Prop),aE l v K↔K (l++[v]) l.length
 |[],v,K=>by simp[aE]
 |x::l,v,K=>by simp[aE,Nh l v]
def TO:List AV->Nat->List AV->(List AV->Prop)->Prop
 |l,_,[],K=>K l
 |l,o,v::vs,K=>Dn l o v λl=>TO l (o+1) vs K
def Je:List AV->Nat->List AV->List AV
 |l,_,[]=>l
 |l,o,v::vs=>Je (l.set o v) (o+1) vs
theorem DS:∀(vs l:List AV)(o:Nat)(K:List AV->Prop),TO l o vs K↔K (Je l o vs)
 |[],_,_,_=>by simp[TO,Je]
 |v::vs,l,o,K=>by simp[TO,Je,AY,DS vs]
def GZ{α β:Type}(f:α->(β->Prop)->Prop):List α->(List β->Prop)->Prop
 |[],K=>K []
 |x::l,K=>f x λy=>GZ f l λys=>K (y::ys)
theorem Di{α β:Type}(f:α->(β->Prop)->Prop)(g:α->β)(h:∀x K,f x K↔K (g x)):∀(l:List α)(K:List β->Prop),GZ f l K↔K (l.map g)
 |[],_=>by simp[GZ]
 |x::l,K=>by simp[GZ,h,Di f g h l]
def BL(E:List AV):Operand->AV
 |.tmp t=>E.getD t .any
 |.const v=>xU v
 |.func f=>.fn f []
 |.global g=>.raw (.pointer (some ⟨g,0,none⟩))
def lkA:List AV->Nat->(AV->Prop)->Prop
 |[],_,K=>K .any
 |x::_,0,K=>K x
 |_::l,k+1,K=>lkA l k K
theorem SW:∀(l:List AV)(k:Nat)(K:AV->Prop),lkA l k K↔K (l.getD k .any)
 |[],_,_|x::l,0,K=>by simp[lkA]
 |_::l,k+1,K=>by simp[lkA,SW l k K]
def DF(E:List AV)(o:Operand)(K:AV->Prop):Prop:=
 match o with
 |.tmp t=>lkA E t K
 |.const v=>(xU v).force K
 |.func f=>K (.fn f [])
 |.global g=>K (.raw (.pointer (some ⟨g,0,none⟩)))
theorem Ae(E:List AV)(o:Operand)(K:AV->Prop):DF E o K↔K (BL E o):=by
 cases o<;>simp[DF,BL,SW,AV.AS]
def Cf(mu:Mu):Mu:=λl=>match mu l with|some (.D6 b)=>some (.D6 b)|_=>none
theorem fU(mu:Mu):AU (Cf mu) mu:=λl g h=>by
 unfold Cf at h;split at h;·rename_i b hb;rw[hb];exact h
 cases h
def Zh1(ks vs:List AV)(es:List MapEntry)(clock:Nat):Prop:=Ja es clock/\∀C w,Ac C w ks Mu.none (es.map MapEntry.key)/\Ac C w vs Mu.none (es.map MapEntry.val)
def Wg(cur:Array Value)(fz:Nat×Nat):Prop:=fz=(0,0)\/fz=(cur.size,cur.size+1)
def Ze9(w:World)(b:Nat)(cur:Array Value)(e:TypeId):Prop:=∃fz,w.heap[b]?=some (.cells cur e fz)/\Wg cur fz
theorem Ze9.of_eq{w:World}{cur:Array Value}(h:Ze9 w b cur e)(he:w'.heap[b]?=w.heap[b]?):Ze9 w' b cur e:=by
 obtain⟨fz,h1,h2⟩:=h;exact⟨fz,he.trans h1,h2⟩
structure B0(C:Af)(w:World)(fresh:Nat->Prop)(mu:Mu)(H:List HO):Prop where
 JX:∀l g,mu l=some g->l<H.length
 fresh:∀l g b,mu l=some g->g.Az=some b->fresh b/\b<w.heap.size/\∀o,¬C b o
 sep:∀l g b l' g',mu l=some g->g.Az=some b->mu l'=some g'->g'.Az=some b->l'=l
 dead:∀l,H[l]?=some .dead->mu l=none
 Dp:∀l cs,H[l]?=some (.cells cs)->∃b cur e,mu l=some (.D6 b)/\w.heap[b]?=some (.cells cur e (0,0))/\Ac C w cs mu cur.toList/\∀v∈cur.toList,v.oneCell'=true
 Dk:∀l e sz es,H[l]?=some (.arr e sz es)->(∀a∈es,a.cells.length=sz)/\
  ((mu l=some (.arr (.slice none 0 0))/\es=[])\/∃b cap cur,mu l=some (.arr (.slice (some ⟨b,0,none⟩) es.length cap))/\
   Ze9 w b cur e/\es.length<=cap/\cap<=9223372036854775807/\cur.size=cap*sz/\
   Ac C w (flat es) (Cf mu) (cur.toList.take (es.length*sz))/\∀v∈cur.toList,v.oneCell'=true)
 maps:∀l ks vs,H[l]?=some (.map ks vs)->∃b es clock,mu l=some (.D6 b)/\w.heap[b]?=some (.map es clock)/\Zh1 ks vs es.toList clock
structure gE(C:Af)(w:World):Prop where
 lt:∀b o,C b o->b<w.heap.size
 gl:∀x∈MO,Cells C w x.2 x.1 0
 gs:∀x∈MO,x.2≠[]->∃cur e fz,w.heap[x.1]?=some (.cells cur e fz)/\cur.size=x.2.length
structure Zh5(C0:Af)(M0:Nat->Prop)(W0:World):Prop where
 ok:gE C0 W0
 G5:∀b o,C0 b o->¬M0 b
structure Cx where
 P:Program
 C0:Af
 M0:Nat->Prop
 W0:World
 ds:List Deferred:=[]
 Lf:List (Nat×Obj):=[]
 rd:Option Nat:=none
 Dv:Nat->Nat->Prop:=λ_ _=>False
 np:Nat:=0
 MK:∀l,rd=some l->∃r,(l,Obj.loop r)∈Lf:=by intro l h;cases h
 lL:Zh5 C0 M0 W0
def mark(D:Nat):Deferred:={target:=.collected D,args:=#[]}
def Gj:Obj:=.deferred (some [])
structure CS(C:Af)(w:World)(fr:Nat->Prop)(mu:Mu)(D:Nat×Obj):Prop where
 at_:w.heap[D.1]?=some D.2
 HT:∀o,¬C D.1 o
 own:∀l g,mu l=some g->g.Az≠some D.1
 fr:fr D.1
structure ZcK(C:Af)(w:World)(fr:Nat->Prop)(mu:Mu)(Cb:Af)(nb:Nat)(Sw Sr:Nat->Prop):Prop where
 fr:∀b,Sw b->fr b
 base:nb<=w.heap.size
 cb:∀b o,C b o->Cb b o\/nb<=b
 ob:∀l g b,mu l=some g->g.Az=some b->nb<=b
 sub:∀b,Sw b->Sr b
 lt:∀b,Sr b->b<w.heap.size
 own:∀b,Sr b->∀l g,mu l=some g->g.Az≠some b
 HT:∀b o,Sw b->¬C b o
structure B2(C:Af)(w:World)(fr:Nat->Prop)(mu:Mu)(H:List HO)(ds:List (Nat×Obj)):Prop where
 BG:∀(l:Nat) cs vs ms,H[l]?=some (.ghost cs vs ms)->Ac C w cs mu vs/\ms.Nodup/\∀D∈ms,CS C w fr mu (D,Gj)/\D∉ds.map Prod.fst
 Ho:∀(l:Nat) I,H[l]?=some (.inv I)->l=0/\∃Sw Sr,ZcK C w fr mu I.Cb I.nb Sw Sr/\I.J Sw Sr w/\(∀D∈ds,¬Sr D.1)/\∀(l:Nat) cs vs ms,H[l]?=some (.ghost cs vs ms)->∀D∈ms,¬Sr D
 marks:∀D∈ds,CS C w fr mu D
 nd:(ds.map Prod.fst).Nodup
 sep:∀(l l':Nat) cs vs ms cs' CJ DL,H[l]?=some (.ghost cs vs ms)->H[l']?=some (.ghost cs' CJ DL)->l≠l'->∀D∈ms,D∉DL
def Cx.fresh(G:Cx)(b:Nat):Prop:=G.W0.heap.size<=b\/G.M0 b
structure LD(G:Cx)(w:World):Prop where
 os:w.os=G.W0.os
 tape:w.tape=G.W0.tape
 output:w.output=G.W0.output
 size:G.W0.heap.size<=w.heap.size
 block:∀k,k<G.W0.heap.size->¬G.M0 k->w.heap[k]?=G.W0.heap[k]?
structure AJ(G:Cx)(C:Af)(mu:Mu)(E:List AV)(H:List HO)(a:Act)(w:World):Prop where
 c0:∀b o,G.C0 b o->C b o
 c1:∀b o,C b o->G.C0 b o\/G.fresh b
 lt:∀b o,C b o->b<w.heap.size
 heap:B0 C w G.fresh mu H
 env:Ac C w E mu a.tmps.toList
 defers:∃ms:List Nat,a.defers=ms.map mark++G.ds/\B2 C w G.fresh mu H (ms.map (λD=>(D,Gj))++G.Lf)
 Ax:LD G w
 Dv:G.np<=H.length/\∀l b,l<G.np->G.Dv l b->mu l=some (.D6 b)
def St(G:Cx)(E:List AV)(H:List HO)(a:Act)(w:World):Prop:=∃C mu,AJ G C mu E H a w
theorem AJ.Zob{G:Cx}{C:Af}{mu:Mu}{E:List AV}{H:List HO}{a:Act}{w:World}(h:AJ G C mu E H a w):Ext G.C0 C G.W0 w:=
 ⟨h.c0,λb o hc=>h.Ax.block b (G.lL.ok.lt b o hc) (G.lL.G5 b o hc)⟩
theorem gE.mono{C C':Af}{w:World}(h:gE C w)(hx:Ext C C' w w')(hl:∀b o,C' b o->b<w'.heap.size):gE C' w':=
 ⟨hl,λx k=>Cells.mono hx _ (h.gl x k),λx k hn=>by
  obtain⟨cur,e,fz,h1,h2⟩:=h.gs x k hn
  have hc:C x.1 0:=by
   have:=h.gl x k;cases hx2:x.2 with
   |nil=>exact absurd hx2 hn
   |cons y ys=>rw[hx2]at this;unfold Cells at this;obtain⟨⟨v,_,hc,_⟩,_⟩:=this;exact hc.1
  exact⟨cur,e,fz,by rw[hx.block _ _ hc];exact h1,h2⟩⟩
theorem AJ.qR{G:Cx}{C:Af}{mu:Mu}{E:List AV}{H:List HO}{a:Act}{w:World}(h:AJ G C mu E H a w):gE C w:=G.lL.ok.mono h.Zob h.lt
theorem Pp{C:Af}{w:World}{mu:Mu}(v:Value):Aj C w .any mu v:=by unfold Aj;trivial
theorem SN{C:Af}{w:World}{mu:Mu}(v:Value):Aj C w (xU v) mu v:=by
 unfold xU;split
 ·rename_i k n;cases h:(decide (k.min<=n)&&decide (n<=k.max))with
  |true=>simp at h;simp only[cond_true];unfold Aj;exact⟨rfl,h⟩
  |false=>exact Pp _
 unfold Aj;rfl
 ·rename_i s;cases h:D0 s.data.toList.length 9223372036854775807 with
  |true=>simp only[cond_true];unfold Aj;exact⟨by simp,As h⟩
  |false=>exact Pp _
 unfold Aj;rfl
theorem Ac.get{C:Af}{w:World}{mu:Mu}{E:List AV}{vs:Array Value}(h:Ac C w E mu vs.toList)(t:Nat):
  Aj C w (E.getD t .any) mu (vs.getD t undef):=by
 obtain⟨h1,h2⟩:=(Bo E).1 h;by_cases ht:t<E.length
 ·have ht':t<vs.toList.length:=by omega
  have:=h2 t ht ht';simpa[UH,Array.getD,ht,show t<vs.size from by simpa using ht']using this
 have:E.getD t .any=.any:=by simp[UH,Ix (Nat.le_of_not_lt ht)]
 rw[this];exact Pp _
theorem Bv{C:Af}{w:World}{mu:Mu}{E:List AV}{a:Act}(h:Ac C w E mu a.tmps.toList)(o:Operand):Aj C w (BL E o) mu (a.eval o):=by
 cases o with
 |tmp t=>exact h.get t
 |const v=>exact SN v
 |global g=>unfold BL Aj;rfl
 |func f=>unfold BL Aj;exact⟨[],by simp[Act.eval],by unfold Ac;rfl⟩
theorem Ac.put{C:Af}{w:World}{mu:Mu}{E:List AV}{vs:Array Value}(h:Ac C w E mu vs.toList)(t:Nat){x:AV}(hv:Aj C w x mu v):
  Ac C w (E.set t x) mu (vs.setIfInBounds t v).toList:=by
 obtain⟨h1,h2⟩:=(Bo E).1 h;refine(Bo _).2 ⟨by simp_all,λi hi EW=>?_⟩;simp only[G1,List.getElem_set];split;exact hv;exact h2 i (by simpa using hi) (by simpa using EW)
def B8(E:List AV)(d:Option Tmp)(x:AV):List AV:=match d with|some d=>E.set d x|none=>E
theorem BF{C:Af}{w:World}{mu:Mu}{E:List AV}{a:Act}(h:Ac C w E mu a.tmps.toList)(d:Option Tmp){x:AV}(hv:Aj C w x mu v):
  Ac C w (B8 E d x) mu (a.put d v).tmps.toList:=by
 cases d with
 |none=>exact h
 |some d=>exact h.put d hv
theorem put_defers(a:Act)(d:Option Tmp)(v:Value):(a.put d v).defers=a.defers:=by cases d<;>rfl
theorem CY.facts{P:Program}{T:List TY}(h:CY P T){y:TY}(e:T[t]?=some y):∃i d,P.info? t=some i/\P.underlying t=some d/\
  y={size:=i.size,agg:=Br P t,zero:=zeroOf (Br P t) i.zero,k:=kindOf P d,eq:=ZeO P t}:=by
 have h:=h t y e;unfold X7 at h;split at h;·rename_i i d hi hd;exact⟨i,d,hi,hd,by simpa using h.symm⟩
 cases h
theorem CY.slice{P:Program}{T:List TY}(h:CY P T){y:TY}(e:T[t]?=some y){el by':Nat}{ag:Bool}(hk:y.k=.slice el sz by' ag):
  P.underlying t=some (.slice el)/\GW P el=sz/\P.bytesOf el=by'/\Br P el=ag:=by
 obtain⟨i,d,h1,h2,rfl⟩:=h.facts e;cases d<;>simp_all[kindOf]<;>(obtain⟨rfl,h⟩:=hk;exact h)
theorem CY.struct{P:Program}{T:List TY}(h:CY P T){y:TY}(e:T[t]?=some y){fs:List (Nat×Nat×Bool)}(hk:y.k=.struct fs):
  ∃fields,P.underlying t=some (.struct fields)/\fs=fields.toList.map λf=>(f.offset,GW P f.type,Br P f.type):=by
 obtain⟨i,d,h1,h2,rfl⟩:=h.facts e;cases d<;>simp_all[kindOf]
theorem CY.string{P:Program}{T:List TY}(h:CY P T){y:TY}(e:T[t]?=some y)(hk:y.k=.string):P.underlying t=some .string:=by
 obtain⟨i,d,h1,h2,rfl⟩:=h.facts e;cases d<;>simp_all[kindOf]
theorem CY.bool{P:Program}{T:List TY}(h:CY P T){y:TY}(e:T[t]?=some y)(hk:y.k=.bool):P.underlying t=some .bool:=by
 obtain⟨i,d,h1,h2,rfl⟩:=h.facts e;cases d<;>simp_all[kindOf]
theorem CY.int{P:Program}{T:List TY}(h:CY P T){y:TY}(e:T[t]?=some y)(hk:y.k=.int k):P.underlying t=some (.int k):=by
 obtain⟨i,d,h1,h2,rfl⟩:=h.facts e;cases d<;>simp_all[kindOf]
theorem Me{P:Program}(h:GW P t=n+1):∃i d,P.info? t=some i/\P.underlying t=some d/\i.size=n+1:=by
 unfold GW at h;split at h
 ·rename_i d hd;unfold M4 at h;cases hi:P.info? t with
  |none=>simp[hi]at h
  |some i=>exact⟨i,d,rfl,hd,by simpa[hi]using h⟩
 cases h
def uO(a b:IntKind):Bool:=
 match a,b with
 |.i8,.i8|.i16,.i16|.i32,.i32|.i64,.i64|.u8,.u8|.u16,.u16|.u32,.u32|.u64,.u64=>true
 |_,_=>false
theorem Q0{a b:IntKind}(h:uO a b=true):a=b:=by cases a<;>cases b<;>simp_all[uO]
def Sn(op:BinOp)(k:IntKind)(x y:Int):Int:=
 let a:=BitVec.ofInt k.bits x
 let b:=BitVec.ofInt k.bits y
 match op with
 |.and=>(a &&& b).toNat
 |.or=>(a ||| b).toNat
 |.xor=>(a ^^^ b).toNat
 |_=>(a &&& ~~~b).toNat
def uT(op:BinOp)(k:IntKind)(m n:Int)(K:AV->Prop):Prop:=
 match op with
 |.add=>K (.int k (Wr k (m+n)))
 |.sub=>K (.int k (Wr k (m-n)))
 |.mul=>K (.int k (Wr k (m*n)))
 |.quo=>n≠0/\K (.int k (Wr k (m.tdiv n)))
 |.rem=>n≠0/\K (.int k (m.tmod n))
 |.eql=>K (.bool (decide (m=n)))
 |.neq=>K (.bool (!decide (m=n)))
 |.lss=>K (.bool (decide (m<n)))
 |.leq=>K (.bool (decide (m<=n)))
 |.gtr=>K (.bool (decide (n<m)))
 |.geq=>K (.bool (decide (n<=m)))
 |.and=>K (.int k (Wr k (Sn .and k m n)))
 |.or=>K (.int k (Wr k (Sn .or k m n)))
 |.xor=>K (.int k (Wr k (Sn .xor k m n)))
 |.andNot=>K (.int k (Wr k (Sn .andNot k m n)))
 |_=>False
def zQ(op:BinOp)(p q:List UInt8)(K:AV->Prop):Prop:=
 match op with
 |.add=>p.length+q.length<=9223372036854775807/\K (.str (p++q))
 |.eql=>K (.bool (p == q))
 |.neq=>K (.bool (!(p == q)))
 |.lss=>K (.bool (O3 p q))
 |.leq=>K (.bool (O3 p q||p == q))
 |.gtr=>K (.bool (!(O3 p q||p == q)))
 |.geq=>K (.bool (!Op.bytesLess p q))
 |_=>False
def Vo(op:BinOp)(p q:Bool)(K:AV->Prop):Prop:=
 match op with
 |.eql=>K (.bool (p == q))
 |.neq=>K (.bool (!(p == q)))
 |_=>False
def Uy(k:Nat)(a b:AV)(K:Bool->Prop):Prop:=
 match k with
 |0=>(match a with
  |.bool p|.lit p=>(match b with|.bool q=>K (p == q)|.lit q=>K (p == q)|_=>False)
  |_=>False)
 |1=>(match a with
  |.int k m=>(match b with|.int k' n=>(match uO k k' with|true=>K (decide (m=n))|false=>False)|_=>False)
  |_=>False)
 |2=>(match a with
  |.str p=>(match b with|.str q=>K (decide (p=q))|_=>False)
  |_=>False)
 |_=>False
def mA:List Nat->List AV->List AV->(Bool->Prop)->Prop
 |[],[],[],K=>K true
 |k::ls,a::xs,b::ys,K=>Uy k a b λp=>mA ls xs ys λr=>K (p&&r)
 |_,_,_,_=>False
def Ry(T:List TY)(op:BinOp)(t:TypeId)(cs ds:List AV)(K:AV->Prop):Prop:=
 Dr T t λy=>match y.agg with
  |true=>(match y.eq with
   |some ls=>(match op with
    |.eql=>mA ls cs ds λr=>K (.bool r)
    |.neq=>mA ls cs ds λr=>K (.bool (!r))
    |_=>False)
   |none=>False)
  |false=>False
def OV(T:List TY)(op:BinOp)(t:TypeId)(a b:AV)(K:AV->Prop):Prop:=
 match a with
 |.int k m=>match b with|.int k' n=>(match uO k k' with|true=>uT op k m n K|false=>False)|_=>False
 |.bool p=>match b with
  |.bool q|.lit q=>Dr T t λy=>(match y.k with|.bool=>Vo op p q K|_=>False)
  |_=>False
 |.lit p=>match b with
  |.bool q|.lit q=>Dr T t λy=>(match y.k with|.bool=>Vo op p q K|_=>False)
  |_=>False
 |.str p=>match b with|.str q=>zQ op p q K|_=>False
 |.agg cs=>match b with|.agg ds=>Ry T op t cs ds K|_=>False
 |_=>False
def unK(op:UnOp)(a:AV)(K:AV->Prop):Prop:=
 match op with
 |.neg=>match a with|.int k n=>K (.int k (Wr k (0-n)))|_=>False
 |.not=>match a with|.bool b=>K (.bool (!b))|.lit b=>(match b with|true=>K (.lit false)|false=>K (.lit true))|_=>False
 |_=>False
def ldK(T:List TY)(t:TypeId)(cs:List AV)(K:AV->Prop):Prop:=
 Dr T t λy=>match y.agg with
  |true=>Tm cs y.size λcs=>K (.agg cs)
  |false=>match cs with|c::_=>c.force K|[]=>False
def EP(v:AV)(K:List AV->Prop):Prop:=
 match v with
 |.agg cs=>K cs
 |.int k n=>K [.int k n]
 |.bool b=>K [.bool b]
 |.lit b=>K [.lit b]
 |.str l=>K [.str l]
 |.sl sz es=>K [.sl sz es]
 |.at_ cs=>K [.at_ cs]
 |.fn f cap=>K [.fn f cap]
 |.mv f cap=>K [.mv f cap]
 |.iface t x=>K [.iface t x]
 |.tuple vs=>K [.tuple vs]
 |.raw v=>K [.raw v]
 |.ptr l o=>K [.ptr l o]
 |.el l sz i o=>K [.el l sz i o]
 |.own l sz lo n=>K [.own l sz lo n]
 |.mp ks vs=>K [.mp ks vs]
 |.om l=>K [.om l]
 |.any=>K [.any]
theorem AB(v:AV)(K:List AV->Prop):EP v K↔K v.cells:=by cases v<;>rfl
def Oc(T:List TY)(H:List HO)(t:TypeId)(p:AV)(K:AV->Prop):Prop:=
 match p with
 |.at_ cs=>ldK T t cs K
 |.ptr l o=>Dr H l λob=>match ob with|.cells cs=>MT cs o λcs=>ldK T t cs K|_=>False
 |.el l sz i o=>Dr H l λob=>match ob with
  |.arr _ De es=>(match A6 sz De with
   |true=>∃v,es[i]?=some v/\EP v λcs=>MT cs o λcs=>ldK T t cs K
   |false=>False)
  |_=>False
 |_=>False
def Ch(T:List TY)(H:List HO)(t:TypeId)(x i:AV)(K:AV->Prop):Prop:=
 match x with
 |.sl sz es=>Dr T t λy=>(match y.k with
  |.slice _ Cz _ _=>(match A6 Cz sz&&D0 1 sz with
   |true=>(match i with
    |.int _ n=>0<=n/\∃v,es[n.toNat]?=some v/\EP v λcs=>K (.at_ cs)
    |_=>False)
   |false=>False)
  |_=>False)
 |.own l sz lo m=>Dr T t λy=>(match y.k with
  |.slice _ Cz _ _=>Dr H l λob=>(match ob with
   |.arr _ De _=>(match A6 Cz sz&&D0 1 sz&&A6 sz De with
    |true=>(match i with
     |.int _ n=>(0<=n/\n<m)/\K (.el l sz (lo+n.toNat) 0)
     |_=>False)
    |false=>False)
   |_=>False)
  |_=>False)
 |.ptr l o=>Dr T t λy=>(match y.k with
  |.array n sz _=>(match D0 1 sz with
   |true=>(match i with
    |.int _ m=>(0<=m/\m<n)/\K (.ptr l (o+m.toNat*sz))
    |_=>False)
   |false=>False)
  |_=>False)
 |.at_ cs=>Dr T t λy=>(match y.k with
  |.array n sz _=>(match A6 sz 1 with
   |true=>(match i with
    |.int _ m=>(0<=m/\m<n)/\∃v,cs[m.toNat]?=some v/\K (.at_ [v])
    |_=>False)
   |false=>False)
  |_=>False)
 |_=>False
def IT(T:List TY)(t:TypeId)(x i:AV)(K:AV->Prop):Prop:=
 match x with
 |.str l=>Dr T t λy=>match y.k with
  |.string=>match i with
   |.int _ n=>(0<=n/\n<l.length)/\K (.int .u8 (l.getD n.toNat 0).toNat)
   |_=>False
  |_=>False
 |.agg cs=>Dr T t λy=>match y.k with
  |.array n sz ag=>(match A6 sz 1&&!ag with
   |true=>(match i with|.int _ m=>(0<=m/\m<n)/\∃v,cs[m.toNat]?=some v/\K v|_=>False)
   |false=>(match ag&&D0 1 sz&&A6 cs.length (n*sz)with
    |true=>(match i with|.int _ m=>(0<=m/\m<n)/\K (.agg ((cs.drop (m.toNat*sz)).take sz))|_=>False)
    |false=>False))
  |_=>False
 |_=>False
def Es(T:List TY)(t:TypeId)(x:AV)(f:Nat)(K:AV->Prop):Prop:=
 Dr T t λy=>match y.k with
  |.struct fs=>Dr fs f λ(off,size,_)=>match size with
   |0=>False
   |_+1=>match x with
    |.at_ cs=>MT cs off λcs=>K (.at_ cs)
    |.ptr l o=>K (.ptr l (o+off))
    |.el l sz i o=>K (.el l sz i (o+off))
    |.raw v=>(match v with|.pointer p=>(match p with|some ⟨b,o,none⟩=>K (.raw (.pointer (some ⟨b,o+off,none⟩)))|_=>False)|_=>False)
    |_=>False
  |_=>False
def BH(T:List TY)(t:TypeId)(x:AV)(f:Nat)(K:AV->Prop):Prop:=
 Dr T t λy=>match y.k with
  |.struct fs=>Dr fs f λ(off,size,agg)=>match x with
   |.agg cs=>MT cs off λcs=>(match agg with
    |true=>Tm cs size λcs=>K (.agg cs)
    |false=>match size with|0=>False|_+1=>match cs with|c::_=>c.force K|[]=>False)
   |_=>False
  |_=>False
def V0(T:List TY)(t:TypeId)(x:AV)(K:AV->Prop):Prop:=
 Dr T t λy=>match y.k with
  |.slice _ _ _ _=>match x with
   |.sl _ es=>K (.int .i64 es.length)
   |.own _ _ _ n=>K (.int .i64 n)
   |.raw (.slice none 0 0)=>K (.int .i64 0)
   |_=>False
  |.string=>match x with
   |.str l=>K (.int .i64 l.length)
   |_=>False
  |_=>False
def KG(T:List TY)(s d:TypeId)(x:AV)(K:AV->Prop):Prop:=
 match x with
 |.int _ n=>Dr T s λ_=>Dr T d λy=>match y.k with|.int k=>K (.int k (Wr k n))|.string=>(0<=n/\n<128)/\K (.str [UInt8.ofNat n.toNat])|_=>False
 |.str l=>Dr T s λ_=>Dr T d λy=>match y.k with|.string=>K (.str l)|_=>False
 |_=>False
def Py(o:Option AV)(d:Int)(K:Int->Prop):Prop:=
 match o with
 |none=>K d
 |some v=>match v with|.int _ n=>K n|_=>False
def EK(T:List TY)(t:TypeId)(x:AV)(lo hi:Option AV)(K:AV->Prop):Prop:=
 match x with
 |.str l=>Dr T t λy=>match y.k with
  |.string=>Py lo 0 λa=>Py hi l.length λb=>(0<=a/\a<=b/\b<=l.length)/\K (.str ((l.take b.toNat).drop a.toNat))
  |_=>False
 |.sl sz es=>Dr T t λy=>match y.k with
  |.slice _ Cz _ _=>match A6 Cz sz&&D0 1 sz with
   |true=>Py lo 0 λa=>Py hi es.length λb=>(0<=a/\a<=b/\b<=es.length)/\K (.sl sz ((es.take b.toNat).drop a.toNat))
   |false=>False
  |_=>False
 |.own l sz p n=>Dr T t λy=>match y.k with
  |.slice _ Cz _ _=>match A6 Cz sz&&D0 1 sz with
   |true=>Py lo 0 λa=>Py hi n λb=>(0<=a/\a<=b/\b<=n/\(a<n\/a=0))/\K (.own l sz (p+a.toNat) (b.toNat-a.toNat))
   |false=>False
  |_=>False
 |_=>False
def cB(f:Int->Int->Int)(a b:AV)(K:AV->Prop):Prop:=
 match a with
 |.int k m=>(match b with
  |.int k' n=>(match uO k k' with|true=>K (.int k (f m n))|false=>False)
  |_=>False)
 |_=>False
def dE(T:List TY)(op:BinOp)(t:TypeId)(r:Bool)(K:AV->Prop):Prop:=
 Dr T t λy=>match y.k with
  |.iface=>(match op with
   |.eql=>(match r with|true=>K (.lit true)|false=>K (.lit false))
   |.neq=>(match r with|true=>K (.lit false)|false=>K (.lit true))
   |_=>False)
  |_=>False
def Zd7(o:Operand):Bool:=match o with|.const _=>true|_=>false
def tV(T:List TY)(op:BinOp)(t:TypeId)(a b:AV)(c:Bool)(K:AV->Prop):Prop:=
 match a with
 |.iface _ _=>(match b with
  |.raw v=>(match v with|.nilIface=>dE T op t false K|_=>False)
  |_=>False)
 |.raw u=>(match u with
  |.nilIface=>(match b with
   |.raw v=>(match v with
    |.nilIface=>(match c with|true=>dE T op t true K|false=>False)
    |_=>False)
   |.iface _ _=>dE T op t false K
   |_=>False)
  |_=>False)
 |a=>OV T op t a b K
def KS(T:List TY)(e:TypeId)(K:AV->Prop):Prop:=
 Dr T e λy=>match y.agg with
  |true=>(match y.zero with|[]=>False|z::zs=>K (.agg (z::zs)))
  |false=>match y.zero with|[z]=>z.force K|_=>False
def Kl(k a:AV):Bool:=match k with
 |.str p=>(match a with|.str q=>p == q|_=>false)
 |.int i m=>(match a with|.int j n=>uO i j&&decide (m=n)|_=>false)
 |_=>false
def Ij(k a:AV):Bool:=match k with
 |.str _=>(match a with|.str _=>true|_=>false)
 |.int i _=>(match a with|.int j _=>uO i j|_=>false)
 |_=>false
def pD(d:TK)(k:AV):Bool:=match d with
 |.string=>(match k with|.str _=>true|_=>false)
 |.int i=>(match k with|.int j _=>uO i j|_=>false)
 |_=>false
def IQ(k:AV):List AV->Option Nat
 |[]=>none
 |a::ks=>bif Kl k a then some 0 else (IQ k ks).map (·+1)
def QV(k:AV)(ks vs:List AV):Option AV:=(IQ k ks).bind (vs[·]?)
def Ob(k:AV)(ks:List AV):List AV:=match IQ k ks with|none=>ks++[k]|some _=>ks
def Oa(k v:AV)(ks vs:List AV):List AV:=match IQ k ks with|none=>vs++[v]|some i=>vs.set i v
def QX(H:List HO)(x:AV)(K:List AV->List AV->Prop):Prop:=match x with
 |.mp ks vs=>K ks vs
 |.om l=>Dr H l λob=>(match ob with|.map ks vs=>K ks vs|_=>False)
 |_=>False
def Jx(T:List TY)(H:List HO)(t:TypeId)(x k:AV)(ok:Bool)(K:AV->Prop):Prop:=
 Dr T t λy=>match y.k with
  |.map kt vt=>Dr T kt λyk=>(match pD yk.k k with
   |true=>QX H x λks vs=>(∀a∈ks,Ij k a=true)/\
    ((QV k ks vs=none->KS T vt λz=>(match ok with|true=>K (.tuple [z,.lit false])|false=>z.force K))/\
     ∀v,QV k ks vs=some v->(match ok with|true=>K (.tuple [v,.lit true])|false=>K v))
   |false=>False)
  |_=>False
def Cj(T:List TY)(E:List AV)(H:List HO)(o:Op)(K:AV->Prop):Prop:=
 match o with
 |.move x|.assign x=>DF E x K
 |.pick c a b=>DF E c λv=>match v with
  |.lit t=>(match t with|true=>DF E a K|false=>DF E b K)
  |_=>False
 |.binOp op t x y _=>DF E x λu=>DF E y λv=>tV T op t u v (Zd7 x||Zd7 y) K
 |.unOp op _ x=>DF E x λu=>unK op u K
 |.load t x=>DF E x λu=>Oc T H t u K
 |.fieldAddr t x f=>DF E x λu=>Es T t u f K
 |.field t x f=>DF E x λu=>BH T t u f K
 |.indexAddr t x i=>DF E x λu=>DF E i λv=>Ch T H t u v K
 |.index t x i=>DF E x λu=>DF E i λv=>IT T t u v K
 |.convert s d x=>DF E x λu=>KG T s d u K
 |.extract x i=>DF E x λu=>match u with
  |.tuple vs=>Dr vs i λv=>v.force K
  |_=>False
 |.nilCheck x=>DF E x λu=>match u with
  |.at_ cs=>K (.at_ cs)
  |.ptr l o=>K (.ptr l o)
  |.el l sz i o=>K (.el l sz i o)
  |.fn f cap=>K (.fn f cap)
  |.mv f cap=>K (.mv f cap)
  |.raw v=>(match v with|.pointer p=>(match p with|some a=>K (.raw (.pointer (some a)))|_=>False)|_=>False)
  |_=>False
 |.makeFunc fn first cap=>match fn with
  |.func f=>(match first.toList with
   |[]=>GZ (DF E) cap.toList λcs=>K (.fn f cs)
   |_::_=>(match cap.toList with
    |[]=>GZ (DF E) first.toList λfs=>K (.mv f fs)
    |_::_=>False))
  |_=>False
 |.makeInterface t x=>DF E x λu=>Dr T t λy=>match y.k with
  |.iface=>False
  |_=>K (.iface t u)
 |.slice t x lo hi mx=>match mx with
  |none=>DF E x λu=>(match lo,hi with
   |none,none=>EK T t u none none K
   |some l,none=>DF E l λl=>EK T t u (some l) none K
   |none,some h=>DF E h λh=>EK T t u none (some h) K
   |some l,some h=>DF E l λl=>DF E h λh=>EK T t u (some l) (some h) K)
  |some _=>False
 |.call c=>match c.callee with
  |.builtin .len=>(match c.args.toList with
   |[x]=>(match c.argTypes.toList with
    |[t]=>DF E x λu=>V0 T t u K
    |_=>False)
   |_=>False)
  |.builtin .min=>(match c.args.toList with
   |[x,y]=>DF E x λu=>DF E y λv=>cB min u v K
   |_=>False)
  |.builtin .max=>(match c.args.toList with
   |[x,y]=>DF E x λu=>DF E y λv=>cB max u v K
   |_=>False)
  |_=>False
 |.lookup t x i ok=>DF E x λu=>DF E i λv=>Jx T H t u v ok K
 |_=>False
section
variable {P:Program}{C:Af}{w:World}{mu:Mu}
theorem CH{n:Int}(h:IU k n):Aj C w (.int k n) mu (.int k n):=by unfold Aj;exact⟨rfl,h⟩
theorem C8{b:Bool}:Aj C w (.bool b) mu (.bool b):=by unfold Aj;rfl
theorem SM{l:List UInt8}(h:l.length<=9223372036854775807):Aj C w (.str l) mu (.string ⟨l.toArray⟩):=by unfold Aj;exact⟨rfl,h⟩
theorem AG{n:Int}(h:Aj C w (.int k n) mu v):v=.int k n/\IU k n:=by unfold Aj at h;exact h
theorem BY{b:Bool}(h:Aj C w (.bool b) mu v):v=.bool b:=by unfold Aj at h;exact h
theorem B5{b:Bool}(h:Aj C w (.lit b) mu v):v=.bool b:=by unfold Aj at h;exact h
theorem SO{b:Bool}:Aj C w (.lit b) mu (.bool b):=by unfold Aj;rfl
theorem Cu{l:List UInt8}(h:Aj C w (.str l) mu v):v=.string ⟨l.toArray⟩/\l.length<=9223372036854775807:=by unfold Aj at h;exact h
theorem Zbk{m:Int}(n:Int)(h:IU k m):IU k (m.tmod n):=by
 have h0:k.min<=0:=by cases k<;>simp[Kn,E1,Hs]
 have h1:0<=k.max:=by cases k<;>simp[Ks,E1,Hs]
 obtain⟨ha,hb⟩:=h;unfold IU;have hle:(m.tmod n).natAbs<=m.natAbs:=by rw[Int.natAbs_tmod];exact Nat.mod_le _ _
 rcases Int.le_total 0 m with hm|hm;have e1:0<=m.tmod n:=P1 _ hm;omega;have e1:m.tmod n=-((-m).tmod n):=by simp
 have e3:0<=(-m).tmod n:=P1 _ (by omega);omega
theorem run_equal_bool(a b:Bool)(hu:P.underlying t=some .bool):(R9 t (.bool a) (.bool b)).run P w=.ok (a == b) w:=by
 have h:∀d,(D7 (d+1) t (.bool a) (.bool b)).run P w=.ok (a == b) w:=λd=>by simp[D7,run_underlying hu]
 exact h 9999
theorem Gx(l:List UInt8):(⟨l.toArray⟩:ByteArray).size=l.length:=by simp[ByteArray.size]
theorem NN{p q:Bool}{K:AV->Prop}{T:List TY}(hT:CY P T)(hx:u=.bool p)(hy:v=.bool q)
  (h:Dr T t λy=>(match y.k with|.bool=>Vo op p q K|_=>False)):∃r z,K r/\Aj C w r mu z/\(binOp op t u v).run P w=.ok z w:=by
 subst hx;subst hy;replace h:=Bf.1 h;obtain⟨y,hy,h⟩:=h;split at h
 ·rename_i hb;have hu:=(hT.bool hy hb);unfold Vo at h;cases op<;>simp only[]at h;case eql=>exact⟨_,_,h,C8,by rw[binOp.eq_def];simp[run_equal_bool _ _ hu]⟩
  case neq=>exact⟨_,_,h,C8,by rw[binOp.eq_def];simp[run_equal_bool _ _ hu]⟩
 exact h.elim
theorem iS(h:P.underlying t=some d):(isAgg t).run P w=.ok (Br P t) w:=by
 unfold isAgg Br;simp only[Be,run_underlying h,Bb,h];cases d<;>simp
theorem aO(h:GW P t=n)(hp:1<=n):(sizeOf t).run P w=.ok n w:=by
 unfold GW at h;cases hu:P.underlying t with
 |none=>simp[hu]at h;omega
 |some d=>
  simp only[hu]at h;unfold M4 at h;cases hi:P.info? t with
  |none=>simp[hi]at h;omega
  |some i=>simp[hi]at h;simp[sizeOf,typeInfo,hi,h]
def LV(k:Nat)(u v:Value)(r:Bool):Prop:=
 match k with
 |0=>∃p q,u=.bool p/\v=.bool q/\r=(p == q)
 |1=>∃k m n,u=.int k m/\v=.int k n/\r=decide (m=n)
 |2=>∃p q:List UInt8,u=.string ⟨p.toArray⟩/\v=.string ⟨q.toArray⟩/\r=decide (p=q)
 |_=>False
def VEq:List Nat->List Value->List Value->Bool->Prop
 |[],_,_,r=>r=true
 |k::ls,u::us,v::vs,r=>∃a b,r=(a&&b)/\LV k u v a/\VEq ls us vs b
 |_::_,_,_,_=>False
theorem Zd0{k:Nat}{x y:AV}{K:Bool->Prop}(hx:Aj C w x mu u)(hy:Aj C w y mu v)(h:Uy k x y K):∃r,K r/\LV k u v r:=by
 unfold Uy at h;split at h
 ·split at h;·obtain rfl:=BY hx;split at h;obtain rfl:=BY hy;exact⟨_,h,_,_,rfl,rfl,rfl⟩;obtain rfl:=B5 hy;exact⟨_,h,_,_,rfl,rfl,rfl⟩;exact h.elim
  obtain rfl:=B5 hx;split at h;obtain rfl:=BY hy;exact⟨_,h,_,_,rfl,rfl,rfl⟩;obtain rfl:=B5 hy;exact⟨_,h,_,_,rfl,rfl,rfl⟩;exact h.elim;exact h.elim
 ·split at h
  ·split at h
   ·split at h;·rename_i hk;obtain⟨rfl,_⟩:=AG hx;obtain⟨rfl,_⟩:=AG hy;obtain rfl:=Q0 hk;exact⟨_,h,_,_,_,rfl,rfl,rfl⟩
    exact h.elim
   exact h.elim
  exact h.elim
 ·split at h
  ·split at h;·obtain⟨rfl,_⟩:=Cu hx;obtain⟨rfl,_⟩:=Cu hy;exact⟨_,h,_,_,rfl,rfl,rfl⟩
   exact h.elim
  exact h.elim
 exact h.elim
theorem Zcf:∀(ls:List Nat)(xs ys:List AV){us vs:List Value}{K:Bool->Prop},Ac C w xs mu us->Ac C w ys mu vs->mA ls xs ys K->∃r,K r/\VEq ls us vs r/\us.length=ls.length/\vs.length=ls.length
 |[],[],[],us,vs,K,hx,hy,h=>by unfold Ac at hx hy;subst hx;subst hy;exact⟨true,h,rfl,rfl,rfl⟩
 |k::ls,a::xs,b::ys,us,vs,K,hx,hy,h=>by unfold Ac at hx hy;obtain⟨u,Tf,rfl,h1,h2⟩:=hx;obtain⟨v,CJ,rfl,h3,h4⟩:=hy;obtain⟨p,h,hp⟩:=Zd0 h1 h3 h;obtain⟨r,h,hr,e1,e2⟩:=Zcf ls xs ys h2 h4 h;exact⟨_,h,⟨p,r,rfl,hp,hr⟩,by simp[e1],by simp[e2]⟩
 |[],[],_::_,_,_,_,_,_,h|[],_::_,_,_,_,_,_,_,h|_::_,[],_,_,_,_,_,_,h|_::_,_::_,[],_,_,_,_,_,h=>h.elim
theorem Te:∀(l1 l2:List Nat)(us vs:List Value){r:Bool},VEq (l1++l2) us vs r->∃a b,r=(a&&b)/\VEq l1 (us.take l1.length) (vs.take l1.length) a/\VEq l2 (us.drop l1.length) (vs.drop l1.length) b
 |[],l2,us,vs,r,h=>⟨true,r,by simp,rfl,h⟩
 |k::l1,l2,u::us,v::vs,r,h=>by obtain⟨a,b,rfl,h1,h2⟩:=h;obtain⟨a',b',rfl,h3,h4⟩:=Te l1 l2 us vs h2;exact⟨a&&a',b',by rw[Bool.and_assoc],⟨a,a',rfl,h1,h3⟩,h4⟩
 |_::_,_,[],_,_,h|_::_,_,_::_,[],_,h=>h.elim
def kE(P:Program)(t:TypeId)(us:List Value):Value:=if Br P t=true then .agg us.toArray else us.headD undef
theorem SQ(hu:P.underlying t=some d){off:Nat}(hn:GW P t=n)(h1:1<=n)(us:List Value)(hl:off+n<=us.length):
  (part t us.toArray off).run P w=.ok (kE P t ((us.drop off).take n)) w:=by
 unfold part kE;simp only[Be,iS hu,Bb];cases ha:Br P t with
 |true=>
  simp only[if_true,Be,aO hn h1,Bb,Hx];congr 2;apply L5.1;rw[Array.toList_extract];simp[List.extract]
 |false=>
  have AA:off<us.length:=by omega
  obtain⟨m,rfl⟩:∃m,n=m+1:=⟨n-1,by omega⟩;have h2:us.toArray[off]?=some us[off]:=by simp[AA]
  have h3:((us.drop off).take (m+1)).headD undef=us[off]:=by rw[G2 AA];rfl
  simp only[h2,h3,Bool.false_eq_true,if_false,Hx]
theorem YL{ls:List Nat}(h:Ez P n t=some ls):∃d,P.underlying t=some d:=by
 cases n with
 |zero=>cases h
 |succ n=>
  unfold Ez at h;cases hu:P.underlying t with
  |none=>simp[hu]at h
  |some d=>exact⟨d,rfl⟩
theorem XK{n d:Nat}(ih:∀(t:TypeId)(ls:List Nat),Ez P n t=some ls->∀us vs r,us.length=ls.length->vs.length=ls.length->VEq ls us vs r->(D7 d t (kE P t us) (kE P t vs)).run P w=.ok r w)(us vs:List Value):
  ∀(fs:List Field)(off:Nat)(ls:List Nat)(r:Bool),Kg P (Ez P n) off fs=some ls->off+ls.length=us.length->off+ls.length=vs.length->VEq ls (us.drop off) (vs.drop off) r->
   (Qk d us.toArray vs.toArray fs).run P w=.ok r w
 |[],off,ls,r,h,_,_,hv=>by cases h;have hv:r=true:=hv;subst hv;simp[Qk]
 |f::fs,off,ls,r,h,h1,h2,hv=>by
  unfold Kg at h;cases hl:Ez P n f.type with
  |none=>simp[hl]at h
  |some l=>
   simp only[hl]at h;cases hc:(A6 f.offset off&&f.name != "_"&&A6 (GW P f.type) l.length&&D0 1 l.length)with
   |false=>rw[hc]at h;cases h
   |true=>
    rw[hc]at h;simp only[Ap]at hc;obtain⟨⟨⟨c1,c2⟩,c3⟩,c4⟩:=hc;have c1:f.offset=off:=Am c1;have c3:=Am c3;have c4:=As c4;(have c2:f.name ≠ "_":=by simpa using c2);cases hr:Kg P (Ez P n) (off+l.length) fs with
    |none=>simp[hr]at h
    |some l2=>
     simp only[hr,cond_true,Bg,Ao.injEq]at h;subst h;simp only[A1]at h1 h2;obtain⟨a,b,rfl,v1,v2⟩:=Te l l2 _ _ hv;rw[LL]at v2;rw[LL]at v2;obtain⟨dd,hd⟩:=YL hl;have e1:=SQ (w:=w) hd c3 c4 us (off:=off) (by omega);have e2:=SQ (w:=w) hd c3 c4 vs (off:=off) (by omega);have e3:=ih f.type l hl _ _ a (by simp;omega) (by simp;omega) v1;have e4:=XK ih us vs fs (off+l.length) l2 b hr (by omega) (by omega) v2;simp only[Qk,c1,c2,ne_eq,not_false_eq_true,if_true,Be,e1,e2,e3,Bb];cases a with
     |false=>simp
     |true=>simpa using e4
theorem Xa:∀(n d:Nat),n<=d->∀(t:TypeId)(ls:List Nat),Ez P n t=some ls->∀us vs r,us.length=ls.length->vs.length=ls.length->VEq ls us vs r->(D7 d t (kE P t us) (kE P t vs)).run P w=.ok r w
 |0,_,_,_,_,h,_,_,_,_,_,_=>by cases h
 |n+1,d+1,hd,t,ls,h,us,vs,r,h1,h2,hv=>by
  have h0:=h;unfold Ez at h;split at h
  ·rename_i hu;cases h
   match us,vs,h1,h2,hv with
   |[u],[v],_,_,⟨a,b,hr,⟨p,q,hu1,hv1,ha⟩,hb⟩=>
    have hb:b=true:=hb;subst hb;subst hu1;subst hv1;subst ha;(have ea:Br P t=false:=by simp[Br,hu]);simp only[kE,ea,hr,L3];simp[D7,run_underlying hu]
  ·rename_i kk hu;cases h
   match us,vs,h1,h2,hv with
   |[u],[v],_,_,⟨a,b,hr,⟨k,m,m',hu1,hv1,ha⟩,hb⟩=>
    have hb:b=true:=hb;subst hb;subst hu1;subst hv1;subst ha;(have ea:Br P t=false:=by simp[Br,hu]);simp only[kE,ea,hr,L3];have:=run_equalIn_int w d t k kk m m' hu;rw[show decide (m=m')=(m == m')from rfl];simpa using this
  ·rename_i hu;cases h
   match us,vs,h1,h2,hv with
   |[u],[v],_,_,⟨a,b,hr,⟨p,q,hu1,hv1,ha⟩,hb⟩=>
    have hb:b=true:=hb;subst hb;subst hu1;subst hv1;subst ha;(have ea:Br P t=false:=by simp[Br,hu]);simp only[kE,ea,hr,L3];have:=run_equalIn_string w d t ⟨p.toArray⟩ ⟨q.toArray⟩ hu;rw[ByteArray.toList_eq,ByteArray.toList_eq]at this;(have e:decide (p=q)=(p == q):=by rw[Qm];simp);rw[e];simpa using this
  ·rename_i fs hu;cases hp:P.stoodInHeld t with
   |true=>rw[hp]at h;cases h
   |false=>
    rw[hp]at h;have h:Kg P (Ez P n) 0 fs.toList=some ls:=h;(have ea:Br P t=true:=by simp[Br,hu]);(have hfo:P.fieldsOf t=fs:=by simp[Program.fieldsOf,hu]);simp only[kE,ea,if_true];rw[run_equalIn_struct w d t _ _ (by rw[hfo];exact hu) hp,hfo];exact XK (λt ls hl us vs r e1 e2 hv=>Xa n d (by omega) t ls hl us vs r e1 e2 hv) us vs fs.toList 0 ls r h (by omega) (by omega) (by simpa using hv)
  cases h
 |_+1,0,hd,_,_,_,_,_,_,_,_,_=>by omega
theorem fX{cs ds:List AV}{us:List Value}{K:AV->Prop}{T:List TY}(hT:CY P T)(hx:Ac C w cs mu us)(hy:Ac C w ds mu vs)(h:Ry T op t cs ds K):
  P.eqGuardType P.depth t=false/\∃r z,K r/\Aj C w r mu z/\(binOp op t (.agg us.toArray) (.agg vs.toArray)).run P w=.ok z w:=by
 unfold Ry at h;replace h:=Bf.1 h;obtain⟨y,xY,h⟩:=h;obtain⟨i,d,hi,hd,R4⟩:=hT.facts xY;have he:y.eq=ZeO P t:=by rw[R4]
 have Y7:y.agg=Br P t:=by rw[R4]
 cases ha:Br P t with
 |false=>rw[Y7,ha]at h;exact h.elim
 |true=>
  rw[Y7,ha]at h;simp only at h;rw[he]at h;unfold ZeO at h;cases hg:P.eqGuardType P.depth t with
  |true=>rw[hg]at h;exact h.elim
  |false=>
   refine⟨rfl,?_⟩;rw[hg]at h;simp only[cond_false]at h;cases hl:Ez P 8 t with
   |none=>rw[hl]at h;exact h.elim
   |some ls=>
    rw[hl]at h;(have key:∀{K':Bool->Prop},mA ls cs ds K'->∃r,K' r/\(D7 10000 t (.agg us.toArray) (.agg vs.toArray)).run P w=.ok r w:=by intro K' hk;obtain⟨r,h1,h2,e1,e2⟩:=Zcf ls cs ds hx hy hk;have:=Xa (P:=P) (w:=w) 8 10000 (by omega) t ls hl us vs r e1 e2 h2;simp only[kE,ha,if_true]at this;exact⟨r,h1,this⟩);cases op<;>simp only[]at h
    case eql=>
     obtain⟨r,h1,h2⟩:=key h;exact⟨_,_,h1,C8,by rw[run_eql_struct,h2];rfl⟩
    case neq=>
     obtain⟨r,h1,h2⟩:=key h;exact⟨_,_,h1,C8,by rw[run_neq_struct,h2];rfl⟩
theorem Zdz{x y:AV}{K:AV->Prop}{T:List TY}(hT:CY P T)(hx:Aj C w x mu u)(hy:Aj C w y mu v)(h:OV T op t x y K):
  ∃r z,K r/\Aj C w r mu z/\(binOp op t u v).run P w=.ok z w:=by
 unfold OV at h;split at h
 ·split at h
  ·split at h;·rename_i k m k' n hk;obtain⟨rfl,h1⟩:=AG hx;obtain⟨rfl,h2⟩:=AG hy;obtain rfl:=Q0 hk;unfold uT at h;cases op<;>simp only[]at h;(case quo=>obtain⟨h0,h⟩:=h;exact⟨_,_,h,CH (JP _ _),by simp[binOp,Op.intDiv,h0,Wr]⟩);(case rem=>obtain⟨h0,h⟩:=h;exact⟨_,_,h,CH (Zbk _ h1),by simp[binOp,Op.intDiv,h0]⟩);(case eql=>exact⟨_,_,h,C8,by simp[binOp,M5];rfl⟩);(case neq=>exact⟨_,_,h,C8,by simp[binOp,M5];rfl⟩);(case lss=>exact⟨_,_,h,C8,by simp[binOp,M5]⟩);(case leq=>exact⟨_,_,h,C8,by simp[binOp,M5]⟩);(case gtr=>exact⟨_,_,h,C8,by simp[binOp,M5]⟩);(case geq=>exact⟨_,_,h,C8,by simp[binOp,M5]⟩);(case add=>exact⟨_,_,h,CH (JP _ _),by simp[binOp,N1,Wr]⟩);(case sub=>exact⟨_,_,h,CH (JP _ _),by simp[binOp,N1,Wr]⟩);(case mul=>exact⟨_,_,h,CH (JP _ _),by simp[binOp,N1,Wr]⟩);(case and=>exact⟨_,_,h,CH (JP _ _),by simp[binOp,OI,Wr,Sn]⟩);(case or=>exact⟨_,_,h,CH (JP _ _),by simp[binOp,OI,Wr,Sn]⟩);(case xor=>exact⟨_,_,h,CH (JP _ _),by simp[binOp,OI,Wr,Sn]⟩);case andNot=>exact⟨_,_,h,CH (JP _ _),by simp[binOp,OI,Wr,Sn]⟩
   exact h.elim
  exact h.elim
 ·split at h;·exact NN hT (BY hx) (BY hy) h
  exact NN hT (BY hx) (B5 hy) h;exact h.elim
 ·split at h;·exact NN hT (B5 hx) (BY hy) h
  exact NN hT (B5 hx) (B5 hy) h;exact h.elim
 ·split at h
  ·obtain⟨rfl,h1⟩:=Cu hx;obtain⟨rfl,h2⟩:=Cu hy;rename_i p _ q;unfold zQ at h;cases op<;>simp only[]at h
   case add=>
    obtain⟨h0,h⟩:=h;refine⟨_,_,h,SM (by simpa using h0),?_⟩;rw[show binOp .add t (.string ⟨p.toArray⟩) (.string ⟨q.toArray⟩)=Ip .add ⟨p.toArray⟩ ⟨q.toArray⟩from by simp[binOp],run_string_add_sum _ _ _ (by simpa[Gx]using h0),ByteArray.mk_append_mk]
   (case eql=>exact⟨_,_,h,C8,by simp[binOp,Ip]⟩);(case neq=>exact⟨_,_,h,C8,by simp[binOp,Ip]⟩);(case lss=>exact⟨_,_,h,C8,by simp[binOp,Ip]⟩);(case leq=>exact⟨_,_,h,C8,by simp[binOp,Ip]⟩);(case gtr=>exact⟨_,_,h,C8,by simp[binOp,Ip]⟩);case geq=>exact⟨_,_,h,C8,by simp[binOp,Ip]⟩
  exact h.elim
 ·split at h;·unfold Aj at hx hy;obtain⟨us,rfl,hx⟩:=hx;obtain⟨vs,rfl,hy⟩:=hy;exact(fX hT hx hy h).2
  exact h.elim
 exact h.elim
theorem Zgs{op:UnOp}{x:AV}{K:AV->Prop}(hx:Aj C w x mu u)(h:unK op x K):
  ∃r z,K r/\Aj C w r mu z/\(PX op u).run P w=.ok z w:=by
 unfold unK at h;split at h
 ·split at h;·obtain⟨rfl,h1⟩:=AG hx;exact⟨_,_,h,CH (JP _ _),by simp[PX,N1,Wr]⟩
  exact h.elim
 ·split at h;·obtain rfl:=BY hx;exact⟨_,_,h,C8,by simp[PX]⟩
  obtain rfl:=B5 hx;split at h;exact⟨_,_,h,SO,by simp[PX]⟩;exact⟨_,_,h,SO,by simp[PX]⟩;exact h.elim
 exact h.elim
theorem add_lit(b o i:Nat):(⟨b,o,none⟩:Addr).add i=⟨b,o+i,none⟩:=by unfold Addr.add;split<;>simp_all
def Reads(w:World)(b o:Nat)(vs:List Value):Prop:=∀i v,vs[i]?=some v->w.cell? ⟨b,o+i,none⟩=some v
theorem Nl(h:P.underlying t=some d):(isAgg t).run P w=.ok (Br P t) w:=by
 unfold isAgg Br;rw[Be,run_underlying h];cases d<;>simp[h]
theorem Yp{T:List TY}(hT:CY P T){cs:List AV}{K:AV->Prop}(hr:Reads w b o vs)(hc:Ac C w cs mu vs)(h:ldK T t cs K):
  ∃r v,K r/\Aj C w r mu v/\(loadVar t ⟨b,o,none⟩).run P w=.ok v w:=by
 unfold ldK at h;replace h:=Bf.1 h;obtain⟨y,hy,h⟩:=h;obtain⟨i,d,hi,hd,rfl⟩:=hT.facts hy;simp only at h;have hlen:=AM _ hc;have MJ:=(Bo cs).1 hc;cases ha:Br P t with
 |true=>
  rw[ha]at h;simp only at h;obtain⟨hn,h⟩:=(Fj _ _ _).1 h
  have hl:(loadCells ⟨b,o,none⟩ (vs.take i.size).length).run P w=.ok (vs.take i.size).toArray w:=
   run_loadCells_list (P:=P) w ⟨b,o,none⟩ (vs.take i.size) (λj v hv=>by rw[add_lit];rw[Fc]at hv;split at hv;exact hr j v hv;cases hv)
  rw[A4,H2 (by omega)]at hl;refine⟨_,.agg (vs.take i.size).toArray,h,?_,?_⟩;unfold Aj;refine⟨_,rfl,(Bo _).2 ⟨by simp[hlen],λj h1 h2=>?_⟩⟩;simp only[L0];exact MJ.2 j (by simp at h1;omega) (by simp at h2;omega);simp[loadVar,Nl hd,ha,sizeOf,typeInfo,hi,hl]
 |false=>
  rw[ha]at h;cases cs with
  |nil=>exact h.elim
  |cons c cs=>
   simp only[AV.AS]at h;cases vs with
   |nil=>simp at hlen
   |cons v vs=>
    have h1:=hr 0 v rfl;have h2:=MJ.2 0 (by simp) (by simp);simp only[Gp]at h1;exact⟨_,v,h,h2,by simp[loadVar,Nl hd,ha,h1]⟩
theorem Cells.rY{cs:List AV}(h:Cells C w cs b o):∃vs,Reads w b o vs/\Ac C w cs Mu.none vs/\∀v∈vs,v.oneCell'=true:=by
 induction cs generalizing o with
 |nil=>exact⟨[],λi v hv=>by simp at hv,by unfold Ac;rfl,by simp⟩
 |cons c cs ih=>
  unfold Cells at h;obtain⟨⟨v,h1,h2,h3⟩,h4⟩:=h;obtain⟨vs,h5,h6,h7⟩:=ih h4;refine⟨v::vs,λi u hu=>?_,by unfold Ac;exact⟨v,vs,rfl,h3,h6⟩,by simpa using ⟨h1,h7⟩⟩;cases i with
  |zero=>simp at hu;subst hu;exact h2.2
  |succ i=>
   have:=h5 i u (by simpa using hu);rw[show o+(i+1)=o+1+i by omega];exact this
theorem Ac.up{cs:List AV}(h:Ac C w cs Mu.none vs):Ac C w cs mu vs:=Ac.mono (Ext.refl C w) cs (AU.none mu) h
theorem Ac.drop{cs:List AV}(h:Ac C w cs mu vs)(n:Nat):Ac C w (cs.drop n) mu (vs.drop n):=by
 obtain⟨h1,h2⟩:=(Bo cs).1 h;refine(Bo _).2 ⟨by simp[h1],λi h3 h4=>?_⟩;simp only[L1];exact h2 (n+i) (by simp at h3;omega) (by simp at h4;omega)
theorem Ac.take{cs:List AV}(h:Ac C w cs mu vs)(n:Nat):Ac C w (cs.take n) mu (vs.take n):=by
 obtain⟨h1,h2⟩:=(Bo cs).1 h;refine(Bo _).2 ⟨by simp[h1],λi h3 h4=>?_⟩;simp only[L0];exact h2 i (by simp at h3;omega) (by simp at h4;omega)
theorem Reads.drop(h:Reads w b o vs)(n:Nat):Reads w b (o+n) (vs.drop n):=λi v hv=>by
 rw[LJ]at hv;rw[show o+n+i=o+(n+i) by omega];exact h _ _ hv
theorem Cells.drop{cs:List AV}(h:Cells C w cs b o)(n:Nat):Cells C w (cs.drop n) b (o+n):=by
 rw[Dc]at *;intro i hi;have:=h (n+i) (by simp at hi;omega);simp only[L1];rw[show o+n+i=o+(n+i) by omega];exact this
theorem Nq{cur:Array Value}{fz:Nat×Nat}(h:w.heap[g]?=some (.cells cur e fz)):Reads w g 0 cur.toList:=λi v hv=>by
 rw[Fo,cell_of_row w g i cur e fz h];simpa using hv
theorem yN{T:List TY}(hT:CY P T){K:AV->Prop}(h:KS T e K):∃r z,K r/\Aj C w r mu z/\(zeroValue e).run P w=.ok z w:=by
 unfold KS at h;replace h:=Bf.1 h;obtain⟨y,hy,h⟩:=h;obtain⟨i,d,hi,hd,rfl⟩:=hT.facts hy;simp only at h;have Dj:∀z:Value,Ac C w (z.cells.toList.map xU) mu z.cells.toList:=λz=>(Bo _).2 ⟨by simp,λj h3 h4=>by simp only[MM];exact SN _⟩;rcases KU (Br P e) i.zero with h0|⟨z,hz,e1,⟨ha,cs,rfl⟩|⟨ha,hc⟩⟩;·rw[h0]at h;cases hb:Br P e<;>rw[hb]at h<;>exact h.elim
 rw[ha]at h e1;simp only at h;split at h;exact h.elim;rename_i z zs hzz;rw[<-hzz,e1]at h;exact⟨_,.agg cs,h,by unfold Aj;exact⟨cs.toList,rfl,Dj (.agg cs)⟩,by simp[zeroValue,typeInfo,hi,hz]⟩;rw[ha]at h e1;simp only at h;rw[e1,hc]at h;simp only[EU,M3,AV.AS]at h;exact⟨_,z,h,SN z,by simp[zeroValue,typeInfo,hi,hz]⟩
theorem KA{sz:Nat}:∀(es:List AV),(∀a∈es,a.cells.length=sz)->∀i e,es[i]?=some e->∃r,(flat es).drop (i*sz)=e.cells++r
 |[],_,i,e,h=>by simp at h
 |a::es,hs,0,e,h=>by simp at h;subst h;exact⟨flat es,by simp[flat]⟩
 |a::es,hs,i+1,e,h=>by
  obtain⟨r,hr⟩:=KA es (λb hb=>hs b (by simp[hb])) i e (by simpa using h);refine⟨r,?_⟩;have e1:flat (a::es)=a.cells++flat es:=by simp[flat]
  rw[e1,M1,E3 (by rw[hs a (by simp),A5];omega),hs a (by simp),Kt,<-hr];congr 1;rw[A5];omega
theorem CP{sz:Nat}:∀(es:List AV),(∀a∈es,a.cells.length=sz)->(flat es).length=es.length*sz
 |[],_=>by simp[flat]
 |a::es,h=>by
  have e1:flat (a::es)=a.cells++flat es:=by simp[flat]
  rw[e1,A1,CP es (λb hb=>h b (by simp[hb])),h a (by simp),E0,A5];omega
end
section
variable {P:Program}{C:Af}{w:World}{mu:Mu}{fresh:Nat->Prop}{H:List HO}{T:List TY}
theorem Zch(hh:B0 C w fresh mu H){c i:Nat}{De:Nat}{es:List AV}{x:AV}(hl:H[l]?=some (.arr e De es))
  (hm:mu l=some (.arr (.slice (some ⟨b,0,none⟩) n c))) (DT:sz=De) (hi:es[i]?=some x):
  ∃vs,Reads w b (i*sz) vs/\Ac C w x.cells mu vs:=by
 subst DT;obtain⟨h1,h2⟩:=hh.Dk l e sz es hl;rcases h2 with⟨h2,_⟩|⟨b',cap,cur,h3,⟨fz,h4,Qn⟩,h5,h6,h7,h8,h9⟩;rw[hm]at h2;cases h2;rw[hm]at h3;simp only[Ao.injEq,GO.arr.injEq,Value.slice.injEq,Addr.mk.injEq]at h3;obtain⟨⟨rfl,_⟩,rfl,rfl⟩:=h3;obtain⟨r,hr⟩:=KA es h1 i x hi;have h10:=(Ac.mono (Ext.refl C w) _ (fU mu) h8).drop (i*sz);rw[hr]at h10;have h11:=h10.take x.cells.length;rw[Qx rfl]at h11;refine⟨_,?_,h11⟩;have hR:=(Nq h4).drop (i*sz);rw[Fo]at hR;intro j v hv;refine hR j v ?_;rw[Fc]at hv;split at hv;rw[LJ]at hv ⊢;rw[Fc]at hv;split at hv;exact hv;cases hv;cases hv
theorem Nk(hT:CY P T)(hh:B0 C w fresh mu H){x:AV}{K:AV->Prop}(hx:Aj C w x mu u)(h:Oc T H t x K):
  ∃r v,K r/\Aj C w r mu v/\(Instr.loadAt t u).run P w=.ok v w:=by
 unfold Oc at h;split at h;unfold Aj at hx;obtain⟨b,o,rfl,hc⟩:=hx;obtain⟨vs,h1,h2,_⟩:=hc.rY;obtain⟨r,v,h3,h4,h5⟩:=Yp hT h1 h2.up h;exact⟨r,v,h3,h4,by simpa[Instr.loadAt,Instr.sureAddr]using h5⟩
 ·rename_i l o;unfold Aj at hx;obtain⟨b,hm,rfl⟩:=hx;replace h:=Bf.1 h;obtain⟨ob,BR,h⟩:=h;split at h;·rename_i cs;rw[BC]at h;obtain⟨b',cur,e,UN,hb,hr,_⟩:=hh.Dp l cs BR;rw[hm]at UN;simp only[Ao.injEq,GO.D6.injEq]at UN;subst UN;have hR:=(Nq hb).drop o;rw[Fo]at hR;obtain⟨r,v,h3,h4,h5⟩:=Yp hT hR (hr.drop o) h;exact⟨r,v,h3,h4,by simpa[Instr.loadAt,Instr.sureAddr]using h5⟩
  exact h.elim
 ·rename_i l sz i o;unfold Aj at hx;obtain⟨b,n,c,hm,rfl⟩:=hx;replace h:=Bf.1 h;obtain⟨ob,BR,h⟩:=h;cases ob with
  |cells _|dead|ghost _ _ _|inv _|map _ _=>exact h.elim
  |arr e De es=>
   simp only at h;split at h;·rename_i DT;obtain⟨a,ha,h⟩:=h;rw[AB,BC]at h;obtain⟨vs,h1,h2⟩:=Zch hh BR hm (Am DT) ha;obtain⟨r,v,h3,h4,h5⟩:=Yp hT (h1.drop o) (h2.drop o) h;exact⟨r,v,h3,h4,by simpa[Instr.loadAt,Instr.sureAddr]using h5⟩
   exact h.elim
 exact h.elim
theorem jA{cs:List AV}(h:Cells C w cs b o):Aj C w (.at_ cs) mu (.pointer (some ⟨b,o,none⟩)):=by
 unfold Aj;exact⟨b,o,rfl,h⟩
theorem run_sizeOf(h:GW P t=n)(hp:1<=n):(sizeOf t).run P w=.ok n w:=by
 obtain⟨m,rfl⟩:∃m,n=m+1:=⟨n-1,by omega⟩;obtain⟨i,d,gK,_,ZE⟩:=Me h;simp[sizeOf,typeInfo,gK,ZE]
theorem VN(hT:CY P T)(hh:B0 C w fresh mu H){x i:AV}{K:AV->Prop}(hx:Aj C w x mu u)(hi:Aj C w i mu v)(h:Ch T H t x i K):
  ∃r z,K r/\Aj C w r mu z/\(Instr.indexAt t u v).run P w=.ok z w:=by
 cases x with
 |sl sz es=>
  simp only[Ch]at h;replace h:=Bf.1 h;obtain⟨y,hy,h⟩:=h;split at h
  ·(rename_i el Cz by' ag hk);split at h
   ·rename_i hb;simp only[Ap]at hb;obtain rfl:=Am hb.1;have Fw:=As hb.2;cases i with
    |int k n=>
     simp only at h;obtain⟨h0,a,ha,h⟩:=h;rw[AB]at h;obtain⟨h1,h2,h3,h4⟩:=hT.slice hy hk;obtain⟨rfl,_⟩:=AG hi;unfold Aj at hx;have AA:n.toNat<es.length:=(AZ.1 ha).1;rcases hx with⟨_,rfl⟩|⟨b,o,cap,rfl,h6,h7,h8⟩;simp at AA;have Kp:=(FC es o).1 h8 n.toNat AA;(have hav:es[n.toNat]=a:=by rw[Cc AA]at ha;simpa using ha);rw[hav]at Kp;refine⟨_,_,h,jA Kp.2,?_⟩;(have hn:(n:Int)<(es.length:Int):=by omega);simp[Instr.indexAt,asIntOf,run_underlying h1,h0,hn,run_sizeOf h2 Fw,add_lit]
    |_=>exact h.elim
   exact h.elim
  exact h.elim
 |own l sz lo m=>
  simp only[Ch]at h;replace h:=Bf.1 h;obtain⟨y,hy,h⟩:=h;split at h
  ·(rename_i el Cz by' ag hk);replace h:=Bf.1 h;obtain⟨ob,BR,h⟩:=h;cases ob with
   |cells _|dead|ghost _ _ _|inv _|map _ _=>exact h.elim
   |arr e De es=>
    simp only at h;split at h
    ·rename_i hb;simp only[Ap]at hb;obtain rfl:=Am hb.1.1;obtain rfl:=Am hb.2;have Fw:=As hb.1.2;cases i with
     |int k n=>
      simp only at h;obtain⟨⟨h0,AA⟩,h⟩:=h;obtain⟨h1,h2,h3,h4⟩:=hT.slice hy hk;obtain⟨rfl,_⟩:=AG hi;unfold Aj at hx;obtain⟨x,hm,hle,_,rfl⟩:=hx;obtain⟨_,h5⟩:=hh.Dk l e Cz es BR;rcases h5 with⟨h5,h6⟩|⟨b,cap,cur,h5,h6,h7,h8,h9,h10⟩;rw[hm]at h5;simp only[Ao.injEq,GO.arr.injEq]at h5;subst h5;simp only[Fb]at hle;omega;rw[hm]at h5;simp only[Ao.injEq,GO.arr.injEq]at h5;subst h5;refine⟨_,.pointer (some ⟨b,(lo+n.toNat)*Cz+0,none⟩),h,?_,?_⟩;unfold Aj;exact⟨b,_,_,hm,rfl⟩;simp[Instr.indexAt,asIntOf,DJ,run_underlying h1,h0,AA,run_sizeOf h2 Fw,add_lit,A5]
     |_=>exact h.elim
    exact h.elim
  exact h.elim
 |ptr l o=>
  simp only[Ch]at h;replace h:=Bf.1 h;obtain⟨y,hy,h⟩:=h;split at h
  ·rename_i m sz ag hk;split at h
   ·rename_i hb;have Fw:=As hb;cases i with
    |int k n=>
     simp only at h;obtain⟨⟨h0,AA⟩,h⟩:=h;obtain⟨rfl,_⟩:=AG hi;obtain⟨i',d,_,hd,rfl⟩:=hT.facts hy;(obtain⟨e,rfl,Xq⟩:∃e,d=.array m e/\GW P e=sz:=by cases d<;>simp[kindOf]at hk;rename_i m' e;exact⟨e,by rw[hk.1],hk.2.1⟩);unfold Aj at hx;obtain⟨b,hm,rfl⟩:=hx;refine⟨_,.pointer (some ⟨b,o+n.toNat*sz,none⟩),h,?_,?_⟩;unfold Aj;exact⟨b,hm,rfl⟩;simp[Instr.indexAt,Instr.sureAddr,asIntOf,run_underlying hd,h0,AA,run_sizeOf Xq Fw,add_lit]
    |_=>exact h.elim
   exact h.elim
  exact h.elim
 |at_ cs=>
  simp only[Ch]at h;replace h:=Bf.1 h;obtain⟨y,hy,h⟩:=h;split at h
  ·rename_i m sz ag hk;split at h
   ·rename_i hb;obtain rfl:=Am hb;cases i with
    |int k n=>
     simp only at h;obtain⟨⟨h0,AA⟩,v,hv,h⟩:=h;obtain⟨rfl,_⟩:=AG hi;obtain⟨i',d,_,hd,rfl⟩:=hT.facts hy;(obtain⟨e,rfl,Xq⟩:∃e,d=.array m e/\GW P e=1:=by cases d<;>simp[kindOf]at hk;rename_i m' e;exact⟨e,by rw[hk.1],hk.2.1⟩);unfold Aj at hx;obtain⟨b,o,rfl,hc⟩:=hx;have h3:=hc.drop n.toNat;obtain⟨hl,hg⟩:=AZ.1 hv;rw[G2 hl,hg]at h3;unfold Cells at h3;refine⟨_,.pointer (some ⟨b,o+n.toNat,none⟩),h,jA (by unfold Cells;exact⟨h3.1,by unfold Cells;trivial⟩),?_⟩;simp[Instr.indexAt,Instr.sureAddr,asIntOf,run_underlying hd,h0,AA,run_sizeOf Xq (Kw 1),add_lit]
    |_=>exact h.elim
   exact h.elim
  exact h.elim
 |_=>exact h.elim
end
open Go.MapKept
section
variable {P:Program}{C:Af}{w:World}{mu:Mu}{fresh:Nat->Prop}{H:List HO}{T:List TY}
theorem N7(hT:CY P T){x:AV}{f:Nat}{K:AV->Prop}(hx:Aj C w x mu u)(h:Es T t x f K):
  ∃r z,K r/\Aj C w r mu z/\(Instr.fieldAt t u f).run P w=.ok z w:=by
 unfold Es at h;replace h:=Bf.1 h;obtain⟨y,hy,h⟩:=h;split at h
 ·rename_i fs hk;replace h:=Bf.1 h;obtain⟨⟨off,size,ag⟩,hf,h⟩:=h;obtain⟨fields,hu,rfl⟩:=hT.struct hy hk;simp only at h;rw[A3]at hf;cases pW:fields.toList[f]? with
  |none=>simp[pW]at hf
  |some fd=>
   simp only[pW,Bg,Ao.injEq,Prod.mk.injEq]at hf;obtain⟨rfl,DT,_⟩:=hf;(have hfa:fields[f]?=some fd:=by simpa using pW);split at h;exact h.elim;have hs:=run_sizeOf (P:=P) (w:=w) DT (by omega);(have key:∀b o,(Instr.fieldAt t (.pointer (some ⟨b,o,none⟩)) f).run P w=.ok (.pointer (some ⟨b,o+fd.offset,none⟩)) w:=λb o=>by simp[Instr.fieldAt,run_underlying hu,hfa,Instr.sureAddr,fieldPlace,hs,add_lit]);cases x with
   |at_ cs=>
    simp only at h;rw[BC]at h;unfold Aj at hx;obtain⟨b,o,rfl,hc⟩:=hx;exact⟨_,_,h,jA (hc.drop _),key b o⟩
   |ptr l o=>
    unfold Aj at hx;obtain⟨b,hm,rfl⟩:=hx;exact⟨_,_,h,by unfold Aj;exact⟨b,hm,rfl⟩,key b o⟩
   |el l sz i o=>
    unfold Aj at hx;obtain⟨b,n,c,hm,rfl⟩:=hx;refine⟨_,_,h,?_,key b _⟩;unfold Aj;exact⟨b,n,c,hm,by rw[OG]⟩
   |raw v=>
    simp only at h;split at h;(case h_2=>exact h.elim);split at h;(case h_2=>exact h.elim);rename_i b o;unfold Aj at hx;subst hx;exact⟨_,_,h,by unfold Aj;rfl,key b o⟩
   |_=>exact h.elim
 exact h.elim
theorem sS(hT:CY P T){x:AV}{f:Nat}{K:AV->Prop}(hx:Aj C w x mu u)(h:BH T t x f K):
  ∃r z,K r/\Aj C w r mu z/\(Instr.field t u f).run P w=.ok z w:=by
 unfold BH at h;replace h:=Bf.1 h;obtain⟨y,hy,h⟩:=h;split at h
 ·rename_i fs hk;replace h:=Bf.1 h;obtain⟨⟨off,size,ag⟩,hf,h⟩:=h;obtain⟨fields,hu,rfl⟩:=hT.struct hy hk;simp only at h;rw[A3]at hf;cases pW:fields.toList[f]? with
  |none=>simp[pW]at hf
  |some fd=>
   simp only[pW,Bg,Ao.injEq,Prod.mk.injEq]at hf;obtain⟨rfl,DT,Y7⟩:=hf;(have hfa:fields[f]?=some fd:=by simpa using pW);cases x with
   |agg cs=>
    simp only at h;rw[BC]at h;unfold Aj at hx;obtain⟨vs,rfl,hc⟩:=hx;have MJ:=(Bo _).1 (hc.drop fd.offset);cases hb:ag with
    |true=>
     simp only[hb]at h;obtain⟨hn,h⟩:=(Fj _ _ _).1 h;rw[hb]at Y7;refine⟨_,.agg ((vs.drop fd.offset).take size).toArray,h,?_,?_⟩;unfold Aj;exact⟨_,rfl,(hc.drop _).take _⟩
     obtain⟨d,hd⟩:∃d,P.underlying fd.type=some d:=by
      unfold Br at Y7;cases hh:P.underlying fd.type with
      |none=>simp[hh]at Y7
      |some d=>exact⟨d,rfl⟩
     obtain⟨i,hi⟩:∃i,P.info? fd.type=some i:=by
      unfold Program.underlying at hd;cases hh:P.info? fd.type with
      |none=>simp[hh]at hd
      |some i=>exact⟨i,rfl⟩
     (have ZE:i.size=size:=by unfold GW at DT;simp only[hd]at DT;unfold M4 at DT;simpa[hi]using DT);simp[Instr.field,run_underlying hu,hfa,asAgg,part,Nl hd,Y7,sizeOf,typeInfo,hi,ZE]
    |false=>
     simp only[hb]at h;split at h;exact h.elim;rename_i m;obtain⟨i,d,hi,hd,_⟩:=Me DT;cases Y6:cs.drop fd.offset with
     |nil=>simp[Y6]at h
     |cons c r=>
      simp only[Y6,AV.AS]at h;(have hl:0<(cs.drop fd.offset).length:=by rw[Y6];simp);have h2:=MJ.2 0 hl (by rw[MJ.1];exact hl);(have hc0:(cs.drop fd.offset)[0]=c:=by simp[Y6]);rw[hc0]at h2;refine⟨c,_,h,h2,?_⟩;(have gI:fd.offset<vs.length:=by have:=MJ.1;rw[C1,C1]at this;rw[C1]at hl;omega);(have hv:vs.toArray[fd.offset]?=some ((vs.drop fd.offset)[0]'(by rw[MJ.1];exact hl)):=by simp[gI]);rw[hb]at Y7;(have hia:(isAgg fd.type).run P w=.ok false w:=by rw[Nl hd,Y7]);simp[Instr.field,run_underlying hu,hfa,asAgg,part,hia,gI]
   |_=>exact h.elim
 exact h.elim
theorem sR(hT:CY P T){x i:AV}{K:AV->Prop}(hx:Aj C w x mu u)(hi:Aj C w i mu v)(h:IT T t x i K):
  ∃r z,K r/\Aj C w r mu z/\(Instr.index t u v).run P w=.ok z w:=by
 cases x with
 |str l=>
  simp only[IT]at h;replace h:=Bf.1 h;obtain⟨y,hy,h⟩:=h;split at h
  ·rename_i hk;cases i with
   |int k n=>
    obtain⟨⟨h0,h1⟩,h⟩:=h;obtain⟨rfl,_⟩:=AG hi;obtain⟨rfl,_⟩:=Cu hx;have hu:=hT.string hy hk;(have AA:n.toNat<l.length:=by omega);refine⟨_,_,h,CH (Zfr.2 ⟨by omega,by have:=(l.getD n.toNat 0).toNat_lt;omega⟩),?_⟩;(have hs:(⟨l.toArray⟩:ByteArray)[n.toNat]?=some (l.getD n.toNat 0):=by rw[ByteArray.getElem?_lt' _ _ (by rw[Gx];exact AA)];simp[UH,Cc AA,ByteArray.getElem_eq_getElem_data]);simp[Instr.index,asIntOf,run_underlying hu,h0,hs]
   |_=>exact h.elim
  exact h.elim
 |agg cs=>
  simp only[IT]at h;replace h:=Bf.1 h;obtain⟨y,hy,h⟩:=h;split at h
  ·rename_i m sz ag hk;split at h
   ·rename_i hb;simp only[Ap,Bool.not_eq_true']at hb;have DT:=Am hb.1;subst DT;have Y7:=hb.2;subst Y7;cases i with
    |int k n=>
     obtain⟨⟨h0,h1⟩,z,hz,h⟩:=h;obtain⟨rfl,_⟩:=AG hi;obtain⟨i',d,_,hd,rfl⟩:=hT.facts hy;obtain⟨e,rfl,Xq,he2⟩:∃e,d=.array m e/\GW P e=1/\Br P e=false:=by cases d<;>simp[kindOf]at hk;rename_i m' e;exact⟨e,by rw[hk.1],hk.2.1,hk.2.2⟩
     obtain⟨de,hde⟩:∃de,P.underlying e=some de:=by
      unfold GW at Xq;split at Xq;·rename_i de hde;exact⟨de,hde⟩
      cases Xq
     unfold Aj at hx;obtain⟨vs,rfl,EA⟩:=hx;obtain⟨hl,hg⟩:=(Bo _).1 EA;obtain⟨AA,hze⟩:=AZ.1 hz;(have F5:n.toNat<vs.length:=by omega);have hr:=hg n.toNat AA F5;rw[hze]at hr;refine⟨_,vs[n.toNat],h,hr,?_⟩;have hp:=SQ (w:=w) hde Xq (by omega) (off:=n.toNat*1) vs (by omega);(have hm:kE P e ((vs.drop (n.toNat*1)).take 1)=vs[n.toNat]:=by unfold kE;rw[he2,Nat.mul_one,G2 F5];rfl);rw[hm]at hp;have hs:(sizeOf e).run P w=.ok 1 w:=run_sizeOf Xq (by omega);simp[Instr.index,asIntOf,run_underlying hd,h0,h1,hs];simpa using hp
    |_=>exact h.elim
   split at h
   ·rename_i hb;simp only[Ap]at hb;obtain⟨⟨rfl,OJ⟩,hb3⟩:=hb;have Fw:=As OJ;have LS:=Am hb3;cases i with
    |int k n=>
     obtain⟨⟨h0,h1⟩,h⟩:=h;obtain⟨rfl,_⟩:=AG hi;obtain⟨i',d,_,hd,rfl⟩:=hT.facts hy;obtain⟨e,rfl,Xq,he2⟩:∃e,d=.array m e/\GW P e=sz/\Br P e=true:=by cases d<;>simp[kindOf]at hk;rename_i m' e;exact⟨e,by rw[hk.1],hk.2.1,hk.2.2⟩
     obtain⟨de,hde⟩:∃de,P.underlying e=some de:=by
      unfold GW at Xq;split at Xq;·rename_i de hde;exact⟨de,hde⟩
      omega
     unfold Aj at hx;obtain⟨vs,rfl,EA⟩:=hx;have hl:=AM _ EA;have hm:(n.toNat+1)*sz<=m*sz:=A9 _ (by omega);rw[A5]at hm;have hp:=SQ (w:=w) hde Xq (by omega) (off:=n.toNat*sz) vs (by omega);(have V4:kE P e ((vs.drop (n.toNat*sz)).take sz)=.agg ((vs.drop (n.toNat*sz)).take sz).toArray:=by unfold kE;rw[he2];rfl);rw[V4]at hp;have hs:(sizeOf e).run P w=.ok sz w:=run_sizeOf Xq (by omega);refine⟨_,.agg ((vs.drop (n.toNat*sz)).take sz).toArray,h,by unfold Aj;exact⟨_,rfl,(EA.drop _).take _⟩,?_⟩;simp[Instr.index,asIntOf,run_underlying hd,h0,h1,hs];simpa using hp
    |_=>exact h.elim
   exact h.elim
  exact h.elim
 |_=>exact h.elim
theorem iC{x:Value}{lo:Nat}(h:lo+n<=Fb x):(∃a c,DJ x sz lo n=.slice a n c):=by
 unfold Fb at h;split at h;exact⟨_,_,rfl⟩;rename_i hx;have:n=0:=by omega
 subst this;unfold DJ;split;exact⟨_,_,rfl⟩;exact⟨_,_,rfl⟩
theorem Zdy(hT:CY P T){ty:TypeId}{x:AV}{K:AV->Prop}(hx:Aj C w x mu u)(h:V0 T t x K):
  ∃r z,K r/\Aj C w r mu z/\(IV #[t] ty #[u]).run P w=.ok z w:=by
 unfold V0 at h;replace h:=Bf.1 h;obtain⟨y,hy,h⟩:=h;split at h
 ·rename_i el sz by' ag hk
  obtain⟨hu,_⟩:=hT.slice hy hk;cases x with
  |sl sz es=>
   simp only at h;unfold Aj at hx;rcases hx with⟨⟨ad,rfl⟩,rfl⟩|⟨b,o,cap,rfl,h1,h2,h3⟩;exact⟨_,_,h,CH (MI.2 (by simp)),by simp[IV,run_underlying hu,goInt]⟩;exact⟨_,_,h,CH (MI.2 (by omega)),by simp[IV,run_underlying hu,goInt]⟩
  |own l sz lo n=>
   simp only at h;unfold Aj at hx;obtain⟨x,hm,hle,UM,rfl⟩:=hx;obtain⟨a,c,hs⟩:=iC (sz:=sz) hle;exact⟨_,_,h,CH (MI.2 (by omega)),by simp[IV,run_underlying hu,goInt,hs]⟩
  |raw v=>
   split at h;·rename_i heq;cases heq
   ·rename_i heq;cases heq
   ·rename_i hv;simp only[AV.raw.injEq]at hv;unfold Aj at hx;subst hx;subst hv;exact⟨_,_,h,CH (MI.2 (by omega)),by simp[IV,run_underlying hu,goInt]⟩
   exact h.elim
  |_=>exact h.elim
 ·rename_i hk;have hu:=hT.string hy hk;cases x with
  |str l=>
   obtain⟨rfl,hl⟩:=Cu hx;exact⟨_,_,h,CH (MI.2 (by omega)),by simp[IV,run_underlying hu,goInt,Gx]⟩
  |_=>exact h.elim
 exact h.elim
theorem TD(hT:CY P T){s d:TypeId}{x:AV}{K:AV->Prop}(hx:Aj C w x mu u)(h:KG T s d x K):
  ∃r z,K r/\Aj C w r mu z/\(convert s d u).run P w=.ok z w:=by
 cases x with
 |int k n=>
  simp only[KG]at h;replace h:=Bf.1 h;obtain⟨y0,hy0,h⟩:=h;replace h:=Bf.1 h;obtain⟨y,hy,h⟩:=h;obtain⟨i,ys,_,hs,_⟩:=hT.facts hy0;split at h;·rename_i k' hk;have hu:=hT.int hy hk;obtain⟨rfl,_⟩:=AG hx;exact⟨_,_,h,CH (JP _ _),by simp[convert,run_underlying hs,run_underlying hu,Conv.intToInt,Wr]⟩
  ·rename_i hk;have hu:=hT.string hy hk;obtain⟨rfl,_⟩:=AG hx;obtain⟨⟨h0,h1⟩,h⟩:=h;refine⟨_,_,h,SM (by simp),?_⟩;(have e:Utf8.encode n=⟨[UInt8.ofNat n.toNat].toArray⟩:=by (have hv:Utf8.valid n=true:=by simp[Utf8.valid];omega);unfold Utf8.encode;simp only[hv,if_true];rw[if_pos (by omega)]);simp[convert,run_underlying hs,run_underlying hu,Conv.intToString,e]
  exact h.elim
 |str l=>
  simp only[KG]at h;replace h:=Bf.1 h;obtain⟨y0,hy0,h⟩:=h;replace h:=Bf.1 h;obtain⟨y,hy,h⟩:=h;obtain⟨i,ys,_,hs,_⟩:=hT.facts hy0;split at h;·rename_i hk;have hu:=hT.string hy hk;have Oe:=hx;obtain⟨rfl,_⟩:=Cu hx;exact⟨_,_,h,Oe,by simp[convert,run_underlying hs,run_underlying hu]⟩
  exact h.elim
 |_=>exact h.elim
theorem Hf{isS:Bool}{lo hi:Option AV}{ul uh:Option Value}{len cap:Nat}(hl:∀a,lo=some a->∃v,ul=some v/\Aj C w a mu v)(CT:lo=none->ul=none)
  (hh:∀a,hi=some a->∃v,uh=some v/\Aj C w a mu v) (hh':hi=none->uh=none) {K:Int->Int->Prop} (h:Py lo 0 λa=>Py hi len λb=>K a b):
  ∃a b:Int,K a b/\(0<=a->a<=b->b<=cap->(Instr.sliceBounds isS len cap ul uh none).run P w=.ok (a.toNat,b.toNat,cap) w):=by
 cases lo with
 |none=>
  cases hi with
  |none=>
   obtain rfl:=CT rfl;obtain rfl:=hh' rfl;refine⟨0,len,h,λh1 h2 h3=>?_⟩;simp[Instr.sliceBounds]
  |some a=>
   obtain rfl:=CT rfl;obtain⟨v,rfl,hr⟩:=hh a rfl;cases a with
   |int k n=>
    obtain⟨rfl,_⟩:=AG hr;refine⟨0,n,h,λh1 h2 h3=>?_⟩;simp[Instr.sliceBounds,run_sliceBound,h2,h3]
   |_=>simp[Py]at h
 |some a=>
  obtain⟨v,rfl,hr⟩:=hl a rfl;cases a with
  |int k n=>
   obtain⟨rfl,_⟩:=AG hr;cases hi with
   |none=>
    obtain rfl:=hh' rfl;refine⟨n,len,h,λh1 h2 h3=>?_⟩;simp[Instr.sliceBounds,run_sliceBound,h1,h2]
   |some b=>
    obtain⟨u,rfl,vL⟩:=hh b rfl;cases b with
    |int k2 m=>
     obtain⟨rfl,_⟩:=AG vL;refine⟨n,m,h,λh1 h2 h3=>?_⟩;have e:(m.toNat:Int)=m:=Int.toNat_of_nonneg (by omega);simp[Instr.sliceBounds,run_sliceBound,h1,h2,h3,e,show 0<=m by omega]
    |_=>simp[Py]at h
  |_=>simp[Py]at h
theorem Rows.cut{es:List AV}(h:Rows C w sz es b o)(i j:Nat):Rows C w sz ((es.take j).drop i) b (o+i*sz):=by
 rw[FC]at *;intro k hk;have:=h (i+k) (by simp at hk;omega);simp only[L1,L0];rw[show o+i*sz+k*sz=o+(i+k)*sz by rw[A5];omega];exact this
theorem Nj(hT:CY P T){x:AV}{lo hi:Option AV}{ul uh:Option Value}{K:AV->Prop}(hx:Aj C w x mu u)
  (hl:∀a,lo=some a->∃v,ul=some v/\Aj C w a mu v) (CT:lo=none->ul=none)
  (hh:∀a,hi=some a->∃v,uh=some v/\Aj C w a mu v) (hh':hi=none->uh=none) (h:EK T t x lo hi K):
  ∃r z,K r/\Aj C w r mu z/\(Instr.sliceAt t u ul uh none).run P w=.ok z w:=by
 cases x with
 |str l=>
  simp only[EK]at h;replace h:=Bf.1 h;obtain⟨y,hy,h⟩:=h;split at h;·rename_i hk;have hu:=hT.string hy hk;obtain⟨rfl,hlen⟩:=Cu hx;obtain⟨a,b,⟨⟨h0,h1,h2⟩,h⟩,BQ⟩:=Hf (P:=P) (isS:=false) (cap:=l.length) hl CT hh hh' h;have BQ:=BQ h0 h1 h2;refine⟨_,_,h,SM (by simp;omega),?_⟩;(have he:(⟨l.toArray⟩:ByteArray).extract a.toNat b.toNat=⟨((l.take b.toNat).drop a.toNat).toArray⟩:=by rw[ByteArray.extract_mk,R2]);simp[Instr.sliceAt,Instr.slice,run_underlying hu,Gx,BQ,he]
  exact h.elim
 |sl sz es=>
  simp only[EK]at h;replace h:=Bf.1 h;obtain⟨y,hy,h⟩:=h;split at h
  ·(rename_i el Cz by' ag hk);split at h
   ·rename_i hb;simp only[Ap]at hb;obtain rfl:=Am hb.1;have Fw:=As hb.2;obtain⟨hu,hs,_⟩:=hT.slice hy hk;unfold Aj at hx;rcases hx with⟨⟨ad,rfl⟩,rfl⟩|⟨b,o,cap,rfl,h6,h7,h8⟩;·obtain⟨a,b,⟨⟨h0,h1,h2⟩,h⟩,BQ⟩:=Hf (P:=P) (isS:=true) (cap:=0) hl CT hh hh' h;have BQ:=BQ h0 h1 h2;simp at h2;(obtain rfl:b=0:=by omega);(obtain rfl:a=0:=by omega);refine⟨_,.slice ad 0 0,h,by unfold Aj;exact .inl ⟨⟨ad,rfl⟩,by simp⟩,?_⟩;have BQ:(Instr.sliceBounds true 0 0 ul uh none).run P w=.ok (0,0,0) w:=BQ;cases ad<;>simp[Instr.sliceAt,Instr.slice,run_underlying hu,BQ,run_sizeOf hs Fw]
    obtain⟨a,b',⟨⟨h0,h1,h2⟩,h⟩,BQ⟩:=Hf (P:=P) (isS:=true) (cap:=cap) hl CT hh hh' h;have BQ:=BQ h0 h1 (by omega);by_cases hc:cap=a.toNat
    ·(have hz:(es.take b'.toNat).drop a.toNat=[]:=by apply E3;simp;omega);refine⟨_,.slice (some ⟨b,o,none⟩) (b'.toNat-a.toNat) (cap-a.toNat),h,?_,?_⟩
     ·unfold Aj;refine .inr ⟨b,o,cap-a.toNat,?_,?_,?_,?_⟩;·simp[hz];omega
      simp[hz];omega;rw[hz];unfold Rows;trivial
     simp[Instr.sliceAt,Instr.slice,run_underlying hu,BQ,run_sizeOf hs Fw,if_pos hc]
    refine⟨_,.slice (some ⟨b,o+a.toNat*Cz,none⟩) (b'.toNat-a.toNat) (cap-a.toNat),h,?_,?_⟩
    ·unfold Aj;refine .inr ⟨b,_,cap-a.toNat,?_,?_,?_,h8.cut _ _⟩;·simp;omega
     simp;omega;omega
    simp[Instr.sliceAt,Instr.slice,run_underlying hu,BQ,run_sizeOf hs Fw,hc,add_lit]
   exact h.elim
  exact h.elim
 |own l sz p n=>
  simp only[EK]at h;replace h:=Bf.1 h;obtain⟨y,hy,h⟩:=h;split at h
  ·(rename_i el Cz by' ag hk);split at h
   ·rename_i hb;simp only[Ap]at hb;obtain rfl:=Am hb.1;have Fw:=As hb.2;obtain⟨hu,hs,_⟩:=hT.slice hy hk;unfold Aj at hx;obtain⟨x,hm,hle,UM,rfl⟩:=hx;cases x with
    |slice ad N cap=>
     cases ad with
     |none=>
      exact Yab
     |some ad=>
      simp only[Fb]at hle UM;simp only[Qf]at UM;obtain⟨a,b,⟨⟨h0,h1,h2,h3⟩,h⟩,BQ⟩:=Hf (P:=P) (isS:=true) (cap:=cap-p) hl CT hh hh' h;have BQ:=BQ h0 h1 (by omega);refine⟨_,.slice (some ⟨ad.block,ad.off+(p+a.toNat)*Cz,none⟩) (b.toNat-a.toNat) (cap-(p+a.toNat)),h,?_,?_⟩;unfold Aj;exact⟨_,hm,by simp only[Fb];omega,by simp only[Fb,Qf];exact UM,by simp[DJ]⟩;(have e1:cap-(p+a.toNat)=cap-p-a.toNat:=by omega);(have e2:ad.off+(p+a.toNat)*Cz=ad.off+p*Cz+a.toNat*Cz:=by rw[A5];omega);by_cases hc:cap-p=a.toNat;·(have ha:a=0:=by rcases h3 with h3|h3;omega;exact h3);subst ha;have yK:cap-p=0:=hc;have BQ:(Instr.sliceBounds true n (cap-p) ul uh none).run P w=.ok (0,b.toNat,cap-p) w:=BQ;rw[yK]at BQ;simp[Instr.sliceAt,Instr.slice,DJ,run_underlying hu,BQ,run_sizeOf hs Fw,yK]
      simp[Instr.sliceAt,Instr.slice,DJ,run_underlying hu,BQ,run_sizeOf hs Fw,hc,add_lit,e1,e2]
    |_=>
     exact Yab
   exact h.elim
  exact h.elim
 |_=>exact h.elim
theorem CY.map{P:Program}{T:List TY}(h:CY P T){y:TY}(e:T[t]?=some y){kt vt:Nat}(hk:y.k=.map kt vt):P.underlying t=some (.map kt vt):=by
 obtain⟨i,d,h1,h2,rfl⟩:=h.facts e;cases d<;>simp_all[kindOf]
def ZcJ(d:TypeDesc)(k:AV):Prop:=(d=.string/\∃s,k=.str s)\/∃i n,d=.int i/\k=.int i n
theorem pC(hT:CY P T){y:TY}(e:T[t]?=some y){k:AV}(h:pD y.k k=true):∃d,P.underlying t=some d/\ZcJ d k:=by
 unfold pD at h;split at h;·rename_i hk;split at h;exact⟨_,hT.string e hk,.inl ⟨rfl,_,rfl⟩⟩;cases h
 ·rename_i i hk;split at h;·rename_i j n;obtain rfl:=Q0 h;exact⟨_,hT.int e hk,.inr ⟨_,_,rfl,rfl⟩⟩
  cases h
 cases h
theorem uL{k a:AV}{kv av:Value}(hl:Ij k a=true)(hk:Aj C w k mu kv)(ha:Aj C w a Mu.none av)(hd:ZcJ d k):
  Instr.sameNow d kv av=some (Kl k a)/\(Kl k a=true->a=k/\av=kv):=by
 rcases hd with⟨rfl,s,rfl⟩|⟨i,n,rfl,rfl⟩
 ·unfold Ij at hl;simp only at hl;split at hl
  ·rename_i q;obtain⟨rfl,_⟩:=Cu hk;obtain⟨rfl,_⟩:=Cu ha;refine⟨?_,λh=>?_⟩;·simp only[Instr.sameNow,Kl,Ao.injEq];rw[Qm,bytes_beq];simp
   simp only[Kl,beq_iff_eq]at h;subst h;exact⟨rfl,rfl⟩
  cases hl
 unfold Ij at hl;simp only at hl;split at hl
 ·rename_i j m;obtain rfl:=Q0 hl;obtain⟨rfl,_⟩:=AG hk;obtain⟨rfl,_⟩:=AG ha;refine⟨?_,λh=>?_⟩;·simp only[Instr.sameNow,Kl,hl,SV,if_true,Ao.injEq];rfl
  simp only[Kl,hl,SV,decide_eq_true_eq]at h;subst h;exact⟨rfl,rfl⟩
 cases hl
theorem Ze{k:AV}{kv:Value}{d:TypeDesc}(hd:ZcJ d k)(hk:Aj C w k mu kv):∀(ks:List AV)(es:List MapEntry)(i:Nat),(∀a∈ks,Ij k a=true)->Ac C w ks Mu.none (es.map MapEntry.key)->
  Instr.findNow d kv es i=some ((IQ k ks).bind λj=>es[j]?.map λe=>(i+j,e.val))/\∀j,IQ k ks=some j->∃e,es[j]?=some e/\e.key=kv/\ks[j]?=some k
 |[],es,i,_,hr=>by
  unfold Ac at hr;have:es=[]:=by simpa using hr
  subst this;exact⟨rfl,λj h=>by cases h⟩
 |a::ks,es,i,hl,hr=>by
  unfold Ac at hr;obtain⟨v,CJ,he,h2,h3⟩:=hr;cases es with
  |nil=>cases he
  |cons e es=>
   simp only[EU,List.cons.injEq]at he;obtain⟨rfl,rfl⟩:=he;obtain⟨s1,s2⟩:=uL (hl a (by simp)) hk h2 hd;obtain⟨f1,f2⟩:=Ze hd hk ks es (i+1) (λb hb=>hl b (by simp[hb])) h3;unfold IQ;cases hq:Kl k a with
   |true=>
    obtain⟨q1,q2⟩:=s2 hq;rw[hq]at s1;exact⟨by simp[Instr.findNow,s1],λj h=>by simp at h;subst h;exact⟨e,by simp,q2,by simp[q1]⟩⟩
   |false=>
    rw[hq]at s1;refine⟨?_,λj h=>?_⟩
    ·simp only[Instr.findNow,s1,f1,cond_false];cases IQ k ks with
     |none=>rfl
     |some j=>simp[OG,O6 1 j]
    cases hm:IQ k ks with
    |none=>simp[hm]at h
    |some j'=>
     simp[hm]at h;subst h;obtain⟨e',g1,g2,g3⟩:=f2 j' hm;exact⟨e',by simpa using g1,g2,by simpa using g3⟩
theorem ZcJ.isKey{k:AV}(hd:ZcJ d k)(hk:Aj C w k mu v):IsKey d v:=by
 rcases hd with⟨rfl,s,rfl⟩|⟨i,n,rfl,rfl⟩;obtain⟨rfl,_⟩:=Cu hk;simp[IsKey];obtain⟨rfl,_⟩:=AG hk;simp[IsKey]
theorem Za3(hh:B0 C w fresh mu H){x:AV}(hx:Aj C w x mu u){K:List AV->List AV->Prop}(h:QX H x K):
  ∃ks vs es,K ks vs/\Ac C w ks Mu.none (es.toList.map MapEntry.key)/\Ac C w vs Mu.none (es.toList.map MapEntry.val)/\((u=.map none/\es=#[])\/∃b clock,u=.map (some b)/\w.heap[b]?=some (.map es clock)):=by
 unfold QX at h;split at h;unfold Aj at hx;rcases hx with⟨h1,rfl,rfl⟩|⟨b,es,clock,h1,h2,h3,h4,h5⟩;exact⟨_,_,#[],h,by unfold Ac;rfl,by unfold Ac;rfl,.inl ⟨h1,rfl⟩⟩;exact⟨_,_,es,h,h4,h5.1,.inr ⟨b,clock,h1,h3⟩⟩
 ·rename_i l;replace h:=Bf.1 h;obtain⟨ob,BR,h⟩:=h;cases ob<;>first|exact h.elim|skip
  rename_i ks vs;obtain⟨b,es,clock,h1,h2,h3⟩:=hh.maps l ks vs BR;unfold Aj at hx;obtain⟨b',h4,h5⟩:=hx;rw[h1]at h4;simp only[Ao.injEq,GO.D6.injEq]at h4;subst h4;exact⟨_,_,es,h,(h3.2 _ _).1,(h3.2 _ _).2,.inr ⟨b,clock,h5,h2⟩⟩
 exact h.elim
theorem iR(hT:CY P T)(hh:B0 C w fresh mu H){x k:AV}{ok:Bool}{kv:Value}{K:AV->Prop}(hx:Aj C w x mu u)(hk:Aj C w k mu kv)(h:Jx T H t x k ok K):
  ∃r z,K r/\Aj C w r mu z/\(Instr.lookup t u kv ok).run P w=.ok z w:=by
 unfold Jx at h;replace h:=Bf.1 h;obtain⟨y,hy,h⟩:=h;split at h
 ·rename_i kt vt hyk;have hu:=hT.map hy hyk;replace h:=Bf.1 h;obtain⟨yk,ZgO,h⟩:=h;split at h
  ·rename_i hko;obtain⟨d,hd,yI⟩:=pC hT ZgO hko;obtain⟨ks,vs,es,⟨hl,hn,hs⟩,hks,EA,hes⟩:=Za3 hh hx h;obtain⟨f1,f2⟩:=Ze yI hk ks es.toList 0 hl hks;have hck:(Instr.checkKey es.isEmpty 10000 kt kv).run P w=.ok () w:=run_checkKey (P:=P) (w:=w) hd (yI.isKey hk) es.isEmpty 9999;have pU:=run_findKey (w:=w) hd f1
   have BQ:(Instr.lookup t u kv ok).run P w=((do
     let (v,ok') <-match <-Instr.findKey kt kv es.toList with
      |some (_,v)=>pure (v,true)
      |none=>pure (<-zeroValue vt,false)
     pure (if ok then Value.tuple #[v,.bool ok']else v):Sem Value)).run P w:=by
    rcases hes with⟨rfl,rfl⟩|⟨b,clock,rfl,hb⟩;simp only[Instr.lookup,Be,run_underlying hu,Bb,Hx];rw[hck];rfl;simp only[Instr.lookup,Be,run_underlying hu,Bb,Go.MapKept.run_getObj_map hb,Hx];rw[hck];rfl
   have Jb:=AM _ hks;have vH:=AM _ EA;simp only[Ky]at Jb vH;cases hm:IQ k ks with
   |none=>
    rw[hm]at pU;simp only[Pl]at pU;have hn:=hn (by simp[QV,hm]);obtain⟨r,z,h1,h2,h3⟩:=yN (C:=C) (w:=w) (mu:=mu) hT hn;cases ok with
    |true=>exact⟨_,.tuple #[z,.bool false],h1,by unfold Aj;exact⟨[z,.bool false],rfl,by unfold Ac;exact⟨_,_,rfl,h2,by unfold Ac;exact⟨_,_,rfl,SO,by unfold Ac;rfl⟩⟩⟩,by rw[BQ];simp[pU,h3]⟩
    |false=>exact⟨_,z,(AV.AS _ _).1 h1,h2,by rw[BQ];simp[pU,h3]⟩
   |some j=>
    rw[hm]at pU;obtain⟨e,g1,g2,g3⟩:=f2 j hm;have hjl:j<es.toList.length:=(AZ.1 g1).1;simp only[PU,g1,Bg]at pU;(have hvj:j<vs.length:=by omega);have h1:=hs vs[j] (by simp[QV,hm,hvj]);have h2:=((Bo _).1 EA).2 j hvj (by simp;omega);(have hej:(es.toList.map MapEntry.val)[j]'(by simp;omega)=e.val:=by rw[MM];have:=(AZ.1 g1).2;rw[this]);rw[hej]at h2;have h2:=Aj.mono (Ext.refl _ _) _ (AU.none mu) h2;cases ok with
    |true=>exact⟨_,.tuple #[e.val,.bool true],h1,by unfold Aj;exact⟨[e.val,.bool true],rfl,by unfold Ac;exact⟨_,_,rfl,h2,by unfold Ac;exact⟨_,_,rfl,SO,by unfold Ac;rfl⟩⟩⟩,by rw[BQ];simp[pU]⟩
    |false=>exact⟨_,e.val,h1,h2,by rw[BQ];simp[pU]⟩
  exact h.elim
 exact h.elim
theorem nF{xo yo:Operand}{x y:AV}{K:AV->Prop}(hT:CY P T)(hx:Aj C w x mu u)(hy:Aj C w y mu v)(h:OV T op t x y K):
  (eqGuard op t xo yo u v).run P w=.ok () w:=by
 unfold OV at h;split at h;·obtain⟨rfl,_⟩:=AG hx;unfold eqGuard;split<;>simp
 ·obtain rfl:=BY hx;unfold eqGuard;split<;>simp
 ·obtain rfl:=B5 hx;unfold eqGuard;split<;>simp
 ·obtain⟨rfl,_⟩:=Cu hx;unfold eqGuard;split<;>simp
 ·split at h;·unfold Aj at hx hy;obtain⟨us,rfl,hx⟩:=hx;obtain⟨vs,rfl,hy⟩:=hy;exact run_eqGuard_agg w op t xo yo _ _ (fX hT hx hy h).1
  exact h.elim
 exact h.elim
theorem ZhK(d:Nat)(t:TypeId)(h:P.underlying t=some (.interface ms)):(D7 (d+1) t .nilIface .nilIface).run P w=.ok true w:=by
 simp[D7,run_underlying h]
theorem ZhL(d:Nat)(t u:TypeId)(x:Value)(h:P.underlying t=some (.interface ms)):(D7 (d+1) t .nilIface (.iface u x)).run P w=.ok false w:=by
 simp[D7,run_underlying h]
theorem ZhM(d:Nat)(t u:TypeId)(x:Value)(h:P.underlying t=some (.interface ms)):(D7 (d+1) t (.iface u x) .nilIface).run P w=.ok false w:=by
 simp[D7,run_underlying h]
theorem lZ:(eqGuard op t (.const c) y .nilIface .nilIface).run P w=.ok () w:=by
 cases op<;>simp[eqGuard]
theorem lY:(eqGuard op t x (.const c) .nilIface .nilIface).run P w=.ok () w:=by
 cases op<;>cases x<;>simp[eqGuard]
theorem ZhN{u:TypeId}:(eqGuard op t x y .nilIface (.iface u c)).run P w=.ok () w:=by
 cases op<;>simp[eqGuard]
theorem ZhO{u:TypeId}:(eqGuard op t x y (.iface u c) .nilIface).run P w=.ok () w:=by
 cases op<;>simp[eqGuard]
theorem Yq{r:Bool}{K:AV->Prop}(hT:CY P T)(h:dE T op t r K)(hn:∀(d:Nat)(ms:Array (String×TypeId)),P.underlying t=some (.interface ms)->(D7 (d+1) t u v).run P w=.ok r w)
  (he:binOp .eql t u v=(do pure (.bool (<-R9 t u v)))) (gL:binOp .neq t u v=(do pure (.bool (!(<-R9 t u v))))):
  ∃r z,K r/\Aj C w r mu z/\(binOp op t u v).run P w=.ok z w:=by
 unfold dE at h;replace h:=Bf.1 h;obtain⟨y,hy,h⟩:=h;obtain⟨i,d,hi,hd,R4⟩:=hT.facts hy;subst R4;simp only at h;cases d<;>first|exact h.elim|skip
 rename_i ms;have hq:(R9 t u v).run P w=.ok r w:=hn 9999 ms hd;simp only[kindOf]at h;cases op<;>simp only[]at h<;>first|exact h.elim|skip
 ·rw[he];cases r with
  |true=>exact⟨_,_,h,(by unfold Aj;rfl:Aj C w (.lit true) mu (.bool true)),by simp only[Be,hq];rfl⟩
  |false=>exact⟨_,_,h,(by unfold Aj;rfl:Aj C w (.lit false) mu (.bool false)),by simp only[Be,hq];rfl⟩
 rw[gL];cases r with
 |true=>exact⟨_,_,h,(by unfold Aj;rfl:Aj C w (.lit false) mu (.bool false)),by simp only[Be,hq];rfl⟩
 |false=>exact⟨_,_,h,(by unfold Aj;rfl:Aj C w (.lit true) mu (.bool true)),by simp only[Be,hq];rfl⟩
theorem Zdx{xo yo:Operand}{x y:AV}{c:Bool}{K:AV->Prop}(hT:CY P T)(hx:Aj C w x mu u)(hy:Aj C w y mu v)(hc:c=true->Zd7 xo=true\/Zd7 yo=true)(h:tV T op t x y c K):
  (eqGuard op t xo yo u v).run P w=.ok () w/\∃r z,K r/\Aj C w r mu z/\(binOp op t u v).run P w=.ok z w:=by
 unfold tV at h;split at h
 ·split at h
  ·split at h;·unfold Aj at hx hy;obtain⟨y',rfl,_⟩:=hx;subst hy;exact⟨ZhO,Yq hT h (λd ms ML=>ZhM d _ _ _ ML) rfl rfl⟩
   exact h.elim
  exact h.elim
 ·split at h
  ·split at h
   ·split at h
    ·split at h
     ·unfold Aj at hx hy;subst hx;subst hy;refine⟨?_,Yq hT h (λd ms ML=>ZhK d _ ML) rfl rfl⟩;rcases hc rfl with k|k;·cases xo<;>first|exact lZ|cases k
      cases yo<;>first|exact lY|cases k
     exact h.elim
    exact h.elim
   unfold Aj at hx hy;obtain⟨y',rfl,_⟩:=hy;subst hx;exact⟨ZhN,Yq hT h (λd ms ML=>ZhL d _ _ _ ML) rfl rfl⟩;exact h.elim
  exact h.elim
 exact⟨nF hT hx hy h,Zdz hT hx hy h⟩
theorem oH{ts:Array TypeId}{ty:TypeId}{x y:AV}{K:AV->Prop}{f:Int->Int->Int}(hx:Aj C w x mu u)(hy:Aj C w y mu v)(h:cB f x y K):
  (f=min->∃r z,K r/\Aj C w r mu z/\(UJ ts ty #[u,v]).run P w=.ok z w)/\(f=max->∃r z,K r/\Aj C w r mu z/\(UK ts ty #[u,v]).run P w=.ok z w):=by
 cases x<;>first|exact h.elim|skip
 rename_i k m;cases y<;>first|exact h.elim|skip
 rename_i k' n;simp only[cB]at h;split at h
 ·rename_i hk;obtain rfl:=Q0 hk;obtain⟨rfl,h1⟩:=AG hx;obtain⟨rfl,h2⟩:=AG hy;have e:(if n<m then n else m)=min m n:=by omega
  have e':(if n>m then n else m)=max m n:=by omega
  refine⟨λhf=>⟨_,_,h,CH ?_,by subst hf;simp[UJ,Builtin.min2,<-e]⟩,λhf=>⟨_,_,h,CH ?_,by subst hf;simp[UK,Builtin.max2,<-e']⟩⟩;all_goals subst hf
  all_goals rcases Int.le_total m n with q|q
  rw[Int.min_eq_left q];exact h1;rw[Int.min_eq_right q];exact h2;rw[Int.max_eq_right q];exact h2;rw[Int.max_eq_left q];exact h1
 exact h.elim
theorem Li{E:List AV}{a:Act}(he:Ac C w E mu a.tmps.toList):∀(l:List Operand),Ac C w (l.map (BL E)) mu (l.map a.eval)
 |[]=>by simp[Ac]
 |o::l=>by simp only[EU];unfold Ac;exact⟨_,_,rfl,Bv he o,Li he l⟩
theorem Lg(hT:CY P T)(hh:B0 C w fresh mu H){E:List AV}{a:Act}(he:Ac C w E mu a.tmps.toList){o:Oper}{K:AV->Prop}(h:Cj T E H o.op K):
  ∃r v,K r/\Aj C w r mu v/\(execOp a.eval o).run P w=.ok (.value v) w:=by
 have ev:=λo=>Bv he o;unfold Cj at h;unfold execOp;split at h;case h_1 x ho=>rw[Ae]at h;exact⟨_,_,h,ev x,by simp[ho]⟩
 case h_2 x ho=>rw[Ae]at h;exact⟨_,_,h,ev x,by simp[ho]⟩
 case h_3 c x y ho=>
  rw[Ae]at h;have hc:=ev c;split at h
  ·rename_i t hb;rw[hb]at hc;have hc:=B5 hc;cases t with
   |true=>simp only at h;rw[Ae]at h;exact⟨_,_,h,ev x,by simp[ho,hc,asBool]⟩
   |false=>simp only at h;rw[Ae]at h;exact⟨_,_,h,ev y,by simp[ho,hc,asBool]⟩
  exact h.elim
 case h_4 op t x y ty ho=>
  rw[Ae,Ae]at h;obtain⟨h0,r,z,h1,h2,h3⟩:=Zdx (xo:=x) (yo:=y) hT (ev x) (ev y) (λhc=>by simpa using hc) h;exact⟨r,z,h1,h2,by simp[ho,h3,h0]⟩
 case h_5 op t x ho=>
  rw[Ae]at h;obtain⟨r,z,h1,h2,h3⟩:=Zgs (P:=P) (ev x) h;exact⟨r,z,h1,h2,by simp[ho,h3]⟩
 case h_6 t x ho=>
  rw[Ae]at h;obtain⟨r,z,h1,h2,h3⟩:=Nk hT hh (ev x) h;exact⟨r,z,h1,h2,by simp[ho,h3]⟩
 case h_7 t x f ho=>
  rw[Ae]at h;obtain⟨r,z,h1,h2,h3⟩:=N7 hT (ev x) h;exact⟨r,z,h1,h2,by simp[ho,h3]⟩
 case h_8 t x f ho=>
  rw[Ae]at h;obtain⟨r,z,h1,h2,h3⟩:=sS hT (ev x) h;exact⟨r,z,h1,h2,by simp[ho,h3]⟩
 case h_9 t x i ho=>
  rw[Ae,Ae]at h;obtain⟨r,z,h1,h2,h3⟩:=VN hT hh (ev x) (ev i) h;exact⟨r,z,h1,h2,by simp[ho,h3]⟩
 case h_10 t x i ho=>
  rw[Ae,Ae]at h;obtain⟨r,z,h1,h2,h3⟩:=sR hT (ev x) (ev i) h;exact⟨r,z,h1,h2,by simp[ho,h3]⟩
 case h_11 s d x ho=>
  rw[Ae]at h;obtain⟨r,z,h1,h2,h3⟩:=TD hT (ev x) h;exact⟨r,z,h1,h2,by simp[ho,h3]⟩
 case h_12 x i ho=>
  rw[Ae]at h;have hx:=ev x;split at h;·rename_i vs hb;rw[hb]at hx;replace h:=Bf.1 h;obtain⟨v,hv,h⟩:=h;rw[AV.AS]at h;unfold Aj at hx;obtain⟨us,hu,hr⟩:=hx;obtain⟨hl,hg⟩:=(Bo _).1 hr;obtain⟨hi,hvi⟩:=AZ.1 hv;have:=hg i hi (by omega);rw[hvi]at this;exact⟨v,_,h,this,by simp[ho,hu,Instr.extract,show i<us.length by omega]⟩
  exact h.elim
 case h_13 x ho=>
  rw[Ae]at h;have hx:=ev x;generalize lC:BL E x=ex at h hx;cases ex with
  |at_ cs=>
   have Oe:=hx;unfold Aj at hx;obtain⟨b,o,hp,_⟩:=hx;exact⟨_,_,h,Oe,by simp[ho,hp]⟩
  |ptr l o=>
   have Oe:=hx;unfold Aj at hx;obtain⟨b,_,hp⟩:=hx;exact⟨_,_,h,Oe,by simp[ho,hp]⟩
  |el l sz i o=>
   have Oe:=hx;unfold Aj at hx;obtain⟨b,_,_,_,hp⟩:=hx;exact⟨_,_,h,Oe,by simp[ho,hp]⟩
  |fn f cap=>
   have Oe:=hx;unfold Aj at hx;obtain⟨vs,hp,_⟩:=hx;exact⟨_,_,h,Oe,by simp[ho,hp]⟩
  |mv f cap=>
   have Oe:=hx;unfold Aj at hx;obtain⟨vs,hp,_⟩:=hx;exact⟨_,_,h,Oe,by simp[ho,hp]⟩
  |raw v=>
   simp only at h;split at h;(case h_2=>exact h.elim);split at h;(case h_2=>exact h.elim);have Oe:=hx;unfold Aj at hx;exact⟨_,_,h,Oe,by simp[ho,hx]⟩
  |_=>exact h.elim
 case h_14 fn first cap ho=>
  split at h
  ·rename_i f;split at h;·rename_i hf;rw[Di (DF E) (BL E) (Ae E)]at h;(have h1:first=#[]:=by cases first;simp_all);subst h1;refine⟨_,.func (.func f) #[] (cap.toList.map a.eval).toArray,h,?_,?_⟩;unfold Aj;exact⟨_,rfl,Li he _⟩;cases cap;simp[ho,Instr.makeFunc]
   split at h;·rename_i hc;rw[Di (DF E) (BL E) (Ae E)]at h;(have h1:cap=#[]:=by cases cap;simp_all);subst h1;refine⟨_,.func (.func f) (first.toList.map a.eval).toArray #[],h,?_,?_⟩;unfold Aj;exact⟨_,rfl,Li he _⟩;cases first;simp[ho,Instr.makeFunc]
   exact h.elim
  exact h.elim
 case h_15 t x ho=>
  rw[Ae]at h;replace h:=Bf.1 h;obtain⟨y,hy,h⟩:=h;obtain⟨i,d,hi,hd,rfl⟩:=hT.facts hy;refine⟨.iface t (BL E x),.iface t (a.eval x),?_,by unfold Aj;exact⟨_,rfl,ev x⟩,?_⟩
  ·split at h;·exact h.elim
   exact h
  have:∀ms,d≠.interface ms:=by intro ms hm;subst hm;simp[kindOf]at h
  cases d<;>simp_all[Instr.makeInterface,run_underlying hd]
 case h_16 t x lo hi mx ho=>
  split at h
  ·rw[Ae]at h;(have ev':∀(o:Operand)(a':AV),(some (BL E o))=some a'->∃v,some (a.eval o)=some v/\Aj C w a' mu v:=λo a' e=>by simp only[Ao.injEq]at e;subst e;exact⟨_,rfl,ev o⟩);cases lo with
   |none=>
    cases hi with
    |none=>
     obtain⟨r,z,h1,h2,h3⟩:=Nj (ul:=none) (uh:=none) hT (ev x) (by simp) (by simp) (by simp) (by simp) h;exact⟨r,z,h1,h2,by simp[ho,h3]⟩
    |some q=>
     simp only at h;rw[Ae]at h;obtain⟨r,z,h1,h2,h3⟩:=Nj (ul:=none) (uh:=some (a.eval q)) hT (ev x) (by simp) (by simp) (ev' q) (by simp) h;exact⟨r,z,h1,h2,by simp[ho,h3]⟩
   |some p=>
    cases hi with
    |none=>
     simp only at h;rw[Ae]at h;obtain⟨r,z,h1,h2,h3⟩:=Nj (ul:=some (a.eval p)) (uh:=none) hT (ev x) (ev' p) (by simp) (by simp) (by simp) h;exact⟨r,z,h1,h2,by simp[ho,h3]⟩
    |some q=>
     simp only at h;rw[Ae,Ae]at h;obtain⟨r,z,h1,h2,h3⟩:=Nj (ul:=some (a.eval p)) (uh:=some (a.eval q)) hT (ev x) (ev' p) (by simp) (ev' q) (by simp) h;exact⟨r,z,h1,h2,by simp[ho,h3]⟩
  exact h.elim
 case h_17 c ho=>
  split at h
  ·rename_i hc;split at h
   ·rename_i x hx;split at h;·rename_i t ht;rw[Ae]at h;obtain⟨Gs,args,N0⟩:=c;simp only at hc hx ht;subst hc;(obtain rfl:args=#[x]:=by cases args;simp_all);(obtain rfl:N0=#[t]:=by cases N0;simp_all);obtain⟨r,z,h1,h2,h3⟩:=Zdy (ty:=o.type) hT (ev x) h;exact⟨r,z,h1,h2,by simp[ho,resolve,invoke,builtin,h3]⟩
    exact h.elim
   exact h.elim
  ·rename_i hc;split at h;·rename_i x y hx;rw[Ae,Ae]at h;obtain⟨Gs,args,N0⟩:=c;simp only at hc hx;subst hc;(obtain rfl:args=#[x,y]:=by cases args;simp_all);obtain⟨r,z,h1,h2,h3⟩:=(oH (P:=P) (w:=w) (ts:=N0) (ty:=o.type) (ev x) (ev y) h).1 rfl;exact⟨r,z,h1,h2,by simp[ho,resolve,invoke,builtin,h3]⟩
   exact h.elim
  ·rename_i hc;split at h;·rename_i x y hx;rw[Ae,Ae]at h;obtain⟨Gs,args,N0⟩:=c;simp only at hc hx;subst hc;(obtain rfl:args=#[x,y]:=by cases args;simp_all);obtain⟨r,z,h1,h2,h3⟩:=(oH (P:=P) (w:=w) (ts:=N0) (ty:=o.type) (ev x) (ev y) h).2 rfl;exact⟨r,z,h1,h2,by simp[ho,resolve,invoke,builtin,h3]⟩
   exact h.elim
  exact h.elim
 case h_18 t x i ok ho=>
  rw[Ae,Ae]at h;obtain⟨r,z,h1,h2,h3⟩:=iR hT hh (ev x) (ev i) h;exact⟨r,z,h1,h2,by simp[ho,h3]⟩
 case h_19=>exact h.elim
end
def ZH(s:Option Nat)(H:List HO)(ob:HO)(K:List HO->Nat->Prop):Prop:=
 match s with
 |none=>aE H ob K
 |some n=>Dr H n λo=>match o with|.dead=>Dn H n ob λH'=>K H' n|_=>False
structure Al(H:List HO)(n:Nat)(H':List HO)(ob:HO):Prop where
 len:H.length<=H'.length
 lt:n<H'.length
 get:H'[n]?=some ob
 other:∀i,i≠n->H'[i]?=H[i]?
 free:H[n]?=none\/H[n]?=some .dead
theorem Rx{s:Option Nat}{H:List HO}{ob:HO}{K:List HO->Nat->Prop}(h:ZH s H ob K):∃H' n,Al H n H' ob/\K H' n:=by
 unfold ZH at h;split at h;rw[Nh]at h;refine⟨_,_,⟨by simp,by simp,by simp,λi hi=>?_,.inl (by simp)⟩,h⟩;rw[NB];split;rfl;rw[Ix (by simp;omega),Ix (by omega)];rename_i n;replace h:=Bf.1 h;obtain⟨o,ho,h⟩:=h;split at h;rw[AY]at h;have hl:=(AZ.1 ho).1;exact⟨_,n,⟨by simp,by simpa using hl,by simp[hl],λi hi=>A0 (Ne.symm hi),.inr ho⟩,h⟩;exact h.elim
section
variable {G:Cx}{C:Af}{w:World}{mu:Mu}{H:List HO}{E:List AV}{a:Act}
def Mu.set(mu:Mu)(l:Nat)(g:Option GO):Mu:=λi=>if i=l then g else mu i
theorem Mu.AP(mu:Mu)(l:Nat)(g:Option GO):mu.set l g l=g:=by simp[Mu.set]
theorem Mu.AQ(mu:Mu){i:Nat}(g:Option GO)(h:i≠l):mu.set l g i=mu i:=by simp[Mu.set,h]
theorem Uj{mu:Mu}(g:Option GO)(h:mu l=none):AU mu (mu.set l g):=λi x e=>by
 by_cases hi:i=l;subst hi;rw[h]at e;cases e;rw[Mu.AQ _ _ hi];exact e
theorem Gc{mu mu':Mu}(h:∀l b,mu l=some (.D6 b)->mu' l=some (.D6 b)):AU (Cf mu) (Cf mu'):=λl g e=>by
 unfold Cf at*;split at e;·rename_i b hb;rw[h l b hb];exact e
 cases e
theorem KD(AA:∀b o,C b o->b<w.heap.size)(o:Obj):Ext C C w (w.alloc o):=
 ⟨λ_ _ h=>h,λb i hc=>heap_alloc_old _ _ (AA b i hc)⟩
theorem IZ:Ext C C w w.drew:=⟨λ_ _ h=>h,λ_ _ _=>rfl⟩
theorem Hu(hg:∀o,¬C g o)(cs:Array Value):Ext C C w (w.setRow g cs):=
 ⟨λ_ _ h=>h,λb i hc=>setRow_other _ _ _ _ (by rintro rfl;exact hg _ hc)⟩
theorem LD.alloc(h:LD G w)(o:Obj):LD G (w.alloc o):=
 ⟨h.os,h.tape,h.output,by simp;have:=h.size;omega,λk hk hm=>(heap_alloc_old w o (by have:=h.size;omega)).trans (h.block k hk hm)⟩
theorem LD.drew(h:LD G w):LD G w.drew:=⟨h.os,h.tape,h.output,h.size,h.block⟩
theorem LD.setRow(h:LD G w)(hg:G.fresh g)(cs:Array Value):LD G (w.setRow g cs):=
 ⟨h.os,h.tape,h.output,by simp;exact h.size,λk hk hm=>by
  rw[setRow_other]
  ·exact h.block k hk hm
  ·intro e;subst e;rcases hg with hg|hg
   ·omega
   exact hm hg⟩
@[simp] def HO.real:HO->Bool
 |.cells _|.arr _ _ _|.map _ _=>true
 |_=>false
theorem HO.WH{ob:HO}(h:ob.real=true):ob≠.dead:=by rintro rfl;cases h
theorem HO.TL{ob:HO}(h:ob.real=true){cs vs ms}:ob≠.ghost cs vs ms:=by rintro rfl;cases h
theorem HO.aV{ob:HO}(h:ob.real=true){I}:ob≠.inv I:=by rintro rfl;cases h
theorem CS.step{C C':Af}{w:World}{fr:Nat->Prop}{mu mu':Mu}{D:Nat×Obj}(h:CS C w fr mu D)
  (hw:GV (λb=>b<w.heap.size/\∀l g,mu l=some g->g.Az≠some b) w w')
  (hm:∀l g b,mu' l=some g->g.Az=some b->(∃l' g',mu l'=some g'/\g'.Az=some b)\/w.heap.size<=b)
  (hc:∀b o,C' b o->C b o\/w.heap.size<=b\/∃l g,mu l=some g/\g.Az=some b):CS C' w' fr mu' D:=by
 have AA:=(K2.1 h.at_).1;refine⟨by rw[hw.block D.1 ⟨AA,h.own⟩];exact h.at_,λo SZ=>?_,λl g hl hg=>?_,h.fr⟩
 ·rcases hc D.1 o SZ with k|k|⟨l',g',k1,k2⟩;·exact h.HT o k
  omega;exact h.own l' g' k1 k2
 rcases hm l g D.1 hl hg with⟨l',g',k1,k2⟩|k;exact h.own l' g' k1 k2;omega
theorem B2.step{C C':Af}{w:World}{mu mu':Mu}{H H':List HO}{ds:List (Nat×Obj)}{fr:Nat->Prop}(h:B2 C w fr mu H ds)
  (hw:GV (λb=>b<w.heap.size/\∀l g,mu l=some g->g.Az≠some b) w w')
  (hm:∀l g b,mu' l=some g->g.Az=some b->(∃l' g',mu l'=some g'/\g'.Az=some b)\/w.heap.size<=b)
  (hc:∀b o,C' b o->C b o\/w.heap.size<=b\/∃l g,mu l=some g/\g.Az=some b)
  (hH:∀(l:Nat) cs vs ms,H'[l]?=some (.ghost cs vs ms)->∃FK,H[l]?=some (.ghost FK vs ms)/\(Ac C w FK mu vs->Ac C' w' cs mu' vs))
  (hI:∀(l:Nat) I,H'[l]?=some (.inv I)->H[l]?=some (.inv I)):B2 C' w' fr mu' H' ds:=by
 refine⟨λl cs vs ms hl=>?_,λl I hl=>?_,λd hd=>(h.marks d hd).step hw hm hc,h.nd,λl l' cs vs ms cs' CJ DL hl CT BK=>?_⟩;obtain⟨FK,h1,h2⟩:=hH l cs vs ms hl;obtain⟨h3,h5,h4⟩:=h.BG l FK vs ms h1;exact⟨h2 h3,h5,λd hd=>⟨(h4 d hd).1.step hw hm hc,(h4 d hd).2⟩⟩
 ·obtain⟨h0,Sw,Sr,h1,h2,h3,h4⟩:=h.Ho l I (hI l I hl);refine⟨h0,Sw,Sr,⟨h1.fr,HS h1.base hw.size,λb o SZ=>?_,λl g b hl hg=>?_,h1.sub,λb hb=>Nat.lt_of_lt_of_le (h1.lt b hb) hw.size,λb hb l g hl hg=>?_,λb o hb SZ=>?_⟩,I.Ol Sw Sr w w' h2 ⟨hw.os,hw.tape,hw.output,hw.size,λb hb=>hw.block b ⟨h1.lt b hb,h1.own b hb⟩⟩,h3,λl cs vs ms hl D hD=>?_⟩
  ·rcases hc b o SZ with k|k|⟨l',g',k1,k2⟩;·exact h1.cb b o k
   exact .inr (HS h1.base k);exact .inr (h1.ob l' g' b k1 k2)
  ·rcases hm l g b hl hg with⟨l',g',k1,k2⟩|k;·exact h1.ob l' g' b k1 k2
   exact HS h1.base k
  ·rcases hm l g b hl hg with⟨l',g',k1,k2⟩|k;·exact h1.own b hb l' g' k1 k2
   exact absurd (h1.lt b hb) (by omega)
  ·rcases hc b o SZ with k|k|⟨l',g',k1,k2⟩;·exact h1.HT b o hb k
   exact absurd (h1.lt b (h1.sub b hb)) (by omega);exact h1.own b (h1.sub b hb) l' g' k1 k2
  obtain⟨FK,k1,_⟩:=hH l cs vs ms hl;exact h4 l FK vs ms k1 D hD
 obtain⟨FK,k1,_⟩:=hH l cs vs ms hl;obtain⟨GL,k2,_⟩:=hH l' cs' CJ DL CT;exact h.sep l l' FK vs ms GL CJ DL k1 k2 BK
theorem IF(hS:∀b,S b->b<w.heap.size)(o:Obj):GV S w (w.alloc o):=⟨rfl,rfl,rfl,by simp,λb hb=>heap_alloc_old w o (hS b hb)⟩
theorem RO(hS:¬S g)(cs:Array Value):GV S w (w.setRow g cs):=⟨rfl,rfl,rfl,by simp,λb hb=>setRow_other _ _ _ _ (λe=>hS (by subst e;exact hb))⟩
theorem AJ.drew(h:AJ G C mu E H a w):AJ G C mu E H a w.drew:=
 ⟨h.c0,h.c1,h.lt,⟨h.heap.JX,h.heap.fresh,h.heap.sep,h.heap.dead,
  λl cs hl=>let ⟨b,cur,e,h1,h2,h3,h4⟩:=h.heap.Dp l cs hl;⟨b,cur,e,h1,h2,Ac.mono IZ _ (AU.refl _) h3,h4⟩,
  λl e sz es hl=>let ⟨h1,h2⟩:=h.heap.Dk l e sz es hl
   ⟨h1,h2.imp id λ⟨b,cap,cur,k1,k2,k3,k4,k5,k6,k7⟩=>⟨b,cap,cur,k1,k2,k3,k4,k5,Ac.mono IZ _ (AU.refl _) k6,k7⟩⟩,h.heap.maps⟩,
  Ac.mono IZ _ (AU.refl _) h.env,
  let ⟨ms,k1,k2⟩:=h.defers
  ⟨ms,k1,k2.step ⟨rfl,rfl,rfl,Kw _,λ_ _=>rfl⟩ (λl g b hm hb=>.inl ⟨l,g,hm,hb⟩) (λ_ _ h=>.inl h) (λl cs vs ms hl=>⟨cs,hl,Ac.mono IZ _ (AU.refl _)⟩) (λ_ _ h=>h)⟩,h.Ax.drew,h.Dv⟩
theorem AJ.frame(h:AJ G C mu E H a w){E':List AV}{a':Act}(he:Ac C w E' mu a'.tmps.toList)(hd:a'.defers=a.defers):AJ G C mu E' H a' w:=
 ⟨h.c0,h.c1,h.lt,h.heap,he,by rw[hd];exact h.defers,h.Ax,h.Dv⟩
theorem AJ.alloc(h:AJ G C mu E H a w)(o:Obj)(ob:HO){H':List HO}(Hq:Al H n H' ob)(g:GO)(hg:∀b,g.Az=some b->b=w.heap.size)(hd:ob.real=true)
  (lF:∀cs,ob=.cells cs->∃cur e,g=.D6 w.heap.size/\o=.cells cur e (0,0)/\Ac C w cs mu cur.toList/\∀v∈cur.toList,v.oneCell'=true)
  (dU:∀e sz es,ob=.arr e sz es->(∀a∈es,a.cells.length=sz)/\∃cap cur,g=.arr (.slice (some ⟨w.heap.size,0,none⟩) es.length cap)/\
   (∃fz,o=.cells cur e fz/\Wg cur fz)/\es.length<=cap/\cap<=9223372036854775807/\cur.size=cap*sz/\Ac C w (flat es) (Cf mu) (cur.toList.take (es.length*sz))/\∀v∈cur.toList,v.oneCell'=true)
  (Znm:∀ks vs,ob=.map ks vs->∃es clock,g=.D6 w.heap.size/\o=.map es clock/\Zh1 ks vs es.toList clock:=by simp):
  AJ G C (mu.set n (some g)) E H' a (w.alloc o):=by
 have Xn:mu n=none:=by
  exact Yad
 have hle:=Uj (mu:=mu) (l:=n) (some g) Xn;have hx:=KD (C:=C) (w:=w) h.lt o;have Xp:∀{g':GO}{l b},mu l=some g'->g'.Az=some b->b<w.heap.size:=λhm hb=>(h.heap.fresh _ _ _ hm hb).2.1;have Jg:AU (Cf mu) (Cf (mu.set n (some g))):=Gc λl b e=>hle l _ e;refine⟨h.c0,h.c1,λb o hc=>by have:=h.lt b o hc;simp;omega,⟨?_,?_,?_,?_,?_,?_,?_⟩,Ac.mono hx _ hle h.env,?_,h.Ax.alloc o,HS h.Dv.1 Hq.len,λi b hn hi=>hle i _ (h.Dv.2 i b hn hi)⟩
 rotate_right
 ·obtain⟨ms,k1,k2⟩:=h.defers;refine⟨ms,k1,k2.step (IF (λb hb=>hb.1) o) (λl g' b hm hb=>?_) (λ_ _ h=>.inl h) (λl cs vs ms hl=>?_) (λl I hl=>?_)⟩
  ·by_cases e:l=n;·subst e;rw[Mu.AP]at hm;simp only[Ao.injEq]at hm;subst hm;exact .inr (Nat.le_of_eq (hg b hb).symm)
   rw[Mu.AQ _ _ e]at hm;exact .inl ⟨l,g',hm,hb⟩
  ·by_cases e:l=n;·subst e;rw[Hq.get]at hl;simp only[Ao.injEq]at hl;exact absurd hl (HO.TL hd)
   rw[Hq.other l e]at hl;exact⟨cs,hl,Ac.mono hx _ hle⟩
  by_cases e:l=n;subst e;rw[Hq.get]at hl;simp only[Ao.injEq]at hl;exact absurd hl (HO.aV hd);rw[Hq.other l e]at hl;exact hl
 intro l x hl;by_cases e:l=n;subst e;exact Hq.lt;rw[Mu.AQ _ _ e]at hl;have:=h.heap.JX _ _ hl;have:=Hq.len;omega
 ·intro l x b hl hb;by_cases e:l=n;·subst e;rw[Mu.AP]at hl;simp only[Ao.injEq]at hl;subst hl;obtain rfl:=hg b hb;exact⟨.inl h.Ax.size,by simp,λo hc=>absurd (h.lt _ _ hc) (by omega)⟩
  rw[Mu.AQ _ _ e]at hl;obtain⟨k1,k2,k3⟩:=h.heap.fresh _ _ _ hl hb;exact⟨k1,by simp;omega,k3⟩
 ·intro l x b l' x' hl hb CT dT;by_cases e:l=n
  ·by_cases e':l'=n;·omega
   exfalso;subst e;rw[Mu.AP]at hl;simp only[Ao.injEq]at hl;subst hl;obtain rfl:=hg b hb;rw[Mu.AQ _ _ e']at CT;have:=Xp CT dT;omega
  rw[Mu.AQ _ _ e]at hl;by_cases e':l'=n;exfalso;subst e';rw[Mu.AP]at CT;simp only[Ao.injEq]at CT;subst CT;obtain rfl:=hg b dT;have:=Xp hl hb;omega;rw[Mu.AQ _ _ e']at CT;exact h.heap.sep _ _ _ _ _ hl hb CT dT
 intro l hl;by_cases e:l=n;subst e;rw[Hq.get]at hl;simp only[Ao.injEq]at hl;exact absurd hl (HO.WH hd);rw[Hq.other l e]at hl;rw[Mu.AQ _ _ e];exact h.heap.dead l hl
 ·intro l cs hl;by_cases e:l=n;·subst e;rw[Hq.get]at hl;simp only[Ao.injEq]at hl;obtain⟨cur,e,rfl,rfl,k1,k2⟩:=lF cs hl;exact⟨_,cur,e,Mu.AP _ _ _,heap_alloc_new _ _,Ac.mono hx _ hle k1,k2⟩
  rw[Hq.other l e]at hl;obtain⟨b,cur,e,h1,h2,h3,h4⟩:=h.heap.Dp l cs hl;exact⟨b,cur,e,hle _ _ h1,by rw[heap_alloc_old _ _ (Xp h1 rfl)];exact h2,Ac.mono hx _ hle h3,h4⟩
 ·intro l e sz es hl;by_cases e':l=n;·subst e';rw[Hq.get]at hl;simp only[Ao.injEq]at hl;obtain⟨k0,cap,cur,rfl,⟨fz,rfl,Qn⟩,k3,k4,k5,k6,k7⟩:=dU e sz es hl;exact⟨k0,.inr ⟨_,cap,cur,Mu.AP _ _ _,⟨fz,heap_alloc_new _ _,Qn⟩,k3,k4,k5,Ac.mono hx _ Jg k6,k7⟩⟩
  rw[Hq.other l e']at hl;obtain⟨h1,h2⟩:=h.heap.Dk l e sz es hl;refine⟨h1,h2.imp (λ⟨k1,k2⟩=>⟨hle _ _ k1,k2⟩) λ⟨b,cap,cur,k1,k2,k3,k4,k5,k6,k7⟩=>⟨b,cap,cur,hle _ _ k1,?_,k3,k4,k5,Ac.mono hx _ Jg k6,k7⟩⟩;exact k2.of_eq (heap_alloc_old _ _ (Xp k1 rfl))
 intro l ks vs hl;by_cases e':l=n;subst e';rw[Hq.get]at hl;simp only[Ao.injEq]at hl;obtain⟨es,clock,rfl,rfl,k1⟩:=Znm ks vs hl;exact⟨_,es,clock,Mu.AP _ _ _,heap_alloc_new _ _,k1⟩;rw[Hq.other l e']at hl;obtain⟨b,es,clock,h1,h2,h3⟩:=h.heap.maps l ks vs hl;exact⟨b,es,clock,hle _ _ h1,by rw[heap_alloc_old _ _ (Xp h1 rfl)];exact h2,h3⟩
theorem AJ.write(h:AJ G C mu E H a w){g:GO}(hm:mu l=some g)(hb:g.Az=some b){G5 new:Array Value}{e0:TypeId}{fz:Nat×Nat}(hold:w.heap[b]?=some (.cells G5 e0 fz))(ob:HO)
  {g':GO} (R8:g'.Az=some b) (Jg:∀k,g=.D6 k->g'=.D6 k) (ZkF:∀k,g'=.D6 k->g=.D6 k) {E':List AV} (hE:Ac C (w.setRow b new) E' (mu.set l (some g')) a.tmps.toList)
  (H':List HO) (vP:ob.real=true) (hH':∀i,i≠l->(H'[i]?=some .dead->H[i]?=some .dead)/\(∀cs,H'[i]?=some (.cells cs)->∃FK,H[i]?=some (.cells FK)/\∀vs,Ac C w FK mu vs->Ac C w cs (mu.set l (some g')) vs)/\(∀e sz es,H'[i]?=some (.arr e sz es)->H[i]?=some (.arr e sz es))/\
   (∀cs vs ms,H'[i]?=some (.ghost cs vs ms)->∃FK,H[i]?=some (.ghost FK vs ms)/\∀vs,Ac C w FK mu vs->Ac C w cs (mu.set l (some g')) vs)/\(∀I,H'[i]?=some (.inv I)->H[i]?=some (.inv I)))
  (hlen:H'.length=H.length) (BR:H'[l]?=some ob)
  (lF:∀cs,ob=.cells cs->g'=.D6 b/\Ac C w cs mu new.toList/\∀v∈new.toList,v.oneCell'=true)
  (dU:∀e sz es,ob=.arr e sz es->(∀a∈es,a.cells.length=sz)/\∃cap,g'=.arr (.slice (some ⟨b,0,none⟩) es.length cap)/\
   e=e0/\es.length<=cap/\cap<=9223372036854775807/\new.size=cap*sz/\Ac C w (flat es) (Cf mu) (new.toList.take (es.length*sz))/\∀v∈new.toList,v.oneCell'=true)
  (Zkf:∀i,i≠l->∀ks vs,H'[i]?=some (.map ks vs)->H[i]?=some (.map ks vs)) (hnm:∀ks vs,ob≠.map ks vs:=by simp)
  (Qn:(∀cs,ob=.cells cs->fz=(0,0))/\∀e sz es,ob=.arr e sz es->Wg new fz:=by exact⟨λ_ _=>rfl,λ_ _ _ h=>by cases h⟩):
  AJ G C (mu.set l (some g')) E' H' a (w.setRow b new):=by
 obtain⟨f1,f2,f3⟩:=h.heap.fresh _ _ _ hm hb;have hx:=Hu (w:=w) f3 new;have hbm:AU (Cf mu) (Cf (mu.set l (some g'))):=Gc λi k e=>by by_cases hi:i=l;subst hi;rw[hm]at e;simp only[Ao.injEq]at e;rw[Mu.AP,Jg k e];rw[Mu.AQ _ _ hi];exact e
 have BK:∀{i x k},i≠l->mu i=some x->x.Az=some k->k≠b:=λhi hxx hk e=>by subst e;exact hi (h.heap.sep _ _ _ _ _ hm hb hxx hk)
 refine⟨h.c0,h.c1,λb o hc=>by simp;exact h.lt b o hc,⟨?_,?_,?_,?_,?_,?_,?_⟩,hE,?_,h.Ax.setRow f1 new,by rw[hlen];exact h.Dv.1,λi k hn hi=>by have hp:=h.Dv.2 i k hn hi;by_cases e:i=l;subst e;rw[hm]at hp;rw[Mu.AP,Jg k (Ao.inj hp)];rw[Mu.AQ _ _ e];exact hp⟩
 rotate_right
 ·obtain⟨ms,k1,k2⟩:=h.defers;refine⟨ms,k1,k2.step (RO (λhs=>hs.2 _ _ hm hb) new) (λi x k hi hk=>?_) (λ_ _ h=>.inl h) (λi cs vs ms hi=>?_) (λi I hi=>?_)⟩
  ·by_cases e:i=l;·subst e;rw[Mu.AP]at hi;simp only[Ao.injEq]at hi;subst hi;rw[R8]at hk;exact .inl ⟨_,_,hm,hb.trans hk⟩
   rw[Mu.AQ _ _ e]at hi;exact .inl ⟨i,x,hi,hk⟩
  ·by_cases e:i=l;·subst e;rw[BR]at hi;simp only[Ao.injEq]at hi;exact absurd hi (HO.TL vP)
   obtain⟨FK,k1,k2⟩:=(hH' i e).2.2.2.1 cs vs ms hi;exact⟨FK,k1,λk=>Ac.mono hx _ (AU.refl _) (k2 vs k)⟩
  by_cases e:i=l;subst e;rw[BR]at hi;simp only[Ao.injEq]at hi;exact absurd hi (HO.aV vP);exact(hH' i e).2.2.2.2 I hi
 intro i x hi;by_cases e:i=l;subst e;rw[hlen];exact h.heap.JX _ _ hm;rw[Mu.AQ _ _ e]at hi;rw[hlen];exact h.heap.JX _ _ hi
 ·intro i x k hi hk;by_cases e:i=l;·subst e;rw[Mu.AP]at hi;simp only[Ao.injEq]at hi;subst hi;rw[R8]at hk;simp only[Ao.injEq]at hk;subst hk;exact⟨f1,by simp;exact f2,f3⟩
  rw[Mu.AQ _ _ e]at hi;obtain⟨k1,k2,k3⟩:=h.heap.fresh _ _ _ hi hk;exact⟨k1,by simp;exact k2,k3⟩
 ·intro i x k i' x' hi hk EW KR;by_cases e:i=l;·subst e;rw[Mu.AP]at hi;simp only[Ao.injEq]at hi;subst hi;rw[R8]at hk;simp only[Ao.injEq]at hk;subst hk;by_cases e':i'=i;exact e';rw[Mu.AQ _ _ e']at EW;exact absurd rfl (BK e' EW KR)
  rw[Mu.AQ _ _ e]at hi;by_cases e':i'=l;subst e';rw[Mu.AP]at EW;simp only[Ao.injEq]at EW;subst EW;rw[R8]at KR;simp only[Ao.injEq]at KR;subst KR;exact absurd rfl (BK e hi hk);rw[Mu.AQ _ _ e']at EW;exact h.heap.sep _ _ _ _ _ hi hk EW KR
 intro i hi;by_cases e:i=l;subst e;rw[BR]at hi;simp only[Ao.injEq]at hi;exact absurd hi (HO.WH vP);rw[Mu.AQ _ _ e];exact h.heap.dead i ((hH' i e).1 hi)
 ·intro i cs hi;by_cases e:i=l
  ·subst e;rw[BR]at hi;simp only[Ao.injEq]at hi;obtain⟨k1,k2,k3⟩:=lF cs hi;have hf0:=Qn.1 cs hi;subst hf0;subst k1;refine⟨b,new,e0,Mu.AP _ _ _,setRow_heap _ _ _ _ _ _ hold,Ac.mono hx _ ?_ k2,k3⟩;intro j x hj;by_cases e:j=i
   ·subst e;rw[Mu.AP];cases g with
    |D6 k=>simp only[GO.Az,Ao.injEq]at hb;subst hb;rw[hm]at hj;exact hj
    |arr v=>
     exact absurd (ZkF b rfl) (by simp)
   rw[Mu.AQ _ _ e];exact hj
  obtain⟨FK,k1,k2⟩:=(hH' i e).2.1 cs hi;obtain⟨b',cur,e',h1,h2,h3,h4⟩:=h.heap.Dp i FK k1;refine⟨b',cur,e',by rw[Mu.AQ _ _ e];exact h1,?_,Ac.mono hx _ (AU.refl _) (k2 _ h3),h4⟩;rw[setRow_other _ _ _ _ (BK e h1 rfl)];exact h2
 ·intro i e' sz es hi;by_cases e:i=l;·subst e;rw[BR]at hi;simp only[Ao.injEq]at hi;obtain⟨k0,cap,rfl,rfl,k1,k2,k3,k4,k5⟩:=dU e' sz es hi;exact⟨k0,.inr ⟨b,cap,new,Mu.AP _ _ _,⟨fz,setRow_heap _ _ _ _ _ _ hold,Qn.2 _ _ _ hi⟩,k1,k2,k3,Ac.mono hx _ hbm k4,k5⟩⟩
  obtain⟨h1,h2⟩:=h.heap.Dk i e' sz es ((hH' i e).2.2.1 _ _ _ hi);refine⟨h1,h2.imp (λ⟨k1,k2⟩=>⟨by rw[Mu.AQ _ _ e];exact k1,k2⟩) λ⟨b',cap,cur,k1,k2,k3,k4,k5,k6,k7⟩=>⟨b',cap,cur,by rw[Mu.AQ _ _ e];exact k1,?_,k3,k4,k5,Ac.mono hx _ hbm k6,k7⟩⟩;exact k2.of_eq (setRow_other _ _ _ _ (BK e k1 rfl))
 intro i ks vs hi;by_cases e:i=l;subst e;rw[BR]at hi;simp only[Ao.injEq]at hi;exact absurd hi (hnm ks vs);obtain⟨b',es,clock,h1,h2,h3⟩:=h.heap.maps i ks vs (Zkf i e ks vs hi);exact⟨b',es,clock,by rw[Mu.AQ _ _ e];exact h1,by rw[setRow_other _ _ _ _ (BK e h1 rfl)];exact h2,h3⟩
theorem lW(hg:∀o,¬C g o){lX:Array MapEntry}{c0:Nat}(hold:w.heap[g]?=some (.map lX c0))(es:Array MapEntry)(cl:Nat):Ext C C w (w.putObj g (.map es cl)):=
 ⟨λ_ _ h=>h,λb i hc=>C5 (by rintro rfl;exact hg _ hc)⟩
theorem aL(hS:¬S g)(o:Obj):GV S w (w.putObj g o):=
 ⟨rfl,rfl,rfl,by simp[World.putObj],λb hb=>C5 (λe=>hS (by subst e;exact hb))⟩
theorem LD.putObj(h:LD G w)(hg:G.fresh g)(o:Obj):LD G (w.putObj g o):=
 ⟨h.os,h.tape,h.output,by simp[World.putObj];exact h.size,λk hk hm=>by
  rw[C5]
  ·exact h.block k hk hm
  ·intro e;subst e;rcases hg with hg|hg
   ·omega
   exact hm hg⟩
theorem AJ.Zas(h:AJ G C mu E H a w)(hm:mu l=some (.D6 b)){lX:Array MapEntry}{c0:Nat}(hold:w.heap[b]?=some (.map lX c0)){ks0 Tc:List AV}(hl:H[l]?=some (.map ks0 Tc))
  {es:Array MapEntry} {cl:Nat} {ks vs:List AV} (hr:Zh1 ks vs es.toList cl):AJ G C mu E (H.set l (.map ks vs)) a (w.putObj b (.map es cl)):=by
 obtain⟨f1,f2,f3⟩:=h.heap.fresh _ _ _ hm rfl;have hx:=lW f3 hold es cl;have AA:l<H.length:=(AZ.1 hl).1;have BK:∀{i x k},i≠l->mu i=some x->x.Az=some k->k≠b:=λhi hxx hk e=>by subst e;exact hi (h.heap.sep _ _ _ _ _ hm rfl hxx hk)
 have Q4:∀i,i≠l->(H.set l (.map ks vs))[i]?=H[i]?:=λi hi=>A0 (Ne.symm hi);have Dy:(H.set l (.map ks vs))[l]?=some (.map ks vs):=by simp[AA]
 refine⟨h.c0,h.c1,λb o hc=>by simp[World.putObj];exact h.lt b o hc,⟨λi x hi=>by simpa using h.heap.JX i x hi,λi x k hi hk=>?_,h.heap.sep,λi hi=>?_,λi cs hi=>?_,λi e sz es hi=>?_,λi ks' CJ hi=>?_⟩,
  Ac.mono hx _ (AU.refl _) h.env,?_,h.Ax.putObj f1 _,by simpa using h.Dv.1,h.Dv.2⟩
 rotate_right
 ·obtain⟨ms,k1,k2⟩:=h.defers;refine⟨ms,k1,k2.step (aL (λhs=>hs.2 _ _ hm rfl) _) (λi x k hi hk=>.inl ⟨i,x,hi,hk⟩) (λ_ _ h=>.inl h) (λi cs vs ms hi=>?_) (λi I hi=>?_)⟩
  ·by_cases e:i=l;·subst e;rw[Dy]at hi;cases hi
   rw[Q4 i e]at hi;exact⟨cs,hi,Ac.mono hx _ (AU.refl _)⟩
  by_cases e:i=l;subst e;rw[Dy]at hi;cases hi;rw[Q4 i e]at hi;exact hi
 obtain⟨k1,k2,k3⟩:=h.heap.fresh i x k hi hk;exact⟨k1,by simp[World.putObj];exact k2,k3⟩
 ·by_cases e:i=l;·subst e;rw[Dy]at hi;cases hi
  rw[Q4 i e]at hi;exact h.heap.dead i hi
 ·by_cases e:i=l;·subst e;rw[Dy]at hi;cases hi
  rw[Q4 i e]at hi;obtain⟨b',cur,e',h1,h2,h3,h4⟩:=h.heap.Dp i cs hi;exact⟨b',cur,e',h1,by rw[C5 (BK e h1 rfl)];exact h2,Ac.mono hx _ (AU.refl _) h3,h4⟩
 ·by_cases e':i=l;·subst e';rw[Dy]at hi;cases hi
  rw[Q4 i e']at hi;obtain⟨h1,h2⟩:=h.heap.Dk i e sz es hi;refine⟨h1,h2.imp id λ⟨b',cap,cur,k1,k2,k3,k4,k5,k6,k7⟩=>⟨b',cap,cur,k1,?_,k3,k4,k5,Ac.mono hx _ (AU.refl _) k6,k7⟩⟩;exact k2.of_eq (C5 (BK e' k1 rfl))
 by_cases e:i=l;subst e;rw[Dy]at hi;simp only[Ao.injEq,HO.map.injEq]at hi;obtain⟨rfl,rfl⟩:=hi;exact⟨b,es,cl,hm,World.putObj_heap_same f2,hr⟩;rw[Q4 i e]at hi;obtain⟨b',es',cl',h1,h2,h3⟩:=h.heap.maps i ks' CJ hi;exact⟨b',es',cl',h1,by rw[C5 (BK e h1 rfl)];exact h2,h3⟩
end
def Eg:AV->Bool
 |.any=>false
 |.raw v=>v.oneCell'
 |.agg _|.tuple _=>false
 |_=>true
mutual
def GC:AV->Bool
 |.own _ _ _ _|.el _ _ _ _=>false
 |.fn _ cap|.mv _ cap=>Mx cap
 |.iface _ x=>GC x
 |.agg cs=>Mx cs
 |.tuple vs=>Mx vs
 |_=>true
def Mx:List AV->Bool
 |[]=>true
 |a::as=>GC a&&Mx as
end
mutual
def closed:AV->Bool
 |.own _ _ _ _|.el _ _ _ _|.ptr _ _|.om _=>false
 |.fn _ cap|.mv _ cap=>AI cap
 |.iface _ x=>closed x
 |.agg cs=>AI cs
 |.tuple vs=>AI vs
 |_=>true
def AI:List AV->Bool
 |[]=>true
 |a::as=>closed a&&AI as
end
mutual
def ER:AV->Bool
 |.int _ _|.bool _|.lit _|.str _|.raw _|.any=>true
 |.fn _ cap|.mv _ cap=>HI cap
 |.iface _ x=>ER x
 |.agg cs=>HI cs
 |.tuple vs=>HI vs
 |_=>false
def HI:List AV->Bool
 |[]=>true
 |a::as=>ER a&&HI as
end
mutual
def Dh(l:Nat):AV->AV
 |.own k sz lo n=>match A6 k l with|true=>.any|false=>.own k sz lo n
 |.el k sz i o=>match A6 k l with|true=>.any|false=>.el k sz i o
 |.fn f cap=>.fn f (Cw l cap)
 |.mv f cap=>.mv f (Cw l cap)
 |.iface t x=>.iface t (Dh l x)
 |.agg cs=>.agg (Cw l cs)
 |.tuple vs=>.tuple (Cw l vs)
 |a=>a
def Cw(l:Nat):List AV->List AV
 |[]=>[]
 |a::as=>Dh l a::Cw l as
end
def K6(l:Nat):List AV->(List AV->Prop)->Prop
 |[],K=>K []
 |a::as,K=>(Dh l a).force λb=>K6 l as λbs=>K (b::bs)
def Ej(l:Nat):List HO->(List HO->Prop)->Prop
 |[],K=>K []
 |.cells cs::r,K=>K6 l cs λcs=>Ej l r λr=>K (.cells cs::r)
 |.arr e sz es::r,K=>Ej l r λr=>K (.arr e sz es::r)
 |.dead::r,K=>Ej l r λr=>K (.dead::r)
 |.ghost cs vs ms::r,K=>K6 l cs λcs=>Ej l r λr=>K (.ghost cs vs ms::r)
 |.inv I::r,K=>Ej l r λr=>K (.inv I::r)
 |.map ks vs::r,K=>Ej l r λr=>K (.map ks vs::r)
def BW(l:Nat):HO->HO
 |.cells cs=>.cells (Cw l cs)
 |.ghost cs vs ms=>.ghost (Cw l cs) vs ms
 |o=>o
theorem FW(l:Nat):∀(as:List AV)(K:List AV->Prop),K6 l as K↔K (Cw l as)
 |[],_=>by simp[K6,Cw]
 |a::as,K=>by simp[K6,Cw,AV.AS,FW l as]
theorem EZ(l:Nat):∀(os:List HO)(K:List HO->Prop),Ej l os K↔K (os.map (BW l))
 |[],_=>by simp[Ej]
 |.cells cs::r,K=>by simp[Ej,BW,FW,EZ l r]
 |.arr e sz es::r,K|.dead::r,K=>by simp[Ej,BW,EZ l r]
 |.ghost cs vs ms::r,K=>by simp[Ej,BW,FW,EZ l r]
 |.inv I::r,K|.map ks vs::r,K=>by simp[Ej,BW,EZ l r]
abbrev KK:=List AV->List HO->Prop
def H8(T:List TY)(e:TypeId)(K:AV->Prop):Prop:=
 Dr T e λy=>match y.agg with
  |true=>K (.agg y.zero)
  |false=>match y.zero with|[z]=>z.force K|_=>False
def Zt(E:List AV)(x:Operand)(K:HO->(Nat->AV)->Prop):Prop:=
 DF E x λv=>EP v λcs=>match cs.all Eg with
  |true=>K (.cells cs) λl=>.ptr l 0
  |false=>False
def Lw(T:List TY)(t:TypeId)(K:HO->(Nat->AV)->Prop):Prop:=
 Dr T t λy=>match y.zero.all Eg&&A6 y.zero.length y.size&&D0 1 y.size with
  |true=>K (.cells y.zero) λl=>.ptr l 0
  |false=>False
def ZhV(s:Option Nat)(E:List AV)(H:List HO)(x:Operand)(K:AV->KK):Prop:=Zt E x λob f=>ZH s H ob λH' l=>K (f l) E H'
def OY(s:Option Nat)(T:List TY)(E:List AV)(H:List HO)(t:TypeId)(K:AV->KK):Prop:=Lw T t λob f=>ZH s H ob λH' l=>K (f l) E H'
def EJ(T:List TY)(E:List AV)(H:List HO)(t:TypeId)(ad x:Operand)(K:AV->KK):Prop:=
 Dr T t λy=>DF E ad λp=>DF E x λv=>EP v λcs=>match cs.all Eg&&A6 cs.length y.size with
  |true=>(match p with
   |.ptr l o=>Dr H l λob=>(match ob with
    |.cells G5=>(match D0 (o+cs.length) G5.length with
     |true=>TO G5 o cs λnew=>Dn H l (.cells new) λH'=>K (.raw undef) E H'
     |false=>False)
    |_=>False)
   |.el l sz i o=>Dr H l λob=>(match ob with
    |.arr e De es=>(match A6 sz De&&cs.all GC with
     |true=>∃G5,es[i]?=some G5/\EP G5 λoc=>(match D0 (o+cs.length) oc.length with
      |true=>(match A6 cs.length sz with
       |true=>Dn H l (.arr e sz (es.set i v)) λH'=>K (.raw undef) E H'
       |false=>TO oc o cs λnc=>Dn H l (.arr e sz (es.set i (.agg nc))) λH'=>K (.raw undef) E H')
      |false=>False)
     |false=>False)
    |_=>False)
   |_=>False)
  |false=>False
def P5(E:List AV)(fs:List (Nat×Nat×Bool)):List (Nat×Operand)->List AV->(List AV->Prop)->Prop
 |[],cells,K=>K cells
 |(i,x)::r,cells,K=>Dr fs i λ(off,size,_)=>DF E x λv=>EP v λcs=>match A6 cs.length size&&D0 (off+size) cells.length&&cs.all Eg with
  |true=>TO cells off cs λcells=>P5 E fs r cells K
  |false=>False
def plA(n sz:Nat)(ag:Bool):Nat->List (Nat×Nat×Bool)
 |i=>match n with|0=>[]|n+1=>(i,sz,ag)::plA n sz ag (i+sz)
def I8(T:List TY)(E:List AV)(t:TypeId)(parts:List (Nat×Operand))(K:AV->Prop):Prop:=
 Dr T t λy=>match y.k with
  |.struct fs=>(match fs.all (λf=>D0 1 f.2.1)&&A6 y.zero.length y.size&&D0 1 y.size with
   |true=>P5 E fs parts y.zero λcells=>K (.agg cells)
   |false=>False)
  |.array n sz ag=>(match D0 1 sz&&A6 y.zero.length y.size&&D0 1 y.size with
   |true=>P5 E (plA n sz ag 0) parts y.zero λcells=>K (.agg cells)
   |false=>False)
  |_=>False
def JC(E:List AV)(sz:Nat):List (Nat×Operand)->List AV->(List AV->Prop)->Prop
 |[],es,K=>K es
 |(i,x)::r,es,K=>DF E x λv=>EP v λcs=>match A6 cs.length sz&&cs.all Eg&&cs.all GC&&Nat.blt i es.length with
  |true=>Dn es i v λes=>JC E sz r es K
  |false=>False
def sY{α:Type}(v:α):Nat->(List α->Prop)->Prop
 |0,K=>K []
 |n+1,K=>sY v n λl=>K (v::l)
theorem Ev{α:Type}(v:α):∀(n:Nat)(K:List α->Prop),sY v n K↔K (A2 n v)
 |0,_=>by simp[sY]
 |n+1,K=>by simp[sY,Ev v n,N2]
def CQ(T:List TY)(E:List AV)(t:TypeId)(n:Nat)(parts:List (Nat×Operand))(K:HO->(Nat->AV)->Prop):Prop:=
 Dr T t λy=>match y.k with
  |.slice e Cz _ _=>H8 T e λz=>EP z λzc=>(match A6 zc.length Cz&&zc.all Eg&&zc.all GC&&D0 1 Cz&&D0 (n*Cz) 16777216 with
   |true=>sY z n λes=>JC E Cz parts es λes=>K (.arr e Cz es) λl=>.own l Cz 0 n
   |false=>False)
  |_=>False
def HP(s:Option Nat)(T:List TY)(E:List AV)(H:List HO)(t:TypeId)(n:Nat)(parts:List (Nat×Operand))(K:AV->KK):Prop:=
 CQ T E t n parts λob f=>ZH s H ob λH' l=>K (f l) E H'
def Ep(T:List TY)(E:List AV)(t:TypeId)(ln cp:Operand)(K:HO->(Nat->AV)->Prop):Prop:=
 Dr T t λy=>match y.k with
  |.slice e Cz by' _=>H8 T e λz=>EP z λzc=>(match A6 zc.length Cz&&zc.all Eg&&zc.all GC&&D0 1 Cz with
   |true=>DF E ln λln=>DF E cp λcp=>(match ln,cp with
    |.int .i64 n,.int .i64 c=>(0<=n/\n<=c/\by'*c<=281474976710656)/\K (.arr e Cz (A2 n.toNat z)) λl=>.own l Cz 0 n.toNat
    |_,_=>False)
   |false=>False)
  |_=>False
def OE(s:Option Nat)(T:List TY)(E:List AV)(H:List HO)(t:TypeId)(ln cp:Operand)(K:AV->KK):Prop:=
 Ep T E t ln cp λob f=>ZH s H ob λH' l=>K (f l) E H'
def HZ(H:List HO)(x:AV)(K:Nat->List AV->Prop):Prop:=
 match x with
 |.sl sz es=>K sz es
 |.own l sz lo n=>Dr H l λob=>match ob with
  |.arr _ De es=>(match A6 sz De&&A6 lo 0 with
   |true=>n=es.length/\K sz es
   |false=>False)
  |_=>False
 |_=>False
def HD(al:Option Nat)(T:List TY)(E:List AV)(H:List HO)(t t':TypeId)(s x:Operand)(K:AV->KK):Prop:=
 match A6 t t' with
 |true=>Dr T t λy=>(match y.k with
  |.slice e Cz by' _=>(match D0 1 Cz&&D0 1 by' with
   |true=>DF E s λsv=>DF E x λxv=>(match xv with
    |.raw (.slice none 0 0)=>(match sv with
     |.own l sz lo n=>Dr H l λob=>(match ob with|.arr _ _ _=>K (.own l sz lo n) E H|_=>False)
     |.raw (.slice none 0 0)=>K (.raw (.slice none 0 0)) E H
     |_=>False)
    |_=>HZ H xv λsz xs=>(match A6 sz Cz with
     |true=>(match sv with
      |.raw (.slice none 0 0)=>(xs.length*by'<=140737488355328)/\H8 T e λz=>EP z λzc=>(match A6 zc.length Cz&&zc.all Eg with
       |true=>ZH al H (.arr e Cz xs) λH' l=>K (.own l Cz 0 xs.length) E H'
       |false=>False)
      |.own l De lo n=>Dr H l λob=>(match ob with
       |.arr e' iB es=>(match A6 De Cz&&A6 iB Cz&&A6 lo 0&&A6 e' e with
        |true=>(n=es.length/\(es++xs).length*by'<=140737488355328)/\H8 T e λz=>EP z λzc=>(match A6 zc.length Cz&&zc.all Eg with
         |true=>K6 l E λE'=>Ej l H λH=>Dn H l (.arr e Cz (es++xs)) λH'=>K (.own l Cz 0 (es++xs).length) E' H'
         |false=>False)
        |false=>False)
       |_=>False)
      |_=>False)
     |false=>False))
   |false=>False)
  |_=>False)
 |false=>False
def I3(es:List AV)(lo n:Nat)(z:AV):List AV:=es.take lo++(A2 n z++es.drop (lo+n))
def mI(T:List TY)(E:List AV)(H:List HO)(t:TypeId)(x:Operand)(K:AV->KK):Prop:=
 Dr T t λy=>match y.k with
  |.slice e Cz _ _=>H8 T e λz=>EP z λzc=>(match A6 zc.length Cz&&zc.all Eg&&zc.all GC&&D0 1 Cz with
   |true=>DF E x λv=>(match v with
    |.own l sz lo n=>Dr H l λob=>(match ob with
     |.arr e' De es=>(match A6 sz Cz&&A6 De Cz&&A6 e' e with
      |true=>Dn H l (.arr e Cz (I3 es lo n z)) λH'=>K (.tuple []) E H'
      |false=>False)
     |_=>False)
    |_=>False)
   |false=>False)
  |_=>False
def Ul(al:Option Nat)(E:List AV)(H:List HO)(K:AV->KK):Prop:=ZH al H (.map [] []) λH' l=>K (.om l) E H'
def YH(T:List TY)(E:List AV)(H:List HO)(t:TypeId)(m k x:Operand)(K:AV->KK):Prop:=
 Dr T t λy=>match y.k with
  |.map kt _=>Dr T kt λyk=>DF E m λmv=>DF E k λkv=>DF E x λv=>(match pD yk.k kv&&ER v with
   |true=>(match mv with
    |.om l=>Dr H l λob=>(match ob with
     |.map ks vs=>(∀a∈ks,Ij kv a=true)/\Dn H l (.map (Ob kv ks) (Oa kv v ks vs)) λH'=>K (.raw undef) E H'
     |_=>False)
    |_=>False)
   |false=>False)
  |_=>False
def Vn(T:List TY)(E:List AV)(H:List HO)(s d:TypeId)(x:Operand)(K:AV->KK):Prop:=
 Dr T s λys=>Dr T d λyd=>DF E x λv=>match ys.k,yd.k with
  |.string,.slice e Cz _ _=>(match v with
   |.str l=>(match A6 Cz 1 with
    |true=>Dr T e λye=>(match ye.k with
     |.int .u8=>K (.sl 1 (l.map λb=>.int .u8 b.toNat)) E H
     |_=>False)
    |false=>False)
   |_=>False)
  |.slice e Cz _ _,.string=>HZ H v λsz es=>(match A6 sz 1&&A6 Cz 1 with
   |true=>Dr T e λye=>(match ye.k with
    |.int .u8=>∃l:List UInt8,((es=l.map λb=>.int .u8 b.toNat)/\l.length<=9223372036854775807)/\K (.str l) E H
    |_=>False)
   |false=>False)
  |_,_=>False
end Go.Av
namespace Go.Av
variable {t:TypeId}
section
variable {C C':Af}{w w':World}{mu mu':Mu}
mutual
theorem E9:∀(x:AV){v:Value},ER x=true->Aj C w x mu v->Aj C' w' x mu' v
 |.any,_,_,_=>by unfold Aj;trivial
 |.int _ _,_,_,h|.bool _,_,_,h|.lit _,_,_,h|.str _,_,_,h|.raw _,_,_,h=>by unfold Aj at*;exact h
 |.sl _ _,_,hn,_|.at_ _,_,hn,_|.ptr _ _,_,hn,_|.el _ _ _ _,_,hn,_|.own _ _ _ _,_,hn,_|.mp _ _,_,hn,_|.om _,_,hn,_=>by unfold ER at hn;cases hn
 |.fn f cap,_,hn,h=>by unfold ER at hn;unfold Aj at*;obtain⟨vs,h1,h2⟩:=h;exact⟨vs,h1,Eo cap hn h2⟩
 |.mv f cap,_,hn,h=>by unfold ER at hn;unfold Aj at*;obtain⟨vs,h1,h2⟩:=h;exact⟨vs,h1,Eo cap hn h2⟩
 |.iface t x,_,hn,h=>by unfold ER at hn;unfold Aj at*;obtain⟨y,h1,h2⟩:=h;exact⟨y,h1,E9 x hn h2⟩
 |.agg cs,_,hn,h=>by unfold ER at hn;unfold Aj at*;obtain⟨vs,h1,h2⟩:=h;exact⟨vs,h1,Eo cs hn h2⟩
 |.tuple cs,_,hn,h=>by unfold ER at hn;unfold Aj at*;obtain⟨vs,h1,h2⟩:=h;exact⟨vs,h1,Eo cs hn h2⟩
theorem Eo:∀(xs:List AV){vs:List Value},HI xs=true->Ac C w xs mu vs->Ac C' w' xs mu' vs
 |[],_,_,h=>by unfold Ac at*;exact h
 |x::xs,_,hn,h=>by unfold HI at hn;simp only[Ap]at hn;unfold Ac at*;obtain⟨v,CJ,h1,h2,h3⟩:=h;exact⟨v,CJ,h1,E9 x hn.1 h2,Eo xs hn.2 h3⟩
end
end
section
variable {G:Cx}{C:Af}{w:World}{mu:Mu}{H:List HO}{E:List AV}{a:Act}{T:List TY}
def Nc(G:Cx)(a:Act)(w:World)(K:AV->KK)(s:Sem Value):Prop:=
 ∃r v E' H' C' mu' w',K r E' H'/\s.run G.P w=.ok v w'/\AJ G C' mu' E' H' a w'/\Aj C' w' r mu' v
theorem aK{x:AV}{v:Value}(h:Aj C w x mu v)(hs:Eg x=true):v.oneCell'=true:=by
 cases x<;>simp[Eg]at hs<;>unfold Aj at h;case int=>rw[h.1];rfl
 case bool=>rw[h];rfl
 case lit=>rw[h];rfl
 case str=>rw[h.1];rfl
 case sl=>rcases h with⟨⟨_,rfl⟩,_⟩|⟨_,_,_,rfl,_⟩<;>rfl
 case at_=>obtain⟨_,_,rfl,_⟩:=h;rfl
 case fn=>obtain⟨_,rfl,_⟩:=h;rfl
 case mv=>obtain⟨_,rfl,_⟩:=h;rfl
 case iface=>obtain⟨_,rfl,_⟩:=h;rfl
 case raw=>rw[h];exact hs
 case ptr=>obtain⟨_,_,rfl⟩:=h;rfl
 case el=>obtain⟨_,_,_,_,rfl⟩:=h;rfl
 case own=>obtain⟨_,_,_,_,rfl⟩:=h;unfold DJ;split<;>rfl
 case mp=>rcases h with⟨rfl,_⟩|⟨_,_,_,rfl,_⟩<;>rfl
 case om=>obtain⟨_,_,rfl⟩:=h;rfl
theorem HG{cs:List AV}{vs:List Value}(h:Ac C w cs mu vs)(hs:cs.all Eg=true):∀v∈vs,v.oneCell'=true:=by
 induction cs generalizing vs with
 |nil=>unfold Ac at h;subst h;simp
 |cons c cs ih=>
  unfold Ac at h;obtain⟨v,CJ,rfl,h2,h3⟩:=h;simp only[SY,Ap]at hs;intro u hu;simp only[List.mem_cons]at hu;rcases hu with rfl|hu;exact aK h2 hs.1;exact ih h3 hs.2 u hu
theorem KH{x:AV}{v:Value}(h:Aj C w x mu v)(hs:x.cells.all Eg=true):∃vs:List Value,v.cells=vs.toArray/\Ac C w x.cells mu vs:=by
 by_cases hx:∃cs,x=.agg cs;obtain⟨cs,rfl⟩:=hx;unfold Aj at h;obtain⟨vs,rfl,h⟩:=h;exact⟨vs,rfl,h⟩;have hc:x.cells=[x]:=by cases x<;>first|rfl|exact absurd ⟨_,rfl⟩ hx
 rw[hc]at hs ⊢;simp only[SY,List.all_nil,L3]at hs;have h1:=aK h hs;have hv:v.cells=#[v]:=by cases v<;>first|rfl|simp[Value.oneCell']at h1
 exact⟨[v],by rw[hv],by unfold Ac;exact⟨v,[],rfl,h,by unfold Ac;rfl⟩⟩
mutual
theorem WW:∀(x:AV){v:Value},GC x=true->Aj C w x mu v->Aj C w x (Cf mu) v
 |.any,_,_,_=>by unfold Aj;trivial
 |.int _ _,_,_,h|.bool _,_,_,h|.lit _,_,_,h|.str _,_,_,h|.sl _ _,_,_,h|.at_ _,_,_,h|.raw _,_,_,h=>by unfold Aj at*;exact h
 |.ptr l o,_,_,h=>by unfold Aj at*;obtain⟨b,h1,h2⟩:=h;exact⟨b,by simp[Cf,h1],h2⟩
 |.fn f cap,_,hn,h=>by unfold GC at hn;unfold Aj at*;obtain⟨vs,h1,h2⟩:=h;exact⟨vs,h1,F2 cap hn h2⟩
 |.mv f cap,_,hn,h=>by unfold GC at hn;unfold Aj at*;obtain⟨vs,h1,h2⟩:=h;exact⟨vs,h1,F2 cap hn h2⟩
 |.iface t x,_,hn,h=>by unfold GC at hn;unfold Aj at*;obtain⟨y,h1,h2⟩:=h;exact⟨y,h1,WW x hn h2⟩
 |.agg cs,_,hn,h=>by unfold GC at hn;unfold Aj at*;obtain⟨vs,h1,h2⟩:=h;exact⟨vs,h1,F2 cs hn h2⟩
 |.tuple cs,_,hn,h=>by unfold GC at hn;unfold Aj at*;obtain⟨vs,h1,h2⟩:=h;exact⟨vs,h1,F2 cs hn h2⟩
 |.el _ _ _ _,_,hn,_|.own _ _ _ _,_,hn,_=>by unfold GC at hn;cases hn
 |.mp _ _,_,_,h=>by unfold Aj at*;exact h
 |.om l,_,_,h=>by unfold Aj at*;obtain⟨b,h1,h2⟩:=h;exact⟨b,by simp[Cf,h1],h2⟩
theorem F2:∀(xs:List AV){vs:List Value},Mx xs=true->Ac C w xs mu vs->Ac C w xs (Cf mu) vs
 |[],_,_,h=>by unfold Ac at*;exact h
 |x::xs,_,hn,h=>by unfold Mx at hn;simp only[Ap]at hn;unfold Ac at*;obtain⟨v,CJ,h1,h2,h3⟩:=h;exact⟨v,CJ,h1,WW x hn.1 h2,F2 xs hn.2 h3⟩
end
mutual
theorem Ci:∀(x:AV){v:Value},closed x=true->Aj C w x mu v->Aj C w x Mu.none v
 |.any,_,_,_=>by unfold Aj;trivial
 |.int _ _,_,_,h|.bool _,_,_,h|.lit _,_,_,h|.str _,_,_,h|.sl _ _,_,_,h|.at_ _,_,_,h|.raw _,_,_,h=>by unfold Aj at*;exact h
 |.ptr l o,_,hn,h=>by unfold closed at hn;cases hn
 |.fn f cap,_,hn,h=>by unfold closed at hn;unfold Aj at*;obtain⟨vs,h1,h2⟩:=h;exact⟨vs,h1,BD cap hn h2⟩
 |.mv f cap,_,hn,h=>by unfold closed at hn;unfold Aj at*;obtain⟨vs,h1,h2⟩:=h;exact⟨vs,h1,BD cap hn h2⟩
 |.iface t x,_,hn,h=>by unfold closed at hn;unfold Aj at*;obtain⟨y,h1,h2⟩:=h;exact⟨y,h1,Ci x hn h2⟩
 |.agg cs,_,hn,h=>by unfold closed at hn;unfold Aj at*;obtain⟨vs,h1,h2⟩:=h;exact⟨vs,h1,BD cs hn h2⟩
 |.tuple cs,_,hn,h=>by unfold closed at hn;unfold Aj at*;obtain⟨vs,h1,h2⟩:=h;exact⟨vs,h1,BD cs hn h2⟩
 |.el _ _ _ _,_,hn,_|.own _ _ _ _,_,hn,_=>by unfold closed at hn;cases hn
 |.mp _ _,_,_,h=>by unfold Aj at*;exact h
 |.om _,_,hn,_=>by unfold closed at hn;cases hn
theorem BD:∀(xs:List AV){vs:List Value},AI xs=true->Ac C w xs mu vs->Ac C w xs Mu.none vs
 |[],_,_,h=>by unfold Ac at*;exact h
 |x::xs,_,hn,h=>by unfold AI at hn;simp only[Ap]at hn;unfold Ac at*;obtain⟨v,CJ,h1,h2,h3⟩:=h;exact⟨v,CJ,h1,Ci x hn.1 h2,BD xs hn.2 h3⟩
end
mutual
theorem Ww{l:Nat}{g:Option GO}:∀(x:AV){v:Value},(∀b,mu l=some (.D6 b)->g=some (.D6 b))->Aj C w x mu v->Aj C w (Dh l x) (mu.set l g) v
 |.any,_,_,_=>by unfold Dh Aj;trivial
 |.int _ _,_,_,h|.bool _,_,_,h|.lit _,_,_,h|.str _,_,_,h|.sl _ _,_,_,h|.at_ _,_,_,h|.raw _,_,_,h=>by unfold Dh;unfold Aj at*;exact h
 |.ptr k o,_,hg,h=>by unfold Dh;unfold Aj at*;obtain⟨b,h1,h2⟩:=h;refine⟨b,?_,h2⟩;by_cases e:k=l;subst e;rw[Mu.AP];exact hg b h1;rw[Mu.AQ _ _ e];exact h1
 |.fn f cap,_,hg,h=>by unfold Dh;unfold Aj at*;obtain⟨vs,h1,h2⟩:=h;exact⟨vs,h1,D1 cap hg h2⟩
 |.mv f cap,_,hg,h=>by unfold Dh;unfold Aj at*;obtain⟨vs,h1,h2⟩:=h;exact⟨vs,h1,D1 cap hg h2⟩
 |.iface t x,_,hg,h=>by unfold Dh;unfold Aj at*;obtain⟨y,h1,h2⟩:=h;exact⟨y,h1,Ww x hg h2⟩
 |.agg cs,_,hg,h=>by unfold Dh;unfold Aj at*;obtain⟨vs,h1,h2⟩:=h;exact⟨vs,h1,D1 cs hg h2⟩
 |.tuple cs,_,hg,h=>by unfold Dh;unfold Aj at*;obtain⟨vs,h1,h2⟩:=h;exact⟨vs,h1,D1 cs hg h2⟩
 |.mp _ _,_,_,h=>by unfold Dh;unfold Aj at*;exact h
 |.om k,_,hg,h=>by unfold Dh;unfold Aj at*;obtain⟨b,h1,h2⟩:=h;refine⟨b,?_,h2⟩;by_cases e:k=l;subst e;rw[Mu.AP];exact hg b h1;rw[Mu.AQ _ _ e];exact h1
 |.el k sz i o,_,_,h=>by unfold Dh;split;unfold Aj;trivial;rename_i hb;have e:k≠l:=E4 hb;unfold Aj at*;obtain⟨b,n,c,h1,h2⟩:=h;exact⟨b,n,c,by rw[Mu.AQ _ _ e];exact h1,h2⟩
 |.own k sz lo n,_,_,h=>by unfold Dh;split;unfold Aj;trivial;rename_i hb;have e:k≠l:=E4 hb;unfold Aj at*;obtain⟨x,h1,h2⟩:=h;exact⟨x,by rw[Mu.AQ _ _ e];exact h1,h2⟩
theorem D1{l:Nat}{g:Option GO}:∀(xs:List AV){vs:List Value},(∀b,mu l=some (.D6 b)->g=some (.D6 b))->Ac C w xs mu vs->Ac C w (Cw l xs) (mu.set l g) vs
 |[],_,_,h=>by unfold Cw;unfold Ac at*;exact h
 |x::xs,_,hg,h=>by unfold Cw;unfold Ac at*;obtain⟨v,CJ,h1,h2,h3⟩:=h;exact⟨v,CJ,h1,Ww x hg h2,D1 xs hg h3⟩
end
theorem WZ(h:AJ G C mu E H a w){n:Nat}{H':List HO}{cs:List AV}{vs:List Value}(hr:Ac C w cs mu vs)(Hq:Al H n H' (.cells cs))(hs:cs.all Eg=true)(e:TypeId):
  AJ G C (mu.set n (some (.D6 w.heap.size))) E H' a (w.alloc (.cells vs.toArray e))/\
  Aj C (w.alloc (.cells vs.toArray e)) (.ptr n 0) (mu.set n (some (.D6 w.heap.size))) (.pointer (some ⟨w.heap.size,0,none⟩)):=by
 refine⟨h.alloc _ (.cells cs) Hq (.D6 w.heap.size) (by simp[GO.Az]) (by simp) ?_ (by simp),?_⟩;intro cs' hc;simp only[HO.cells.injEq]at hc;subst hc;exact⟨vs.toArray,e,rfl,rfl,by simpa using hr,by simpa using HG hr hs⟩;unfold Aj;exact⟨_,Mu.AP _ _ _,rfl⟩
theorem ZhU{al:Option Nat}(h:AJ G C mu E H a w){x:Operand}{K:AV->KK}(hk:ZhV al E H x K):Nc G a w K (Instr.box t (a.eval x)):=by
 unfold ZhV Zt at hk;rw[Ae,AB]at hk;split at hk;·rename_i hs;obtain⟨H',n,Hq,hk⟩:=Rx hk;obtain⟨vs,hv,hr⟩:=KH (Bv h.env x) hs;obtain⟨h1,h2⟩:=WZ h hr Hq hs t;exact⟨_,_,_,_,_,_,_,hk,by simp[Instr.box,newVar,newRow,hv],h1,h2⟩
 exact hk.elim
theorem EE(hT:CY G.P T){y:TY}(hy:T[t]?=some y)(hl:y.zero.length=y.size)(hp:1<=y.size):∃z,(zeroValue t).run G.P w=.ok z w/\Ac C w y.zero mu z.cells.toList:=by
 obtain⟨i,d,h1,h2,rfl⟩:=hT.facts hy;simp only at hl hp⊢;rcases KU (Br G.P t) i.zero with hz|⟨z,hz,e,_⟩;rw[hz]at hl;simp at hl;omega;refine⟨z,by simp[zeroValue,typeInfo,h1,hz],?_⟩;rw[e];refine(Bo _).2 ⟨by simp,λj h3 h4=>?_⟩;simp only[MM];exact SN _
theorem ZcE{al:Option Nat}(hT:CY G.P T)(h:AJ G C mu E H a w){K:AV->KK}(hk:OY al T E H t K):Nc G a w K (Instr.alloc t true (.tuple #[])):=by
 unfold OY Lw at hk;replace hk:=Bf.1 hk;obtain⟨y,hy,hk⟩:=hk;split at hk;·rename_i hs;simp only[Ap]at hs;obtain⟨H',n,Hq,hk⟩:=Rx hk;obtain⟨z,h1,h2⟩:=EE (C:=C) (w:=w) (mu:=mu) hT hy (Am hs.1.2) (As hs.2);obtain⟨h3,h4⟩:=WZ h h2 Hq hs.1.1 t;refine⟨_,_,_,_,_,_,_,hk,?_,h3,h4⟩;simp[Instr.alloc,h1,newVar,newRow]
 exact hk.elim
end
end Go.Av
namespace Go.Av
variable {us vs:List Value}{fz:Nat×Nat}{t e ty:TypeId}{n i by':Nat}{x:Operand}{parts:Array (Nat×Operand)}{al:Option Nat}{u z:Value}
section
variable {G:Cx}{C:Af}{w:World}{mu:Mu}{H:List HO}{E:List AV}{a:Act}{T:List TY}
theorem OC:∀(cs:List AV),Mx cs=cs.all GC
 |[]=>rfl
 |c::cs=>by simp[Mx,OC cs]
theorem RW:∀(vs l:List AV)(o:Nat),(Je l o vs).length=l.length
 |[],_,_=>rfl
 |v::vs,l,o=>by simp[Je,RW vs]
theorem QF{cs:List AV}(hc:Ac C w cs mu us):∀{G5:List AV}{vs:List Value}{o:Nat},Ac C w G5 mu vs->o+cs.length<=G5.length->
  Ac C w (Je G5 o cs) mu (vs.take o++us++vs.drop (o+us.length)):=by
 induction cs generalizing us with
 |nil=>intro G5 vs o h hl;unfold Ac at hc;subst hc;simpa[Je]using h
 |cons c cs ih=>
  intro G5 vs o h hl;unfold Ac at hc;obtain⟨u,Tf,rfl,h2,h3⟩:=hc;simp only[Je];have hlen:=AM _ h;simp only[E0]at hl;have h':Ac C w (G5.set o c) mu (vs.set o u):=by have:=Ac.put (vs:=vs.toArray) (by simpa using h) o h2;simpa using this
  have:=ih h3 (o:=o+1) h' (by simp;omega);have e:(vs.set o u).take (o+1)++Tf++(vs.set o u).drop (o+1+Tf.length)=vs.take o++(u::Tf)++vs.drop (o+(u::Tf).length):=by (have ho:o<vs.length:=by omega);rw[N3 (by omega),L2,KO (by omega)];simp[ho,O6,OL]
  rw[e]at this;exact this
theorem aC(h:AJ G C mu E H a w){l:Nat}{G5:List AV}(hl:H[l]?=some (.cells G5)){b:Nat}(hm:mu l=some (.D6 b)){o:Nat}{cs:List AV}
  (hu:Ac C w cs mu us) (hs:cs.all Eg=true) (hle:o+cs.length<=G5.length) (t:TypeId) (v:Value) (hv:v.cells=us.toArray) (DT:(sizeOf t).run G.P w=.ok us.length w):
  ∃w',(Instr.storeAt t (.pointer (some ⟨b,o,none⟩)) v).run G.P w=.ok () w'/\AJ G C mu E (H.set l (.cells (Je G5 o cs))) a w':=by
 obtain⟨b',cur,e,UN,hb,hr,h1⟩:=h.heap.Dp l G5 hl;rw[hm]at UN;simp only[Ao.injEq,GO.D6.injEq]at UN;subst UN;have hlc:us.length=cs.length:=AM _ hu;have HB:=AM _ hr
 have Ai:=run_storeCells_at G.P b o e us 0 cur w hb (by have:cur.size=cur.toList.length:=by simp
                                                        omega) (HG hu hs)
 simp only[Gp]at Ai
 have ML:mu.set l (some (.D6 b))=mu:=by
  funext i;by_cases e:i=l
  subst e;rw[Mu.AP,hm];rw[Mu.AQ _ _ e]
 refine⟨w.setRow b (cur.toList.take o++us++cur.toList.drop (o+us.length)).toArray,?_,?_⟩;simp only[Instr.storeAt,Instr.sureAddr,storeVar,Be,Hx,Bb,DT,hv,C3,ne_eq,not_true_eq_false,if_false,Ai];have hx:=Hu (w:=w) (h.heap.fresh _ _ _ hm rfl).2.2 ((cur.toList.take o++us++cur.toList.drop (o+us.length)).toArray);have AA:l<H.length:=(AZ.1 hl).1
 have:=AJ.write (g:=.D6 b) (g':=.D6 b) h hm rfl (new:=(cur.toList.take o++us++cur.toList.drop (o+us.length)).toArray) hb (.cells (Je G5 o cs)) rfl (λ_ h=>h) (λ_ h=>h) (E':=E)
  (by rw[ML];exact Ac.mono hx _ (AU.refl _) h.env) (H.set l (.cells (Je G5 o cs))) (by simp)
  (λi hi=>by
   rw[A0 (Ne.symm hi),ML]
   exact Yac)
  (by simp) (by simp[AA])
  (λcs' hc=>by
   simp only[HO.cells.injEq]at hc
   subst hc
   refine⟨rfl,by simpa using QF hu hr hle,?_⟩
   intro x hx
   simp only[CL]at hx
   rcases hx with (hx|hx)|hx
   ·exact h1 x (BU hx)
   ·exact HG hu hs x hx
   ·exact h1 x (DW hx))
  (by simp)
  (λi hi ks vs h=>by rw[A0 (Ne.symm hi)]at h;exact h)
 rw[ML]at this;exact this
theorem U8{sz:Nat}:∀(es:List AV)(i:Nat)(e:AV),(∀a∈es,a.cells.length=sz)->i<es.length->e.cells.length=sz->
  flat (es.set i e)=(flat es).take (i*sz)++e.cells++(flat es).drop (i*sz+sz)
 |[],i,e,_,h,_=>by simp at h
 |a::es,0,e,hs,_,he=>by
  have e1:flat (a::es)=a.cells++flat es:=by simp[flat]
  have e2:flat (e::es)=e.cells++flat es:=by simp[flat]
  simp only[List.set_cons_zero,Nat.zero_mul,List.take_zero,Kt,Fo];rw[e1,e2,M1,E3 (by rw[hs a (by simp)];omega),hs a (by simp)];simp
 |a::es,i+1,e,hs,h,he=>by
  have e1:flat (a::es)=a.cells++flat es:=by simp[flat]
  have e2:flat (a::es.set i e)=a.cells++flat (es.set i e):=by simp[flat]
  have ha:=hs a (by simp);simp only[List.set_cons_succ];have t1:(a.cells++flat es).take ((i+1)*sz)=a.cells++(flat es).take (i*sz):=by rw[PW,Ik (l:=a.cells) (by rw[ha,A5];omega),ha];congr 2;rw[A5];omega
  have t2:(a.cells++flat es).drop ((i+1)*sz+sz)=(flat es).drop (i*sz+sz):=by rw[M1,E3 (as:=a.cells) (by rw[ha,A5];omega),ha,Kt];congr 1;rw[A5];omega
  rw[e1,e2,U8 es i e (λb hb=>hs b (by simp[hb])) (by simpa using h) he,t1,t2];simp
theorem Zgg(M us:List Value)(p o sz:Nat)(h1:o+us.length<=sz)(h2:p+sz<=M.length):
  M.take p++(((M.drop p).take sz).take o++us++((M.drop p).take sz).drop (o+us.length))++M.drop (p+sz)=M.take (p+o)++us++M.drop (p+o+us.length):=by
 have e1:M.take (p+o)=M.take p++(M.drop p).take o:=List.take_add
 have e2:M.drop (p+o+us.length)=((M.drop p).take sz).drop (o+us.length)++M.drop (p+sz):=by
  rw[show p+o+us.length=p+(o+us.length) by omega,<-LL,<-LL (i:=sz) (j:=p)];conv=>lhs;rw[<-IW sz (M.drop p)]
  rw[List.drop_append_of_le_length (by simp only[A4,C1];omega)]
 rw[e1,e2,R6,H2 (by omega)];simp
theorem oD(cur us:List Value)(N q:Nat)(h1:q+us.length<=N)(h2:N<=cur.length):
  (cur.take N).take q++us++(cur.take N).drop (q+us.length)=List.take N (cur.take q++us++cur.drop (q+us.length)):=by
 rw[PW,R6,H2 (by omega),R2,Ik (l:=cur.take q++us) (by simp only[A1,A4];omega)];congr 1;simp only[A1,A4];congr 1;omega
theorem Wg.size{G5 new:Array Value}(h:Wg G5 fz)(hs:new.size=G5.size):Wg new fz:=by
 unfold Wg at*;rw[hs];exact h
theorem eE{w:World}{g off:Nat}{cur:Array Value}(hg:w.heap[g]?=some (.cells cur t fz))(hf:Wg cur fz)(h:off<cur.size):w.frozen? ⟨g,off,none⟩=false:=by
 simp only[World.frozen?,hg];rcases hf with rfl|rfl;simp;simp;omega
theorem Ea(P:Program)(g o:Nat)(t:TypeId)(fz:Nat×Nat):∀(vs:List Value)(i:Nat)(cur:Array Value)(w:World),w.heap[g]?=some (.cells cur t fz)->Wg cur fz->o+i+vs.length<=cur.size->(∀v∈vs,v.oneCell'=true)->
  (storeCells ⟨g,o,none⟩ vs i).run P w=.ok () (w.setRow g (cur.toList.take (o+i)++vs++cur.toList.drop (o+i+vs.length)).toArray)
 |[],i,cur,w,hg,_,_,_=>by simp only[storeCells,Np,H0,Gp,IW,Ki];rw[setRow_self w g cur t fz hg];rfl
 |v::rest,i,cur,w,hg,Qn,hl,h1=>by
  have hi:o+i<cur.size:=by simp at hl;omega
  have ZnO:(⟨g,o,none⟩:Addr).add i=⟨g,o+i,none⟩:=by unfold Addr.add;split<;>simp_all
  have FG:w.cell? ⟨g,o+i,none⟩=some cur[o+i]:=by simp[World.cell?,hg,hi]
  have ZnB:w.frozen? ⟨g,o+i,none⟩=false:=eE hg Qn hi;have Ai:(store ((⟨g,o,none⟩:Addr).add i) v).run P w=.ok () (w.setRow g (cur.setIfInBounds (o+i) v)):=by rw[ZnO,run_store P w _ v _ (h1 v (by simp)),FG];simp[ZnB,setCell_eq_setRow w g (o+i) cur t fz v hg]
  have ih:=Ea P g o t fz rest (i+1) (cur.setIfInBounds (o+i) v) (w.setRow g (cur.setIfInBounds (o+i) v)) (setRow_heap w g cur _ t _ hg) (Qn.size (by simp)) (by simp at hl⊢;omega) (λx hx=>h1 x (by simp[hx]));simp only[storeCells,Be,Ai,Bb,ih,setRow_setRow];congr 3;have e:=list_seg_step cur.toList (o+i) v rest (by simp at hl⊢;omega);simpa[G1,OG]using e
theorem aB(h:AJ G C mu E H a w){l:Nat}{sz:Nat}{es:List AV}(hl:H[l]?=some (.arr e sz es)){b c:Nat}(hm:mu l=some (.arr (.slice (some ⟨b,0,none⟩) n c)))
  {o:Nat} {G5 new:AV} (hi:es[i]?=some G5) {cs:List AV}  (hu:Ac C w cs mu us) (hs:cs.all Eg=true) (hna:cs.all GC=true) (hle:o+cs.length<=G5.cells.length)
  (dL:new.cells=Je G5.cells o cs) (t:TypeId) (v:Value) (hv:v.cells=us.toArray) (DT:(sizeOf t).run G.P w=.ok us.length w):
  ∃w',(Instr.storeAt t (.pointer (some ⟨b,i*sz+o,none⟩)) v).run G.P w=.ok () w'/\AJ G C mu E (H.set l (.arr e sz (es.set i new))) a w':=by
 obtain⟨hz,h2⟩:=h.heap.Dk l e sz es hl;have pS:i<es.length:=(AZ.1 hi).1;have hold:G5∈es:=NU hi;have Zg1:=hz G5 hold;rcases h2 with⟨h2,rfl⟩|⟨b',cap,cur,h3,⟨fz,hb,Qn⟩,h5,h6,h7,h8,h9⟩;simp at pS;rw[hm]at h3;simp only[Ao.injEq,GO.arr.injEq,Value.slice.injEq,Addr.mk.injEq]at h3;obtain⟨⟨rfl,_⟩,rfl,rfl⟩:=h3;have hlc:us.length=cs.length:=AM _ hu;have ZfC:new.cells.length=sz:=by rw[dL,RW,Zg1]
 have hmul:(i+1)*sz<=es.length*sz:=A9 _ pS;have dN:es.length*sz<=c*sz:=A9 _ h5;rw[A5]at hmul;have ZbI:i*sz+o+us.length<=cur.size:=by omega
 have Ai:=Ea G.P b (i*sz+o) e fz us 0 cur w hb Qn (by omega) (HG hu hs);simp only[Gp]at Ai
 have ML:mu.set l (some (.arr (.slice (some ⟨b,0,none⟩) es.length c)))=mu:=by
  funext j;by_cases e:j=l
  subst e;rw[Mu.AP,hm];rw[Mu.AQ _ _ e]
 refine⟨w.setRow b (cur.toList.take (i*sz+o)++us++cur.toList.drop (i*sz+o+us.length)).toArray,?_,?_⟩;simp only[Instr.storeAt,Instr.sureAddr,storeVar,Be,Hx,Bb,DT,hv,C3,ne_eq,not_true_eq_false,if_false,Ai];have hx:=Hu (w:=w) (h.heap.fresh _ _ _ hm rfl).2.2 ((cur.toList.take (i*sz+o)++us++cur.toList.drop (i*sz+o+us.length)).toArray);have AA:l<H.length:=(AZ.1 hl).1;have hub:Ac C w cs (Cf mu) us:=F2 cs (by rw[OC];exact hna) hu
 have:=AJ.write (g:=.arr (.slice (some ⟨b,0,none⟩) es.length c)) (g':=.arr (.slice (some ⟨b,0,none⟩) es.length c)) h hm rfl
  (new:=(cur.toList.take (i*sz+o)++us++cur.toList.drop (i*sz+o+us.length)).toArray) hb (.arr e sz (es.set i new)) rfl (by simp) (by simp) (E':=E)
  (by rw[ML];exact Ac.mono hx _ (AU.refl _) h.env) (H.set l (.arr e sz (es.set i new))) (by simp)
  (λj hj=>by
   rw[A0 (Ne.symm hj),ML]
   exact Yac)
  (by simp) (by simp[AA])
  (by simp)
  (λe' De es' hc=>by
   simp only[HO.arr.injEq]at hc
   obtain⟨rfl,rfl,rfl⟩:=hc
   refine⟨λx hx=>?_,c,by simp,rfl,by simpa using h5,h6,?_,?_,?_⟩
   ·rcases LP hx with hx|rfl
    ·exact hz x hx
    ·exact ZfC
   ·simp only[C3,A1,A4,C1,G8];omega
   ·simp only[QS]
    rw[U8 es i new hz pS ZfC];have hf:=CP es hz
    -- zJ values: Zfe before,Zfe of zJ element,Zfe behind
    obtain⟨r,hr⟩:=KA es hz i G5 hi;(have pX:((flat es).drop (i*sz)).take sz=G5.cells:=by rw[hr,<-Zg1];simp);have hA:=h8.take (i*sz);have hB:=(h8.drop (i*sz)).take sz;rw[pX]at hB;have hC:=h8.drop (i*sz+sz);have hB':=QF hub hB hle;rw[<-dL]at hB';have Dj:=Bj (Bj hA hB') hC
    have e1:(((cur.toList.take (es.length*sz)).take (i*sz)++((((cur.toList.take (es.length*sz)).drop (i*sz)).take sz).take o++us++(((cur.toList.take (es.length*sz)).drop (i*sz)).take sz).drop (o+us.length)))++(cur.toList.take (es.length*sz)).drop (i*sz+sz))=
      List.take (es.length*sz) (cur.toList.take (i*sz+o)++us++cur.toList.drop (i*sz+o+us.length)):=by
     (have LS:cur.toList.length=c*sz:=by simpa using h7);rw[Zgg _ us _ _ _ (by omega) (by simp only[A4];omega),oD _ us _ _ (by omega) (by omega)]
    rw[e1]at Dj
    simpa using Dj
   ·intro x hx
    simp only[CL]at hx;rcases hx with (hx|hx)|hx;exact h9 x (BU hx);exact HG hu hs x hx;exact h9 x (DW hx))
  (λi hi ks vs h=>by rw[A0 (Ne.symm hi)]at h;exact h) (by simp)
  ⟨λ_ h=>(by cases h),λ_ _ _ _=>Qn.size (by simp only[C3,A1,A4,C1,G8];omega)⟩
 rw[ML]at this;exact this
end
open Go.MapKept
section
variable {G:Cx}{C:Af}{w:World}{mu:Mu}{H:List HO}{E:List AV}{a:Act}{T:List TY}
theorem zR(hT:CY G.P T)(h:AJ G C mu E H a w){ad:Operand}{K:AV->KK}(hk:EJ T E H t ad x K):
  ∃E' H' C' mu' w',K (.raw undef) E' H'/\(Instr.storeAt t (a.eval ad) (a.eval x)).run G.P w=.ok () w'/\AJ G C' mu' E' H' a w':=by
 unfold EJ at hk;replace hk:=Bf.1 hk;obtain⟨y,hy,hk⟩:=hk;rw[Ae,Ae,AB]at hk;split at hk
 ·rename_i hs;simp only[Ap]at hs;have hp:=Bv h.env ad;obtain⟨us,hv,hu⟩:=KH (Bv h.env x) hs.1;have hul:=AM _ hu;have hys:=Am hs.2;obtain⟨i,d,hi,hd,R4⟩:=hT.facts hy;have DT:(sizeOf t).run G.P w=.ok us.length w:=by (have:i.size=us.length:=by rw[hul,hys,R4]);simp[sizeOf,typeInfo,hi,this]
  generalize lC:BL E ad=p at hk hp;cases p with
  |ptr l o=>
   simp only at hk;replace hk:=Bf.1 hk;obtain⟨ob,BR,hk⟩:=hk;cases ob with
   |arr _ _ _|dead|ghost _ _ _|inv _|map _ _=>exact hk.elim
   |cells G5=>
    simp only at hk;split at hk;·rename_i hle;rw[DS,AY]at hk;unfold Aj at hp;obtain⟨b,hm,hp⟩:=hp;obtain⟨w',h1,h2⟩:=aC h BR hm hu hs.1 (As hle) t (a.eval x) hv DT;exact⟨_,_,_,_,w',hk,by rw[hp];exact h1,h2⟩
    exact hk.elim
  |el l sz i o=>
   simp only at hk;replace hk:=Bf.1 hk;obtain⟨ob,BR,hk⟩:=hk;cases ob with
   |cells _|dead|ghost _ _ _|inv _|map _ _=>exact hk.elim
   |arr e De es=>
    simp only at hk;split at hk
    ·rename_i hz;simp only[Ap]at hz;obtain rfl:=Am hz.1;obtain⟨G5,hold,hk⟩:=hk;rw[AB]at hk;split at hk
     ·rename_i hle;have hle:=As hle;have Zg1:=(h.heap.Dk l e sz es BR).1 G5 (NU hold);unfold Aj at hp;obtain⟨b,n,c,hm,hp⟩:=hp;split at hk
      ·rename_i Zbq;have Zbq:=Am Zbq;rw[AY]at hk;obtain rfl:o=0:=by omega
       have hpu:(BL E x).cells=Je G5.cells 0 (BL E x).cells:=by
        have key:∀(cs l:List AV)(o:Nat),o+cs.length=l.length->Je l o cs=l.take o++cs:=by
         intro cs
         induction cs with
         |nil=>intro l o ho;simp only[Je,Np];rw[Ik (by simp at ho;omega)]
         |cons c cs ih=>
          intro l o ho;simp only[Je,E0]at ho ⊢;rw[ih _ _ (by simp;omega),L2,KO (by omega)];simp[show o<l.length by omega]
        rw[key _ _ _ (by omega)];simp
       obtain⟨w',h1,h2⟩:=aB h BR hm hold hu hs.1 hz.2 hle hpu t (a.eval x) hv DT;exact⟨_,_,_,_,w',hk,by rw[hp];exact h1,h2⟩
      rw[DS,AY]at hk;obtain⟨w',h1,h2⟩:=aB (new:=.agg (Je G5.cells o (BL E x).cells)) h BR hm hold hu hs.1 hz.2 hle rfl t (a.eval x) hv DT;exact⟨_,_,_,_,w',hk,by rw[hp];exact h1,h2⟩
     exact hk.elim
    exact hk.elim
  |_=>exact hk.elim
 exact hk.elim
theorem SU(h:AJ G C mu E H a w){H':List HO}{sz cap:Nat}{es:List AV}(Hq:Al H n H' (.arr e sz es))(hz:∀a∈es,a.cells.length=sz)(hr:Ac C w (flat es) (Cf mu) (vs.take (es.length*sz)))
  (h1:∀v∈vs,v.oneCell'=true) (hc:es.length<=cap) (hm:cap<=9223372036854775807) (hl:vs.length=cap*sz):
  ∃mu',AJ G C mu' E H' a (w.alloc (.cells vs.toArray e))/\
  Aj C (w.alloc (.cells vs.toArray e)) (.own n sz 0 es.length) mu' (.slice (some ⟨w.heap.size,0,none⟩) es.length cap):=by
 refine⟨mu.set n (some (.arr (.slice (some ⟨w.heap.size,0,none⟩) es.length cap))),h.alloc _ (.arr e sz es) Hq (.arr (.slice (some ⟨w.heap.size,0,none⟩) es.length cap)) (by simp[GO.Az]) (by simp) (by simp) ?_,?_⟩;intro e' De es' yK;simp only[HO.arr.injEq]at yK;obtain⟨rfl,rfl,rfl⟩:=yK;exact⟨hz,cap,vs.toArray,rfl,⟨_,rfl,.inl rfl⟩,hc,hm,by simpa using hl,by simpa using hr,by simpa using h1⟩;unfold Aj;exact⟨_,Mu.AP _ _ _,by simp[Fb],by simp only[Fb,Qf];exact⟨hc,hm⟩,by simp[DJ]⟩
theorem U5:∀(us:List Value)(off k:Nat)(vs:Array Value),off+k+us.length<=vs.size->
  ((us.zipIdx k).foldl (λcs (x:Value×Nat)=>cs.setIfInBounds (off+x.2) x.1) vs).toList=vs.toList.take (off+k)++us++vs.toList.drop (off+k+us.length)
 |[],off,k,vs,_=>by simp
 |u::us,off,k,vs,h=>by
  simp only[E0]at h;simp only[List.zipIdx_cons,List.foldl_cons];rw[U5 us off (k+1) _ (by simp;omega)];have ho:off+k<vs.toList.length:=by simp;omega
  simp only[G1];rw[show off+(k+1)=(off+k)+1 by omega,N3 (by omega),L2,KO (by omega)];have Y1:off+k<vs.size:=by simpa using ho
  simp[Y1,O6,OL]
theorem Ri{fs:List (Nat×Nat×Bool)}{place:Nat->Option (Nat×Nat)}(hp:∀i f,fs[i]?=some f->place i=some (f.1,f.2.1))(he:Ac C w E mu a.tmps.toList):
  ∀(parts:List (Nat×Operand)) (cells:List AV) (vs:List Value) {K:List AV->Prop},Ac C w cells mu vs->P5 E fs parts cells K->
  ∃Rr us,K Rr/\Ac C w Rr mu us/\Instr.fill place vs.toArray (parts.map λp=>(p.1,a.eval p.2))=some us.toArray
 |[],cells,vs,K,hr,hk=>⟨cells,vs,hk,hr,rfl⟩
 |(i,x)::r,cells,vs,K,hr,hk=>by
  unfold P5 at hk;replace hk:=Bf.1 hk;obtain⟨⟨off,size,ag⟩,hf,hk⟩:=hk;simp only at hk;rw[Ae,AB]at hk;split at hk;·rename_i hb;simp only[Ap]at hb;have h1:=Am hb.1.1;have h2:=As hb.1.2;rw[DS]at hk;have hx:=Bv he x;have hlen:=AM _ hr;obtain⟨us,hv,hu⟩:=KH hx hb.2;have hul:=AM _ hu;have V1:place i=some (off,size):=hp i _ hf;have Ll:=QF hu hr (o:=off) (by omega);obtain⟨Rr,Tf,k1,k2,k3⟩:=Ri hp he r _ _ Ll hk;refine⟨Rr,Tf,k1,k2,?_⟩;simp only[EU,Instr.fill,V1,hv,C3];rw[if_neg (by simp;omega)];(have ZbH:(us.toArray.zipIdx.foldl (λcs (x:Value×Nat)=>cs.setIfInBounds (off+x.2) x.1) vs.toArray)=(vs.take off++us++vs.drop (off+us.length)).toArray:=by rw[<-L5,NV];simp only[N4];have:=U5 us off 0 vs.toArray (by simp;omega);simpa using this);rw[ZbH];exact k3
  exact hk.elim
theorem WO{P:Program}:∀(fs:List Field),(∀f∈fs,1<=GW P f.type)->fs.mapM (λf=>(P.info? f.type).map λi=>(f.offset,i.size))=some (fs.map λf=>(f.offset,GW P f.type))
 |[],_=>rfl
 |f::fs,h=>by obtain⟨n,hn⟩:∃n,GW P f.type=n+1:=⟨GW P f.type-1,by have:=h f (by simp);omega⟩;obtain⟨i,d,h1,_,h2⟩:=Me hn;have:=WO fs (λg hg=>h g (by simp[hg]));simp[List.mapM_cons,h1,h2,hn,this]
theorem Zcz(hT:CY G.P T)(he:Ac C w E mu a.tmps.toList){K:AV->Prop}(hk:I8 T E t parts.toList K):
  ∃r v,K r/\Aj C w r mu v/\(Instr.build t (parts.map λp=>(p.1,a.eval p.2))).run G.P w=.ok v w:=by
 unfold I8 at hk;replace hk:=Bf.1 hk;obtain⟨y,hy,hk⟩:=hk;split at hk
 ·rename_i fs hf;split at hk
  ·rename_i hb;simp only[Ap]at hb;obtain⟨fields,hu,hfs⟩:=hT.struct hy hf;obtain⟨z,UG,NS⟩:=EE (C:=C) (w:=w) (mu:=mu) hT hy (Am hb.1.2) (As hb.2);obtain⟨i,d,hi,hd,R4⟩:=hT.facts hy;(have Dj:∀f∈fields.toList,1<=GW G.P f.type:=λf hf'=>by have:=List.all_eq_true.1 hb.1.1 (f.offset,GW G.P f.type,Br G.P f.type) (by rw[hfs];exact Hp.2 ⟨f,hf',rfl⟩);exact As this);have V1:=WO fields.toList Dj
   obtain⟨Rr,us,k1,k2,k3⟩:=Ri (place:=((fields.toList.map λf=>(f.offset,GW G.P f.type)).toArray[·]?)) (λi f hif=>by
    rw[hfs,A3]at hif;simp only[List.getElem?_toArray,A3];cases pW:fields.toList[i]? with
    |none=>rw[pW]at hif;simp at hif
    |some fd=>rw[pW]at hif;simp only[Bg,Ao.injEq]at hif ⊢;subst hif;rfl) he parts.toList y.zero z.cells.toList (by simpa using NS) hk
   refine⟨_,.agg us.toArray,k1,by unfold Aj;exact⟨us,rfl,k2⟩,run_build w t _ us.toArray ?_⟩
   have hiz:i.zero=some z:=by
    cases hz:i.zero with
    |none=>simp[zeroValue,typeInfo,hi,hz]at UG
    |some z'=>simp[zeroValue,typeInfo,hi,hz]at UG;rw[UG]
   unfold Ts;simp only[hi,hu,hiz,V1,D9];simpa using k3
  exact hk.elim
 ·rename_i n sz ag hf;split at hk
  ·rename_i hb;simp only[Ap]at hb;have DT:=As hb.1.1;obtain⟨z,UG,NS⟩:=EE (C:=C) (w:=w) (mu:=mu) hT hy (Am hb.1.2) (As hb.2);obtain⟨i,d,hi,hd,R4⟩:=hT.facts hy;(obtain⟨e,rfl,Xq,_⟩:∃e,d=.array n e/\GW G.P e=sz/\Br G.P e=ag:=by rw[R4]at hf;cases d<;>simp[kindOf]at hf;rename_i m' e;exact⟨e,by rw[hf.1],hf.2.1,hf.2.2⟩);obtain⟨m,rfl⟩:∃m,sz=m+1:=⟨sz-1,by omega⟩;obtain⟨ie,de,h1,_,h2⟩:=Me Xq
   have V1:∀(n k j:Nat) f,(plA n (m+1) ag k)[j]?=some f->f=(k+j*(m+1),m+1,ag):=by
    intro n
    induction n with
    |zero=>intro k j f h;unfold plA at h;simp at h
    |succ n ih=>
     intro k j f h;unfold plA at h;cases j with
     |zero=>simp at h;rw[<-h];simp
     |succ j=>
      simp only[List.getElem?_cons_succ]at h;rw[ih _ _ _ h];congr 1;rw[A5];omega
   obtain⟨Rr,us,k1,k2,k3⟩:=Ri (place:=λj=>some (j*(m+1),m+1)) (λj f hjf=>by have:=V1 n 0 j f hjf;rw[this];simp) he parts.toList y.zero z.cells.toList (by simpa using NS) hk;refine⟨_,.agg us.toArray,k1,by unfold Aj;exact⟨us,rfl,k2⟩,run_build w t _ us.toArray ?_⟩
   have hiz:i.zero=some z:=by
    cases hz:i.zero with
    |none=>simp[zeroValue,typeInfo,hi,hz]at UG
    |some z'=>simp[zeroValue,typeInfo,hi,hz]at UG;rw[UG]
   unfold Ts;simp only[hi,hd,hiz,h1,h2,D9];simpa using k3
  exact hk.elim
 exact hk.elim
theorem kG(h:AJ G C mu E H a w){K:AV->KK}(hk:Ul al E H K):Nc G a w K (Instr.makeMap t none):=by
 unfold Ul at hk;obtain⟨H',n,Hq,hk⟩:=Rx hk;refine⟨_,.map (some w.heap.size),_,_,_,mu.set n (some (.D6 w.heap.size)),w.alloc (.map #[] 0),hk,?_,h.alloc _ (.map [] []) Hq (.D6 w.heap.size) (by simp[GO.Az]) (by simp) (by simp) (by simp) ?_,?_⟩;simp[Instr.makeMap];intro ks vs hc;simp only[HO.map.injEq]at hc;obtain⟨rfl,rfl⟩:=hc;exact⟨#[],0,rfl,rfl,Ja.nil 0,λ_ _=>⟨by unfold Ac;rfl,by unfold Ac;rfl⟩⟩;unfold Aj;exact⟨_,Mu.AP _ _ _,rfl⟩
theorem Zam{C:Af}{w:World}{mu:Mu}{vs:List AV}(h:Ac C w vs mu us){v:AV}(hv:Aj C w v mu u)(j:Nat):Ac C w (vs.set j v) mu (us.set j u):=by
 have:=Ac.put (vs:=us.toArray) (by simpa using h) j hv;simpa using this
theorem W5(hT:CY G.P T)(h:AJ G C mu E H a w){m k:Operand}{K:AV->KK}(hk:YH T E H t m k x K):
  ∃E' H' C' mu' w',K (.raw undef) E' H'/\(Instr.mapUpdate t (a.eval m) (a.eval k) (a.eval x)).run G.P w=.ok () w'/\AJ G C' mu' E' H' a w':=by
 unfold YH at hk;replace hk:=Bf.1 hk;obtain⟨y,hy,hk⟩:=hk;split at hk
 ·rename_i kt vt hyk;have hu:=hT.map hy hyk;replace hk:=Bf.1 hk;obtain⟨yk,ZgO,hk⟩:=hk;rw[Ae,Ae,Ae]at hk;split at hk
  ·rename_i hko;simp only[Ap]at hko;obtain⟨d,hd,yI⟩:=pC hT ZgO hko.1;have hm:=Bv h.env m;have hkr:=Bv h.env k;have vG:=Bv h.env x;split at hk
   ·rename_i l hme;rw[hme]at hm;replace hk:=Bf.1 hk;obtain⟨ob,BR,hk⟩:=hk;(cases ob<;>first|exact hk.elim|skip);rename_i ks vs;simp only at hk;obtain⟨hl,hk⟩:=hk;rw[AY]at hk;obtain⟨b,es,clock,h1,h2,h3⟩:=h.heap.maps l ks vs BR;unfold Aj at hm;obtain⟨b',h4,h5⟩:=hm;rw[h1]at h4;simp only[Ao.injEq,GO.D6.injEq]at h4;subst h4;obtain⟨f1,f2⟩:=Ze yI hkr ks es.toList 0 hl (h3.2 C w).1;have pT:=yI.isKey hkr;have hck:(Instr.checkKey false 10000 kt (a.eval k)).run G.P w=.ok () w:=run_checkKey (P:=G.P) (w:=w) hd pT false 9999;have pU:=run_findKey (w:=w) hd f1;(have hkm:ER (BL E k)=true:=by rcases yI with⟨_,s,e⟩|⟨_,_,_,e⟩<;>rw[e]<;>rfl);have Jb:=AM _ (h3.2 C w).1;have vH:=AM _ (h3.2 C w).2;simp only[Ky,G8]at Jb vH;cases OH:IQ (BL E k) ks with
    |none=>
     rw[OH]at pU;refine⟨_,_,C,mu,w.putObj b (.map (es.push {key:=a.eval k,val:=a.eval x,born:=clock}) (clock+1)),hk,?_,h.Zas h1 h2 BR ?_⟩;simp only[Instr.mapUpdate,Be,run_underlying hu,Bb,h5,Go.MapKept.run_getObj_map h2,hck,pU,Pl];exact Go.MapKept.run_setObj_map _ h2;refine⟨by rw[O2];exact h3.1.push _ _,λC' w'=>?_⟩;unfold Ob Oa;rw[OH];simp only[O2,P0,EU,M3]
     exact⟨Bj (h3.2 C' w').1 (by unfold Ac;exact⟨_,_,rfl,E9 _ hkm hkr,by unfold Ac;rfl⟩),
      Bj (h3.2 C' w').2 (by unfold Ac;exact⟨_,_,rfl,E9 _ hko.2 vG,by unfold Ac;rfl⟩)⟩
    |some j=>
     rw[OH]at pU;obtain⟨e,g1,g2,g3⟩:=f2 j OH;(have g1':es[j]?=some e:=by simpa using g1);simp only[PU,g1,Bg,Fo]at pU;refine⟨_,_,C,mu,w.putObj b (.map (es.modify j λe=>{e with key:=a.eval k,val:=a.eval x}) clock),hk,?_,h.Zas h1 h2 BR ?_⟩;simp only[Instr.mapUpdate,Be,run_underlying hu,Bb,h5,Go.MapKept.run_getObj_map h2,hck,pU,g1',Bg,Option.getD_some,g2,run_keyThatStays pT];exact Go.MapKept.run_setObj_map _ h2;refine⟨h3.1.of_map ?_,λC' w'=>?_⟩;apply G0;intro i;simp only[A3,Nz,Gr];by_cases UQ:j=i;subst UQ;rw[g1'];simp;simp[UQ];unfold Ob Oa;rw[OH];have e1:(es.modify j λe=>{e with key:=a.eval k,val:=a.eval x}).toList.map MapEntry.key=es.toList.map MapEntry.key:=modify_keys j _ (λe' he=>by rw[g1']at he;simp only[Ao.injEq]at he;subst he;exact g2.symm);(have e2:(es.modify j λe=>{e with key:=a.eval k,val:=a.eval x}).toList.map MapEntry.val=(es.toList.map MapEntry.val).set j (a.eval x):=by apply G0;intro i;simp only[A3,Nz,Gr,List.getElem?_set,Ky,G8];by_cases UQ:j=i;subst UQ;(have AA:j<es.size:=by have:=(AZ.1 g1).1;simpa using this);simp[g1',AA];simp[UQ]);rw[e1,e2];exact⟨(h3.2 C' w').1,Zam (h3.2 C' w').2 (E9 _ hko.2 vG) j⟩
   exact hk.elim
  exact hk.elim
 exact hk.elim
theorem tU(u:Value):(xU u).cells=[xU u]:=by
 unfold xU;split;·rename_i k n;cases (decide (k.min<=n)&&decide (n<=k.max))<;>rfl
 rfl;·rename_i s;cases D0 s.data.toList.length 9223372036854775807<;>rfl
 rfl
theorem L8(hT:CY G.P T){K:AV->Prop}(h:H8 T e K):∃z y,T[e]?=some y/\K z/\z.cells=y.zero:=by
 unfold H8 at h;replace h:=Bf.1 h;obtain⟨y,hy,h⟩:=h;split at h;exact⟨_,y,hy,h,rfl⟩;split at h
 ·rename_i z hz;rw[AV.AS]at h;refine⟨z,y,hy,h,?_⟩;rw[hz];obtain⟨i,d,_,_,rfl⟩:=hT.facts hy;simp only at hz;rcases KU (Br G.P e) i.zero with h0|⟨v,_,e1,_⟩;rw[h0]at hz;cases hz;have hm:z∈v.cells.toList.map xU:=by rw[<-e1,hz];simp
  obtain⟨u,_,rfl⟩:=Hp.1 hm;exact tU u
 exact h.elim
theorem IX(z:AV):∀(n i:Nat),i<n*z.cells.length->(flat (A2 n z))[i]?=z.cells[i%z.cells.length]?
 |0,i,h=>by simp at h
 |n+1,i,h=>by
  have e1:flat (A2 (n+1) z)=z.cells++flat (A2 n z):=by simp[flat,N2]
  rw[e1,NB];split;·rename_i AA;rw[Nat.mod_eq_of_lt AA]
  rename_i ET;rw[A5,Nat.one_mul]at h;rw[IX z n (i-z.cells.length) (by omega)];congr 1;exact(Nat.mod_eq_sub_mod (by omega)).symm
theorem Oj{z:AV}{zv:Value}{sz:Nat}(hz:Ac C w z.cells mu zv.cells.toList)(hs:z.cells.length=sz)(hp:1<=sz)(n:Nat):
  Ac C w (flat (A2 n z)) mu ((EV (n*sz)).map (zv.cells[·%zv.cells.size]!)).toList:=by
 have hl:=AM _ hz;have yG:(flat (A2 n z)).length=n*sz:=by have:=CP (sz:=sz) (A2 n z) (λa ha=>by rw[DP ha,hs]);simpa using this
 obtain⟨h1,h2⟩:=(Bo _).1 hz;refine(Bo _).2 ⟨by simp[yG],λi h3 h4=>?_⟩;have hzs:zv.cells.size=sz:=by simpa[hs]using h1
 have him:i%sz<sz:=R7 _ (by omega);have e1:(flat (A2 n z))[i]=z.cells[i%sz]'(by omega):=by have:=IX z n i (by rw[hs];omega);rw[Cc h3,hs,Cc (by omega)]at this;simpa using this
 rw[e1];have e2:((EV (n*sz)).map (zv.cells[·%zv.cells.size]!)).toList[i]=zv.cells.toList[i%sz]'(by simp;omega):=by simp[hzs,him]
 rw[e2];exact h2 _ _ _
theorem cells_one{z:AV}{zv:Value}(hz:Ac C w z.cells mu zv.cells.toList)(hs:z.cells.all Eg=true)(n:Nat):∀v∈((EV n).map (zv.cells[·%zv.cells.size]!)).toList,0<zv.cells.size->v.oneCell'=true:=by
 intro v hv hp;simp only[D9,Hp]at hv;obtain⟨i,_,rfl⟩:=hv;have him:i%zv.cells.size<zv.cells.size:=R7 _ hp;rw[getElem!_pos zv.cells _ him];exact HG hz hs _ (by simp)
theorem Sg{sz:Nat}(he:Ac C w E mu a.tmps.toList):
  ∀(parts:List (Nat×Operand)) (es:List AV) (vs:List Value) {K:List AV->Prop},(∀x∈es,x.cells.length=sz)->Ac C w (flat es) (Cf mu) vs->(∀v∈vs,v.oneCell'=true)->JC E sz parts es K->
  ∃es' us,K es'/\es'.length=es.length/\(∀x∈es',x.cells.length=sz)/\Ac C w (flat es') (Cf mu) us/\(∀v∈us,v.oneCell'=true)/\Instr.fill (λi=>some (i*sz,sz)) vs.toArray (parts.map λp=>(p.1,a.eval p.2))=some us.toArray
 |[],es,vs,K,hz,hr,h1,hk=>⟨es,vs,hk,rfl,hz,hr,h1,rfl⟩
 |(i,x)::r,es,vs,K,hz,hr,h1,hk=>by
  unfold JC at hk;rw[Ae,AB]at hk;split at hk;·rename_i hb;simp only[Ap]at hb;obtain⟨⟨⟨b1,b2⟩,b3⟩,b4⟩:=hb;have b1:=Am b1;(have b4:i<es.length:=by have:=b4;simp[Nat.blt]at this;omega);rw[AY]at hk;obtain⟨us,hv,hu⟩:=KH (Bv he x) b2;have hul:=AM _ hu;have hub:Ac C w (BL E x).cells (Cf mu) us:=F2 _ (by rw[OC];exact b3) hu;have hlen:=AM _ hr;have Xp:=CP es hz;have hmul:(i+1)*sz<=es.length*sz:=A9 _ b4;rw[A5]at hmul;(have Ll:Ac C w (flat (es.set i (BL E x))) (Cf mu) (vs.take (i*sz)++us++vs.drop (i*sz+us.length)):=by rw[U8 es i _ hz b4 b1,show us.length=sz by omega];exact Bj (Bj (hr.take _) hub) (hr.drop _));(have h1':∀v∈vs.take (i*sz)++us++vs.drop (i*sz+us.length),v.oneCell'=true:=by intro x hx;simp only[CL]at hx;rcases hx with (hx|hx)|hx;exact h1 x (BU hx);exact HG hu b2 x hx;exact h1 x (DW hx));obtain⟨es',Tf,k1,k2,k3,k4,k5,k6⟩:=Sg he r _ _ (λy hy=>by rcases LP hy with hy|rfl;exact hz y hy;exact b1) Ll h1' hk;refine⟨es',Tf,k1,by simpa using k2,k3,k4,k5,?_⟩;simp only[EU,Instr.fill,hv,C3];rw[if_neg (by simp;omega)];(have ZbH:(us.toArray.zipIdx.foldl (λcs (x:Value×Nat)=>cs.setIfInBounds (i*sz+x.2) x.1) vs.toArray)=(vs.take (i*sz)++us++vs.drop (i*sz+us.length)).toArray:=by rw[<-L5,NV];simp only[N4];have:=U5 us (i*sz) 0 vs.toArray (by simp;omega);simpa using this);rw[ZbH];exact k6
  exact hk.elim
theorem M8(hT:CY G.P T)(h:AJ G C mu E H a w){K:HO->(Nat->AV)->Prop}(hk:CQ T E t n parts.toList K):
  ∃e Cz es us,K (.arr e Cz es) (λl=>.own l Cz 0 n)/\es.length=n/\(∀x∈es,x.cells.length=Cz)/\Ac C w (flat es) (Cf mu) us/\(∀v∈us,v.oneCell'=true)/\us.length=n*Cz/\n<=16777216/\
   (Instr.buildSlice t n (parts.map λp=>(p.1,a.eval p.2))).run G.P w=.ok (.slice (some ⟨w.heap.size,0,none⟩) n n) (w.alloc (.cells us.toArray e)):=by
 unfold CQ at hk;replace hk:=Bf.1 hk;obtain⟨y,hy,hk⟩:=hk;split at hk
 ·rename_i e Cz by' ag hs
  obtain⟨hu,DT,_⟩:=hT.slice hy hs;obtain⟨z,ye,R5,hk,YX⟩:=L8 hT hk;rw[AB]at hk;split at hk
  ·rename_i hb;simp only[Ap]at hb;obtain⟨⟨⟨⟨b1,b2⟩,b3⟩,b4⟩,b5⟩:=hb;have b1:=Am b1;have b4:=As b4;have b5:=As b5;rw[Ev]at hk;have Ic:=run_sizeOf (P:=G.P) (w:=w) DT b4;obtain⟨i,d,hi,hd,R4⟩:=hT.facts R5;(have LR:i.size=Cz:=by simp[sizeOf,typeInfo,hi]at Ic;exact Ic);obtain⟨zv,UG,NS⟩:=EE (C:=C) (w:=w) (mu:=Cf mu) hT R5 (by rw[<-YX,b1,R4];exact LR.symm) (by rw[R4];simp only[LR];exact b4);rw[<-YX]at NS;have hz3:=Oj NS b1 b4 n;(have hzl:zv.cells.size=Cz:=by have:=AM _ NS;simpa[b1]using this);have h1:=cells_one NS b2 (n*Cz);obtain⟨es',us,k1,k2,k3,k4,k5,k6⟩:=Sg h.env parts.toList (A2 n z) _ (λx hx=>by rw[DP hx,b1]) hz3 (λv hv=>h1 v hv (by omega)) hk;have hul:=AM _ k4;have Xp:=CP es' k3;simp only[GH]at k2;have Zp0:n<=n*Cz:=L4 _ (by omega);refine⟨e,Cz,es',us,k1,k2,k3,k4,k5,by rw[hul,Xp,k2],by omega,?_⟩;(have pV:Instr.fill (λi=>some (i*Cz,Cz)) ((EV (n*Cz)).map (zv.cells[·%zv.cells.size]!)) (parts.map λp=>(p.1,a.eval p.2)).toList=some us.toArray:=by rw[Ki]at k6;rw[D9];exact k6);by_cases hn:n*Cz=0;·(obtain rfl:n=0:=by rcases Q6.1 hn with h|h<;>omega);(have Zet:(EV (0*Cz)).map (zv.cells[·%zv.cells.size]!)=#[]:=by simp);rw[Zet,D9]at pV;have Q3:EV 0=#[]:=rfl;simp[Instr.buildSlice,run_underlying hu,Ic,Q3,pV,newRow]
   simp only[D9]at pV;simp[Instr.buildSlice,run_underlying hu,Ic,hn,UG,newRow,show ¬(16777216<n*Cz) by omega,pV]
  exact hk.elim
 exact hk.elim
theorem Wc(hT:CY G.P T)(h:AJ G C mu E H a w){K:AV->KK}(hk:HP al T E H t n parts.toList K):
  Nc G a w K (Instr.buildSlice t n (parts.map λp=>(p.1,a.eval p.2))):=by
 unfold HP at hk;obtain⟨e,Cz,es,us,k1,k2,k3,k4,k5,k6,k7,k8⟩:=M8 hT h hk;obtain⟨H',nn,Hq,k1⟩:=Rx k1;obtain⟨mu',m1,m2⟩:=SU (cap:=n) h Hq k3 (e:=e) (vs:=us) (by rw[k2,<-k6,List.take_length];exact k4) k5 (by omega) (by omega) k6;rw[k2]at m2;exact⟨_,_,_,_,_,_,_,k1,k8,m1,m2⟩
theorem YI(hT:CY G.P T)(h:AJ G C mu E H a w){ln cp:Operand}{K:AV->KK}(hk:OE al T E H t ln cp K):
  Nc G a w K (Instr.makeSlice t (a.eval ln) (a.eval cp)):=by
 unfold OE Ep at hk;replace hk:=Bf.1 hk;obtain⟨y,hy,hk⟩:=hk;split at hk
 ·rename_i e Cz by' ag hs
  obtain⟨hu,DT,Sa,_⟩:=hT.slice hy hs;obtain⟨z,ye,R5,hk,YX⟩:=L8 hT hk;rw[AB]at hk;split at hk
  ·rename_i hb;simp only[Ap]at hb;obtain⟨⟨⟨b1,b2⟩,b3⟩,b4⟩:=hb;have b1:=Am b1;have b4:=As b4;rw[Ae,Ae]at hk;have NA:=Bv h.env ln;have hcp:=Bv h.env cp;split at hk
   ·rename_i n c e1 e2;rw[e1]at NA;rw[e2]at hcp;obtain⟨⟨hn0,hnc,hcb⟩,hk⟩:=hk;obtain⟨H',nn,Hq,hk⟩:=Rx hk;obtain⟨v1,r1⟩:=AG NA;obtain⟨v2,r2⟩:=AG hcp;(have w1:UL.wrap n=n:=by have:=fY _ _ r1;unfold Wr at this;exact this);(have w2:UL.wrap c=c:=by have:=fY _ _ r2;unfold Wr at this;exact this);have r2':=MI.1 r2;have Ic:=run_sizeOf (P:=G.P) (w:=w) DT b4;obtain⟨i,d,hi,hd,R4⟩:=hT.facts R5;(have LR:i.size=Cz:=by simp[sizeOf,typeInfo,hi]at Ic;exact Ic);(have ZbE:i.bytes=by':=by unfold RR at Sa;simpa[hi]using Sa);obtain⟨zv,UG,NS⟩:=EE (C:=C) (w:=w) (mu:=Cf mu) hT R5 (by rw[<-YX,b1,R4];exact LR.symm) (by rw[R4];simp only[LR];exact b4);rw[<-YX]at NS;have hz3:=Oj NS b1 b4 c.toNat;(have hzl:zv.cells.size=Cz:=by have:=AM _ NS;simpa[b1]using this);have h1:=cells_one NS b2 (c.toNat*Cz);have hz4:Ac C w (flat (A2 n.toNat z)) (Cf mu) (((EV (c.toNat*Cz)).map (zv.cells[·%zv.cells.size]!)).toList.take (n.toNat*Cz)):=by have:=hz3.take (n.toNat*Cz);(have e:(flat (A2 c.toNat z)).take (n.toNat*Cz)=flat (A2 n.toNat z):=by (have:A2 c.toNat z=A2 n.toNat z++A2 (c.toNat-n.toNat) z:=by rw[List.replicate_append_replicate];congr 1;omega);rw[this];(have hf:flat (A2 n.toNat z++A2 (c.toNat-n.toNat) z)=flat (A2 n.toNat z)++flat (A2 (c.toNat-n.toNat) z):=by unfold flat;rw[K0]);(have Xp:(flat (A2 n.toNat z)).length=n.toNat*Cz:=by have:=CP (sz:=Cz) (A2 n.toNat z) (λa ha=>by rw[DP ha,b1]);simpa using this);rw[hf,<-Xp,It]);rw[e]at this;exact this
    obtain⟨mu',m1,m2⟩:=SU (cap:=c.toNat) (es:=A2 n.toNat z) h Hq (λx hx=>by rw[DP hx,b1]) (e:=e) (vs:=((EV (c.toNat*Cz)).map (zv.cells[·%zv.cells.size]!)).toList)
     (by rw[GH];exact hz4) (λv hv=>h1 v hv (by omega)) (by simp;omega) (by omega) (by simp)
    rw[GH]at m2;rw[Ki]at m1 m2;refine⟨_,_,_,_,_,_,_,hk,?_,m1,m2⟩;(have hc0:¬c<0:=by omega);(have ZbB:¬n<0:=by omega);(have Zne:¬c<n:=by omega);(have Zhn:¬((281474976710656:Int)<(by':Int)*c):=by omega);rw[v1,v2];by_cases hn:c.toNat*Cz=0;·(have hc:c=0:=by rcases Q6.1 hn with h|h;omega;omega);subst hc;have Q3:EV 0=#[]:=rfl;simp[Instr.makeSlice,run_underlying hu,Ic,asInt,asIntOf,typeInfo,hi,w1,w2,ZbB,newRow,show ¬(0<n) by omega,show n=0 by omega,Q3]
    simp[Instr.makeSlice,run_underlying hu,Ic,asInt,asIntOf,typeInfo,hi,ZbE,w1,w2,hc0,ZbB,Zne,Zhn,newRow,hn,UG]
   exact hk.elim
  exact hk.elim
 exact hk.elim
theorem Zcv(hT:CY G.P T)(h:AJ G C mu E H a w){K:AV->KK}(hk:mI T E H t x K):
  Nc G a w K (LQ #[t] ty #[a.eval x]):=by
 unfold mI at hk;replace hk:=Bf.1 hk;obtain⟨y,hy,hk⟩:=hk;split at hk
 ·rename_i e Cz by' ag hs
  obtain⟨hu,DT,_⟩:=hT.slice hy hs;obtain⟨z,ye,R5,hk,YX⟩:=L8 hT hk;rw[AB]at hk;split at hk
  ·rename_i hb;simp only[Ap]at hb;obtain⟨⟨⟨b1,b2⟩,b3⟩,b4⟩:=hb;have b1:=Am b1;have b4:=As b4;rw[Ae]at hk;have hx:=Bv h.env x;split at hk
   ·rename_i l sz lo n kP;rw[kP]at hx;replace hk:=Bf.1 hk;obtain⟨ob,BR,hk⟩:=hk;(cases ob<;>first|exact hk.elim|skip);rename_i e' De es;simp only at hk;split at hk
    ·rename_i hc;simp only[Ap]at hc;obtain⟨⟨c1,c2⟩,c3⟩:=hc;obtain rfl:=Am c1;obtain rfl:=Am c2;obtain rfl:=Am c3;rw[AY]at hk;(have ZjS:Aj C w (.tuple []) mu (.tuple #[]):=by unfold Aj;exact⟨[],rfl,by unfold Ac;rfl⟩);obtain⟨hz,h2⟩:=h.heap.Dk l e' De es BR;unfold Aj at hx;obtain⟨xv,hm,hle,UM,hxv⟩:=hx;have AA:l<H.length:=(AZ.1 BR).1;rcases h2 with⟨h2,rfl⟩|⟨b,cap,cur,h3,⟨fz,h4,Qn⟩,h5,h6,h7,h8,h9⟩;·rw[hm]at h2;simp only[Ao.injEq,GO.arr.injEq]at h2;subst h2;simp only[Fb]at hle;(obtain rfl:n=0:=by omega);(obtain rfl:lo=0:=by omega);(have vJ:H.set l (.arr e' De (I3 [] 0 0 z))=H:=by apply G0;intro i;by_cases hi:i=l;subst hi;rw[Dx AA,BR];rfl;rw[A0 (Ne.symm hi)]);rw[vJ]at hk;exact⟨_,.tuple #[],_,_,C,mu,w,hk,by rw[hxv];simp[LQ,DJ,run_underlying hu],h,ZjS⟩
     rw[hm]at h3;simp only[Ao.injEq,GO.arr.injEq]at h3;subst h3;simp only[Fb]at hle;have Ic:=run_sizeOf (P:=G.P) (w:=w) DT b4;obtain⟨i,d,hi,hd,R4⟩:=hT.facts R5;(have LR:i.size=De:=by simp[sizeOf,typeInfo,hi]at Ic;exact Ic);obtain⟨zv,UG,NS⟩:=EE (C:=C) (w:=w) (mu:=Cf mu) hT R5 (by rw[<-YX,b1,R4];exact LR.symm) (by rw[R4];simp only[LR];exact b4);rw[<-YX]at NS;have hz3:=Oj NS b1 b4 n;(have hzl:zv.cells.size=De:=by have:=AM _ NS;simpa[b1]using this);(have pI:(Bc zv.cells n).toList=((EV (n*De)).map (zv.cells[·%zv.cells.size]!)).toList:=by simp only[Bc,hzl]);(have Y0:∀v∈(Bc zv.cells n).toList,v.oneCell'=true:=by rw[pI];exact λv hv=>cells_one NS b2 (n*De) v hv (by omega));(have hul:(Bc zv.cells n).toList.length=n*De:=by rw[pI];simp);(have LS:cur.toList.length=cap*De:=by simpa using h7);have m1:(lo+n)*De<=es.length*De:=A9 _ hle;have m2:es.length*De<=cap*De:=A9 _ h5;rw[A5]at m1;have Xp:=CP es hz;generalize hU:(Bc zv.cells n).toList=us at pI Y0 hul;rw[<-pI]at hz3;by_cases hn:n=0;subst hn;(have vJ:H.set l (.arr e' De (I3 es lo 0 z))=H:=by apply G0;intro i;by_cases hi:i=l;subst hi;rw[Dx AA,BR];simp[I3];rw[A0 (Ne.symm hi)]);rw[vJ]at hk;refine⟨_,.tuple #[],_,_,C,mu,w,hk,?_,h,ZjS⟩;rw[hxv];simp[LQ,DJ,run_underlying hu];(have Y6:cur.size=cur.toList.length:=by simp);have Ai:=Ea G.P b (lo*De) e' fz us 0 cur w h4 Qn (by omega) Y0;simp only[Gp]at Ai
     have ML:mu.set l (some (.arr (.slice (some ⟨b,0,none⟩) es.length cap)))=mu:=by
      funext j;by_cases e:j=l
      subst e;rw[Mu.AP,hm];rw[Mu.AQ _ _ e]
     have hx:=Hu (w:=w) (h.heap.fresh _ _ _ hm rfl).2.2 ((cur.toList.take (lo*De)++us++cur.toList.drop (lo*De+us.length)).toArray);have Zhm:(I3 es lo n z).length=es.length:=by unfold I3;simp only[A1,A4,GH,C1];omega
     have:=AJ.write (g:=.arr (.slice (some ⟨b,0,none⟩) es.length cap)) (g':=.arr (.slice (some ⟨b,0,none⟩) es.length cap)) h hm rfl
      (new:=(cur.toList.take (lo*De)++us++cur.toList.drop (lo*De+us.length)).toArray) h4 (.arr e' De (I3 es lo n z)) rfl (by simp) (by simp) (E':=E)
      (by rw[ML];exact Ac.mono hx _ (AU.refl _) h.env) (H.set l (.arr e' De (I3 es lo n z))) (by simp)
      (λj hj=>by
       rw[A0 (Ne.symm hj),ML]
       exact Yac)
      (by simp) (by simp[AA])
      (by simp)
      (λe2 sz2 es2 hc=>by
       simp only[HO.arr.injEq]at hc
       obtain⟨rfl,rfl,rfl⟩:=hc
       refine⟨λx hx=>?_,cap,by rw[Zhm],rfl,by rw[Zhm];exact h5,h6,?_,?_,?_⟩
       ·unfold I3 at hx
        rcases CL.1 hx with hx|hx
        ·exact hz x (BU hx)
        ·rcases CL.1 hx with hx|hx
         ·rw[DP hx,b1]
         ·exact hz x (DW hx)
       ·simp only[C3,A1,A4,C1];omega
       ·have hfc:flat (I3 es lo n z)=(flat es).take (lo*De)++flat (A2 n z)++(flat es).drop (lo*De+n*De):=by
         (have fa:∀(xs ys:List AV),flat (xs++ys)=flat xs++flat ys:=λxs ys=>by unfold flat;rw[K0]);(have ft:∀(k:Nat)(xs:List AV),(∀a∈xs,a.cells.length=De)->k<=xs.length->flat (xs.take k)=(flat xs).take (k*De)/\flat (xs.drop k)=(flat xs).drop (k*De):=λk xs xZ hk=>by (have e0:flat xs=flat (xs.take k)++flat (xs.drop k):=by rw[<-fa,IW]);(have e1:(flat (xs.take k)).length=k*De:=by rw[CP (sz:=De) _ λa ha=>xZ a (BU ha),A4,H2 hk]);constructor;rw[e0,Qx e1];rw[e0,List.drop_left' e1]);unfold I3
         rw[fa,fa,(ft lo es hz (by omega)).1,(ft (lo+n) es hz (by omega)).2,A5,List.append_assoc]
        rw[hfc,Zhm]
        have hA:=h8.take (lo*De)
        have hC:=h8.drop (lo*De+n*De)
        have Dj:=Bj (Bj hA hz3) hC
        have e1:(cur.toList.take (es.length*De)).take (lo*De)++us++(cur.toList.take (es.length*De)).drop (lo*De+n*De)=List.take (es.length*De) (cur.toList.take (lo*De)++us++cur.toList.drop (lo*De+us.length)):=by
         have:=oD cur.toList us (es.length*De) (lo*De) (by omega) (by omega);rw[hul]at this ⊢
         exact this
        rw[e1]at Dj
        simpa using Dj
       ·intro x hx
        simp only[CL]at hx
        rcases hx with (hx|hx)|hx
        ·exact h9 x (BU hx)
        ·exact Y0 x hx
        ·exact h9 x (DW hx))
      (λi hi ks vs h=>by rw[A0 (Ne.symm hi)]at h;exact h) (by simp)
      ⟨λ_ h=>(by cases h),λ_ _ _ _=>Qn.size (by simp only[C3,A1,A4,C1];omega)⟩
     rw[ML]at this;refine⟨_,.tuple #[],_,_,C,mu,_,hk,?_,this,by unfold Aj;exact⟨[],rfl,by unfold Ac;rfl⟩⟩;rw[hxv];obtain⟨n',rfl⟩:∃n',n=n'+1:=⟨n-1,by omega⟩;simp[LQ,DJ,run_underlying hu,UG,hU,Ai]
    exact hk.elim
   exact hk.elim
  exact hk.elim
 exact hk.elim
theorem Qe{b:Nat}:∀(xs ys:List AV){o:Nat},Cells C w xs b o->Cells C w ys b (o+xs.length)->Cells C w (xs++ys) b o
 |[],ys,o,_,h=>by simpa using h
 |x::xs,ys,o,h,k=>by simp only[Pg];unfold Cells at h⊢;exact⟨h.1,Qe xs ys h.2 (by rw[show o+1+xs.length=o+(x::xs).length by simp;omega];exact k)⟩
theorem Pk{H:List HO}{l:Nat}{cs:List AV}{ms:List Nat}(hi:(H.map (BW l))[i]?=some (.ghost cs vs ms)):∃FK,H[i]?=some (.ghost FK vs ms)/\cs=Cw l FK:=by
 rw[A3]at hi;cases ho:H[i]? with
 |none=>rw[ho]at hi;simp at hi
 |some ob=>
  rw[ho]at hi;cases ob<;>simp[BW]at hi;obtain⟨rfl,rfl,rfl⟩:=hi;exact⟨_,rfl,rfl⟩
theorem Oq{H:List HO}{l:Nat}{ks vs:List AV}(hi:(H.map (BW l))[i]?=some (.map ks vs)):H[i]?=some (.map ks vs):=by
 rw[A3]at hi;cases ho:H[i]? with
 |none=>rw[ho]at hi;simp at hi
 |some ob=>
  rw[ho]at hi;cases ob<;>simp[BW]at hi;obtain⟨rfl,rfl⟩:=hi;rfl
theorem Ty{H:List HO}{l:Nat}{I:Inv}(hi:(H.map (BW l))[i]?=some (.inv I)):H[i]?=some (.inv I):=by
 rw[A3]at hi;cases ho:H[i]? with
 |none=>rw[ho]at hi;simp at hi
 |some ob=>
  rw[ho]at hi;cases ob<;>simp[BW]at hi;subst hi;rfl
theorem AJ.renew(h:AJ G C mu E H a w){l:Nat}{sz:Nat}{lX:List AV}(hl:H[l]?=some (.arr e sz lX)){es:List AV}{cap:Nat}
  (hz:∀a∈es,a.cells.length=sz) (hr:Ac C w (flat es) (Cf mu) (vs.take (es.length*sz))) (h1:∀v∈vs,v.oneCell'=true) (hc:es.length<=cap) (hm:cap<=9223372036854775807) (hv:vs.length=cap*sz):
  AJ G C (mu.set l (some (.arr (.slice (some ⟨w.heap.size,0,none⟩) es.length cap)))) (Cw l E) ((H.map (BW l)).set l (.arr e sz es)) a (w.alloc (.cells vs.toArray e)):=by
 have AA:l<H.length:=(AZ.1 hl).1;have hnb:∀b,mu l≠some (.D6 b):=λb hb=>by obtain⟨_,h2⟩:=h.heap.Dk l e sz lX hl;rcases h2 with⟨h2,_⟩|⟨_,_,_,h2,_⟩<;>(rw[hb]at h2;cases h2)
 have hx:=KD (C:=C) (w:=w) h.lt (.cells vs.toArray e);have Xp:∀{g':GO}{i b},mu i=some g'->g'.Az=some b->b<w.heap.size:=λhm hb=>(h.heap.fresh _ _ _ hm hb).2.1;have Jg:AU (Cf mu) (Cf (mu.set l (some (.arr (.slice (some ⟨w.heap.size,0,none⟩) es.length cap))))):=Gc λi b hb=>by rw[Mu.AQ _ _ (λee=>by subst ee;exact hnb b hb)];exact hb
 have hsc:∀{cs:List AV}{us:List Value},Ac C w cs mu us->Ac C (w.alloc (.cells vs.toArray e)) (Cw l cs) (mu.set l (some (.arr (.slice (some ⟨w.heap.size,0,none⟩) es.length cap)))) us:=λk=>
  Ac.mono hx _ (AU.refl _) (D1 _ (λb hb=>absurd hb (hnb b)) k)
 refine⟨h.c0,h.c1,λb o hc=>by have:=h.lt b o hc;simp;omega,⟨?_,?_,?_,?_,?_,?_,?_⟩,hsc h.env,?_,h.Ax.alloc _,by simpa using h.Dv.1,λi k hn hi=>by have hp:=h.Dv.2 i k hn hi;by_cases e:i=l;subst e;obtain⟨_,q⟩:=h.heap.Dk _ _ _ _ hl;rcases q with⟨q,_⟩|⟨_,_,_,q,_⟩;rw[hp]at q;cases q;rw[hp]at q;cases q;rw[Mu.AQ _ _ e];exact hp⟩
 rotate_right
 ·obtain⟨ms,k1,k2⟩:=h.defers;refine⟨ms,k1,k2.step (IF (λb hb=>hb.1) _) (λi x b hi hb=>?_) (λ_ _ h=>.inl h) (λi cs us ms hi=>?_) (λi I hi=>?_)⟩
  ·by_cases ei:i=l;·subst ei;rw[Mu.AP]at hi;simp only[Ao.injEq]at hi;subst hi;simp only[GO.Az,Ao.injEq]at hb;exact .inr (Nat.le_of_eq hb)
   rw[Mu.AQ _ _ ei]at hi;exact .inl ⟨i,x,hi,hb⟩
  ·by_cases ei:i=l;·subst ei;simp[AA]at hi
   rw[A0 (Ne.symm ei)]at hi;obtain⟨FK,k1,rfl⟩:=Pk hi;exact⟨FK,k1,hsc⟩
  by_cases ei:i=l;subst ei;simp[AA]at hi;rw[A0 (Ne.symm ei)]at hi;exact Ty hi
 intro i x hi;simp only[QS,Ky];by_cases ei:i=l;subst ei;exact AA;rw[Mu.AQ _ _ ei]at hi;exact h.heap.JX _ _ hi
 ·intro i x b hi hb;by_cases ei:i=l;·subst ei;rw[Mu.AP]at hi;simp only[Ao.injEq]at hi;subst hi;simp only[GO.Az,Ao.injEq]at hb;subst hb;exact⟨.inl h.Ax.size,by simp,λo hc=>absurd (h.lt _ _ hc) (by omega)⟩
  rw[Mu.AQ _ _ ei]at hi;obtain⟨k1,k2,k3⟩:=h.heap.fresh _ _ _ hi hb;exact⟨k1,by simp;omega,k3⟩
 ·intro i x b i' x' hi hb EW dT;by_cases ei:i=l;·subst ei;rw[Mu.AP]at hi;simp only[Ao.injEq]at hi;subst hi;simp only[GO.Az,Ao.injEq]at hb;subst hb;by_cases ei':i'=i;exact ei';rw[Mu.AQ _ _ ei']at EW;exact absurd (Xp EW dT) (by omega)
  rw[Mu.AQ _ _ ei]at hi;by_cases ei':i'=l;subst ei';rw[Mu.AP]at EW;simp only[Ao.injEq]at EW;subst EW;simp only[GO.Az,Ao.injEq]at dT;subst dT;exact absurd (Xp hi hb) (by omega);rw[Mu.AQ _ _ ei']at EW;exact h.heap.sep _ _ _ _ _ hi hb EW dT
 ·intro i hi;by_cases ei:i=l;subst ei;simp[AA]at hi;rw[A0 (Ne.symm ei),A3]at hi;rw[Mu.AQ _ _ ei];cases ho:H[i]? with
  |none=>rw[ho]at hi;simp at hi
  |some ob=>
   rw[ho]at hi;cases ob with
   |dead=>exact h.heap.dead i ho
   |arr _ _ _|cells _|ghost _ _ _|inv _|map _ _=>simp[BW]at hi
 ·intro i cs hi;by_cases ei:i=l;subst ei;simp[AA]at hi;rw[A0 (Ne.symm ei),A3]at hi;cases ho:H[i]? with
  |none=>rw[ho]at hi;simp at hi
  |some ob=>
   rw[ho]at hi;cases ob with
   |arr _ _ _|dead|ghost _ _ _|inv _|map _ _=>simp[BW]at hi
   |cells FK=>
    simp only[Bg,BW,Ao.injEq,HO.cells.injEq]at hi;subst hi;obtain⟨b,cur,e',k1,k2,k3,k4⟩:=h.heap.Dp i FK ho;exact⟨b,cur,e',by rw[Mu.AQ _ _ ei];exact k1,by rw[heap_alloc_old _ _ (Xp k1 rfl)];exact k2,hsc k3,k4⟩
 ·intro i e' De es' hi;by_cases ei:i=l;·subst ei;simp only[Dx (show i<(H.map (BW i)).length by simpa using AA),Ao.injEq,HO.arr.injEq]at hi;obtain⟨rfl,rfl,rfl⟩:=hi;exact⟨hz,.inr ⟨w.heap.size,cap,vs.toArray,Mu.AP _ _ _,⟨_,heap_alloc_new _ _,.inl rfl⟩,hc,hm,by simpa using hv,by simpa using Ac.mono hx _ Jg hr,by simpa using h1⟩⟩
  rw[A0 (Ne.symm ei),A3]at hi;cases ho:H[i]? with
  |none=>rw[ho]at hi;simp at hi
  |some ob=>
   rw[ho]at hi;cases ob with
   |cells _|dead|ghost _ _ _|inv _|map _ _=>simp[BW]at hi
   |arr e0 sz0 Zod=>
    simp only[Bg,BW,Ao.injEq,HO.arr.injEq]at hi;obtain⟨rfl,rfl,rfl⟩:=hi;obtain⟨k0,k⟩:=h.heap.Dk i _ _ _ ho;refine⟨k0,k.imp (λ⟨k1,k2⟩=>⟨by rw[Mu.AQ _ _ ei];exact k1,k2⟩) λ⟨b,Zq,cur,k1,k2,k3,k4,k5,k6,k7⟩=>⟨b,Zq,cur,by rw[Mu.AQ _ _ ei];exact k1,?_,k3,k4,k5,Ac.mono hx _ Jg k6,k7⟩⟩;exact k2.of_eq (heap_alloc_old _ _ (Xp k1 rfl))
 intro i ks us hi;by_cases ei:i=l;subst ei;simp[AA]at hi;rw[A0 (Ne.symm ei)]at hi;obtain⟨b,es,cl,h1,h2,h3⟩:=h.heap.maps i ks us (Oq hi);exact⟨b,es,cl,by rw[Mu.AQ _ _ ei];exact h1,by rw[heap_alloc_old _ _ (Xp h1 rfl)];exact h2,h3⟩
theorem AJ.Dh(h:AJ G C mu E H a w)(l:Nat):AJ G C mu (Cw l E) (H.map (BW l)) a w:=by
 have ML:mu.set l (mu l)=mu:=by
  funext i;by_cases e:i=l
  subst e;rw[Mu.AP];rw[Mu.AQ _ _ e]
 have hsc:∀{cs:List AV}{us:List Value},Ac C w cs mu us->Ac C w (Cw l cs) mu us:=λk=>by have:=D1 (l:=l) (g:=mu l) _ (λb hb=>hb) k;rwa [ML]at this
 refine⟨h.c0,h.c1,h.lt,⟨λi x hi=>by simpa using h.heap.JX i x hi,h.heap.fresh,h.heap.sep,?_,?_,?_,λi ks us hi=>h.heap.maps i ks us (Oq hi)⟩,hsc h.env,?_,h.Ax,by simpa using h.Dv.1,h.Dv.2⟩
 rotate_right
 obtain⟨ms,k1,k2⟩:=h.defers;refine⟨ms,k1,k2.step ⟨rfl,rfl,rfl,Kw _,λ_ _=>rfl⟩ (λi x b hi hb=>.inl ⟨i,x,hi,hb⟩) (λ_ _ h=>.inl h) (λi cs us ms hi=>?_) (λi I hi=>Ty hi)⟩;obtain⟨FK,k1,rfl⟩:=Pk hi;exact⟨FK,k1,hsc⟩
 ·intro i hi;rw[A3]at hi;cases ho:H[i]? with
  |none=>rw[ho]at hi;simp at hi
  |some ob=>
   rw[ho]at hi;cases ob with
   |dead=>exact h.heap.dead i ho
   |arr _ _ _|cells _|ghost _ _ _|inv _|map _ _=>simp[BW]at hi
 ·intro i cs hi;rw[A3]at hi;cases ho:H[i]? with
  |none=>rw[ho]at hi;simp at hi
  |some ob=>
   rw[ho]at hi;cases ob with
   |arr _ _ _|dead|ghost _ _ _|inv _|map _ _=>simp[BW]at hi
   |cells FK=>
    simp only[Bg,BW,Ao.injEq,HO.cells.injEq]at hi;subst hi;obtain⟨b,cur,e',k1,k2,k3,k4⟩:=h.heap.Dp i FK ho;exact⟨b,cur,e',k1,k2,hsc k3,k4⟩
 intro i e' De es' hi;rw[A3]at hi;cases ho:H[i]? with
 |none=>rw[ho]at hi;simp at hi
 |some ob=>
  rw[ho]at hi;cases ob with
  |cells _|dead|ghost _ _ _|inv _|map _ _=>simp[BW]at hi
  |arr e0 sz0 Zod=>
   simp only[Bg,BW,Ao.injEq,HO.arr.injEq]at hi;obtain⟨rfl,rfl,rfl⟩:=hi;exact h.heap.Dk i _ _ _ ho
theorem AJ.Hj(h:AJ G C mu E H a w){H':List HO}{sz:Nat}(Hq:Al H n H' (.arr e sz [])):AJ G C (mu.set n (some (.arr (.slice none 0 0)))) E H' a w/\
  Aj C w (.own n sz 0 0) (mu.set n (some (.arr (.slice none 0 0)))) (.slice none 0 0):=by
 have Xn:mu n=none:=by
  exact Yad
 have hle:=Uj (mu:=mu) (l:=n) (some (.arr (.slice none 0 0))) Xn;have Jg:AU (Cf mu) (Cf (mu.set n (some (.arr (.slice none 0 0))))):=Gc λl b e=>hle l _ e;refine⟨⟨h.c0,h.c1,h.lt,⟨?_,?_,?_,?_,?_,?_,?_⟩,Ac.mono (Ext.refl _ _) _ hle h.env,?_,h.Ax,HS h.Dv.1 Hq.len,λi b hn hi=>hle i _ (h.Dv.2 i b hn hi)⟩,?_⟩
 rotate_right 2
 ·obtain⟨ms,k1,k2⟩:=h.defers;refine⟨ms,k1,k2.step ⟨rfl,rfl,rfl,Kw _,λ_ _=>rfl⟩ (λi x b hi hb=>?_) (λ_ _ h=>.inl h) (λi cs us ms hi=>?_) (λi I hi=>?_)⟩
  ·by_cases ei:i=n;·subst ei;rw[Mu.AP]at hi;simp only[Ao.injEq]at hi;subst hi;cases hb
   rw[Mu.AQ _ _ ei]at hi;exact .inl ⟨i,x,hi,hb⟩
  ·by_cases ei:i=n;·subst ei;rw[Hq.get]at hi;cases hi
   rw[Hq.other i ei]at hi;exact⟨cs,hi,Ac.mono (Ext.refl _ _) _ hle⟩
  by_cases ei:i=n;subst ei;rw[Hq.get]at hi;cases hi;rw[Hq.other i ei]at hi;exact hi
 rotate_left
 intro l x hl;by_cases e:l=n;subst e;exact Hq.lt;rw[Mu.AQ _ _ e]at hl;have:=h.heap.JX _ _ hl;have:=Hq.len;omega
 ·intro l x b hl hb;by_cases e:l=n;·subst e;rw[Mu.AP]at hl;simp only[Ao.injEq]at hl;subst hl;simp[GO.Az]at hb
  rw[Mu.AQ _ _ e]at hl;exact h.heap.fresh _ _ _ hl hb
 ·intro l x b l' x' hl hb CT dT;have aux:∀{i x},mu.set n (some (.arr (.slice none 0 0))) i=some x->x.Az=some b->mu i=some x:=λ{i x} hi hb=>by by_cases e:i=n;subst e;rw[Mu.AP]at hi;simp only[Ao.injEq]at hi;subst hi;simp[GO.Az]at hb;rw[Mu.AQ _ _ e]at hi;exact hi
  exact h.heap.sep _ _ _ _ _ (aux hl hb) hb (aux CT dT) dT
 intro l hl;by_cases e:l=n;subst e;rw[Hq.get]at hl;simp at hl;rw[Hq.other l e]at hl;rw[Mu.AQ _ _ e];exact h.heap.dead l hl;intro l cs hl;by_cases e:l=n;subst e;rw[Hq.get]at hl;simp at hl;rw[Hq.other l e]at hl;obtain⟨b,cur,e,h1,h2,h3,h4⟩:=h.heap.Dp l cs hl;exact⟨b,cur,e,hle _ _ h1,h2,Ac.mono (Ext.refl _ _) _ hle h3,h4⟩
 ·intro l e' De es hl;by_cases e:l=n;·subst e;rw[Hq.get]at hl;simp only[Ao.injEq,HO.arr.injEq]at hl;obtain⟨_,_,rfl⟩:=hl;exact⟨by simp,.inl ⟨Mu.AP _ _ _,rfl⟩⟩
  rw[Hq.other l e]at hl;obtain⟨h1,h2⟩:=h.heap.Dk l e' De es hl;exact⟨h1,h2.imp (λ⟨k1,k2⟩=>⟨hle _ _ k1,k2⟩) λ⟨b,cap,cur,k1,k2,k3,k4,k5,k6,k7⟩=>⟨b,cap,cur,hle _ _ k1,k2,k3,k4,k5,Ac.mono (Ext.refl _ _) _ Jg k6,k7⟩⟩
 intro l ks us hl;by_cases e:l=n;subst e;rw[Hq.get]at hl;simp at hl;rw[Hq.other l e]at hl;obtain⟨b,es,cl,h1,h2,h3⟩:=h.heap.maps l ks us hl;exact⟨b,es,cl,hle _ _ h1,h2,h3⟩;unfold Aj;exact⟨_,Mu.AP _ _ _,by simp[Fb],by simp[Fb,Qf],by simp[DJ]⟩
theorem Vc(h:AJ G C mu E H a w){x:AV}(hx:Aj C w x mu u){K:Nat->List AV->Prop}(hk:HZ H x K):
  ∃sz xs,K sz xs/\(∀a∈xs,a.cells.length=sz)/\((u=.slice none 0 0/\xs=[])\/∃ad c vs,u=.slice (some ad) xs.length c/\vs.length=xs.length*sz/\Ac C w (flat xs) (Cf mu) vs/\
   (∀j v,vs[j]?=some v->w.cell? (ad.add j)=some v)/\∀v∈vs,v.oneCell'=true):=by
 cases x with
 |sl sz es=>
  simp only[HZ]at hk;unfold Aj at hx;rcases hx with⟨⟨ad,rfl⟩,rfl⟩|⟨b,o,cap,rfl,h1,h2,h3⟩
  ·cases ad with
   |none=>exact⟨sz,[],hk,by simp,.inl ⟨rfl,rfl⟩⟩
   |some ad=>exact⟨sz,[],hk,by simp,.inr ⟨ad,0,[],rfl,by simp,by simp[flat,Ac],by simp,by simp⟩⟩
  have hz:∀a∈es,a.cells.length=sz:=λx hx=>by obtain⟨i,hi,rfl⟩:=List.getElem_of_mem hx;exact((FC es o).1 h3 i hi).1
  have hc:Cells C w (flat es) b o:=by
   clear hk h1
   induction es generalizing o with
   |nil=>simp[flat,Cells]
   |cons e es ih=>
    rw[QE]at h3;(have e1:flat (e::es)=e.cells++flat es:=by simp[flat]);rw[e1];exact Qe _ _ h3.1.2 (by rw[h3.1.1];exact ih _ h3.2 (λx hx=>hz x (by simp[hx])))
  obtain⟨vs,k1,k2,k3⟩:=hc.rY;refine⟨sz,es,hk,hz,.inr ⟨_,cap,vs,rfl,by rw[AM _ k2,CP es hz],k2.up,λj v hv=>?_,k3⟩⟩;rw[add_lit];exact k1 j v hv
 |own l sz lo n=>
  simp only[HZ]at hk;replace hk:=Bf.1 hk;obtain⟨ob,BR,hk⟩:=hk;cases ob with
  |cells _|dead|ghost _ _ _|inv _|map _ _=>exact hk.elim
  |arr e De es=>
   simp only at hk;split at hk
   ·rename_i hb;simp only[Ap]at hb;obtain rfl:=Am hb.1;obtain rfl:=Am hb.2;obtain⟨rfl,hk⟩:=hk;unfold Aj at hx;obtain⟨x,hm,hle,UM,rfl⟩:=hx;obtain⟨hz,h2⟩:=h.heap.Dk l e sz es BR;rcases h2 with⟨h2,rfl⟩|⟨b,cap,cur,h3,⟨fz,h4,Qn⟩,h5,h6,h7,h8,h9⟩;·rw[hm]at h2;simp only[Ao.injEq,GO.arr.injEq]at h2;subst h2;exact⟨sz,[],hk,by simp,.inl ⟨rfl,rfl⟩⟩
    rw[hm]at h3;simp only[Ao.injEq,GO.arr.injEq]at h3;subst h3;(have LS:cur.toList.length=cap*sz:=by simpa using h7);have hmul:es.length*sz<=cap*sz:=A9 _ h5;refine⟨sz,es,hk,hz,.inr ⟨⟨b,0,none⟩,cap,cur.toList.take (es.length*sz),by simp[DJ],by rw[A4];omega,h8,λj v hv=>?_,λv hv=>h9 v (BU hv)⟩⟩;rw[add_lit];have:=(Nq h4) j v;rw[Fc]at hv;split at hv;exact this hv;cases hv
   exact hk.elim
 |_=>exact hk.elim
theorem VE{zc:List AV}(hz:Ac C w zc mu z.cells.toList)(hs:zc.all Eg=true)(n:Nat)(hp:0<z.cells.size):∀v∈(Bc z.cells n).toList,v.oneCell'=true:=by
 intro v hv;simp only[Bc,D9,Hp]at hv;obtain⟨i,_,rfl⟩:=hv;have him:i%z.cells.size<z.cells.size:=R7 _ hp;rw[getElem!_pos z.cells _ him];exact HG hz hs _ (by simp)
theorem S3(vs:List Value)(Z:Array Value):vs.toArray++Z=(vs++Z.toList).toArray:=by cases Z;simp
theorem eJ(xs ys:List AV):flat (xs++ys)=flat xs++flat ys:=by unfold flat;rw[K0]
structure rI(P:Program)(t e:TypeId)(sz by':Nat)(z:Value)(i:TypeInfo):Prop where
 ht:P.underlying t=some (.slice e)
 hi:P.info? e=some i
 hz:i.zero=some z
 hs:i.size=sz
 hb:i.bytes=by'
 hzs:z.cells.size=sz
 hp:1<=sz
 one:∀n,∀v∈(Bc z.cells n).toList,v.oneCell'=true
theorem Qy{P:Program}{sz:Nat}{i:TypeInfo}(A:rI P t e sz by' z i)(n:Nat):(Bc z.cells n).toList.length=n*sz:=by
 simp[Bc,A.hzs]
theorem Ze5(h:AJ G C mu E H a w){H':List HO}{sz:Nat}{i:TypeInfo}(A:rI G.P t e sz by' z i){xs:List AV}(Hq:Al H n H' (.arr e sz xs))(hzz:∀a∈xs,a.cells.length=sz)
  (hu:(u=.slice none 0 0/\xs=[])\/∃ad c vs,u=.slice (some ad) xs.length c/\vs.length=xs.length*sz/\Ac C w (flat xs) (Cf mu) vs/\(∀j v,vs[j]?=some v->w.cell? (ad.add j)=some v)/\∀v∈vs,v.oneCell'=true)
  (hb:xs.length*by'<=140737488355328) (hm:xs.length<=9223372036854775807):
  ∃mu' w' v,(C4 #[t,t] ty #[.slice none 0 0,u]).run G.P w=.ok v w'/\AJ G C mu' E H' a w'/\Aj C w' (.own n sz 0 xs.length) mu' v:=by
 have ZbA:xs.length=0->∀u',(∃ad,u'=.slice ad 0 0\/∃c,u'=.slice ad 0 c)->(C4 #[t,t] ty #[.slice none 0 0,u']).run G.P w=.ok (.slice none 0 0) w:=by rintro _ u' ⟨ad,rfl|⟨c,rfl⟩⟩<;>cases ad<;>simp[C4,run_underlying A.ht,sizeOf,typeInfo,A.hi,Kj,Ib,loadCells,loadCellsFrom]
 by_cases hx:xs.length=0;have Oe:xs=[]:=JQ hx;subst Oe;obtain⟨h1,h2⟩:=h.Hj Hq;refine⟨_,w,_,ZbA hx u ?_,h1,h2⟩;rcases hu with⟨rfl,_⟩|⟨ad,c,vs,rfl,_⟩;exact⟨none,.inl rfl⟩;exact⟨some ad,.inr ⟨c,rfl⟩⟩;rcases hu with⟨_,rfl⟩|⟨ad,c,vs,rfl,hl,hr,FG,h1⟩;simp at hx;have Q3:=run_append_nil (P:=G.P) w t ty e i z A.ht A.hi A.hz ad xs.length c vs (by rw[hl,A.hs]) FG (by omega) (by omega) (by rw[A.hb];omega);have ET:=grownCap_ge w xs.length 0 e;have hle:=grownCap_le_maxLen w xs.length 0 e (by simp only[maxLen];omega);simp only[maxLen]at hle
 obtain⟨mu',m1,m2⟩:=SU (e:=e) (cap:=grownCap w xs.length 0 e) (vs:=vs++(Bc z.cells (grownCap w xs.length 0 e-xs.length)).toList) h.drew Hq hzz
  (by rw[<-hl,It];exact Ac.mono IZ _ (AU.refl _) hr)
  (λv hv=>by
   rcases CL.1 hv with hv|hv
   ·exact h1 v hv
   ·exact A.one _ v hv)
  ET (by omega) (by rw[A1,hl,Qy A,<-A5];congr 1;omega)
 refine⟨mu',_,_,?_,m1,m2⟩;rw[Q3,S3];rfl
theorem SB{P:Program}(w:World)(t ty e:TypeId)(i:TypeInfo)(ht:P.underlying t=some (.slice e))(hi:P.info? e=some i)
  (g iM Zgr:Nat) (cur:Array Value)  (hg:w.heap[g]?=some (.cells cur e fz)) (Qn:Wg cur fz)
  (a:Addr) (m c:Nat) (news:List Value) (hl:news.length=m*i.size) (dK:∀j u,news[j]?=some u->w.cell? (a.add j)=some u) (h1:∀u∈news,u.oneCell'=true)
  (PV:iM+m<=Zgr) (ZbI:iM*i.size+news.length<=cur.size):
  (C4 #[t,t] ty #[.slice (some ⟨g,0,none⟩) iM Zgr,.slice (some a) m c]).run P w=
   .ok (.slice (some ⟨g,0,none⟩) (iM+m) Zgr) (w.setRow g (cur.toList.take (iM*i.size)++news++cur.toList.drop (iM*i.size+news.length)).toArray):=by
 have hf:=run_firstCells_some (P:=P) w i.size m a m c news hl dK;have Ai:=Ea P g (iM*i.size) e fz news 0 cur w hg Qn (by simpa using ZbI) h1;simp only[Gp]at Ai;simp[C4,run_underlying ht,sizeOf,typeInfo,hi,Kj,PV,hf,add_lit,Ai]
theorem Ze4(h:AJ G C mu E H a w){sz:Nat}{i:TypeInfo}(A:rI G.P t e sz by' z i){l:Nat}{es:List AV}(hl:H[l]?=some (.arr e sz es)){s:Value}
  (hs:Aj C w (.own l sz 0 es.length) mu s) {xs:List AV}  (hzz:∀a∈xs,a.cells.length=sz)
  (hu:(u=.slice none 0 0/\xs=[])\/∃ad c vs,u=.slice (some ad) xs.length c/\vs.length=xs.length*sz/\Ac C w (flat xs) (Cf mu) vs/\(∀j v,vs[j]?=some v->w.cell? (ad.add j)=some v)/\∀v∈vs,v.oneCell'=true)
  (hb:(es++xs).length*by'<=140737488355328) (hm:(es++xs).length<=9223372036854775807):
  ∃mu' w' v,(C4 #[t,t] ty #[s,u]).run G.P w=.ok v w'/\AJ G C mu' (Cw l E) ((H.map (BW l)).set l (.arr e sz (es++xs))) a w'/\Aj C w' (.own l sz 0 (es++xs).length) mu' v:=by
 obtain⟨hz,h2⟩:=h.heap.Dk l e sz es hl;have AA:l<H.length:=(AZ.1 hl).1;have ZjL:∀a∈es++xs,a.cells.length=sz:=λx hx=>(CL.1 hx).elim (hz x) (hzz x);have UI:∀{ob:HO},H[l]?=some ob->BW l ob=ob->(H.map (BW l)).set l ob=H.map (BW l):=λ{ob} ho hsc=>by apply G0;intro j;by_cases e:j=l;subst e;rw[Dx (by simpa using AA),A3,ho];simp[hsc];rw[A0 (Ne.symm e)]
 unfold Aj at hs;obtain⟨x,UM,hle,Zni,rfl⟩:=hs
 -- nothing is appended
 by_cases hx:xs.length=0
 ·have Oe:xs=[]:=JQ hx;subst Oe;simp only[Np];rw[UI hl rfl];refine⟨mu,w,DJ x sz 0 es.length,?_,h.Dh l,by unfold Aj;exact⟨x,UM,hle,Zni,rfl⟩⟩;have hu':∃ad c,u=.slice ad 0 c:=by rcases hu with⟨rfl,_⟩|⟨ad,c,vs,rfl,_⟩;exact⟨none,0,rfl⟩;exact⟨some ad,c,rfl⟩
  obtain⟨ad,c,rfl⟩:=hu';rcases h2 with⟨h2,rfl⟩|⟨b,cap,cur,h3,h4,h5,h6,h7,h8,h9⟩;·rw[UM]at h2;simp only[Ao.injEq,GO.arr.injEq]at h2;subst h2;cases ad<;>simp[DJ,C4,run_underlying A.ht,sizeOf,typeInfo,A.hi,Kj,Ib,loadCells,loadCellsFrom]
  rw[UM]at h3;simp only[Ao.injEq,GO.arr.injEq]at h3;subst h3;cases ad<;>simp[DJ,C4,run_underlying A.ht,sizeOf,typeInfo,A.hi,Kj,Ib,loadCells,loadCellsFrom,h5,storeCells]
 rcases hu with⟨_,rfl⟩|⟨ad,c,vs,rfl,vH,hr,FG,h1⟩;simp at hx;rw[A1]at hb hm;rcases h2 with⟨h2,rfl⟩|⟨b,cap,cur,h3,⟨fz,h4,Qn⟩,h5,h6,h7,h8,h9⟩
 · -- it was nil
  rw[UM]at h2;simp only[Ao.injEq,GO.arr.injEq]at h2;subst h2;simp only[H0,Fo]at hb hm;have Q3:=run_append_nil (P:=G.P) w t ty e i z A.ht A.hi A.hz ad xs.length c vs (by rw[vH,A.hs]) FG (by omega) (by omega) (by rw[A.hb];omega);have ET:=grownCap_ge w xs.length 0 e;have hle:=grownCap_le_maxLen w xs.length 0 e (by simp only[maxLen];omega);simp only[maxLen]at hle
  have m1:=h.drew.renew hl (es:=xs) (cap:=grownCap w xs.length 0 e) (vs:=vs++(Bc z.cells (grownCap w xs.length 0 e-xs.length)).toList) hzz
   (by rw[<-vH,It];exact Ac.mono IZ _ (AU.refl _) hr)
   (λv hv=>by
    rcases CL.1 hv with hv|hv
    ·exact h1 v hv
    ·exact A.one _ v hv)
   ET (by omega) (by rw[A1,vH,Qy A,<-A5];congr 1;omega)
  refine⟨_,_,.slice (some ⟨w.heap.size,0,none⟩) xs.length (grownCap w xs.length 0 e),?_,m1,?_⟩;simp only[DJ,H0];rw[Q3,S3];simp only[Kt];unfold Aj;exact⟨_,Mu.AP _ _ _,by simp[Fb],by simp only[Fb,Qf];omega,by simp[DJ]⟩
 rw[UM]at h3;simp only[Ao.injEq,GO.arr.injEq]at h3;subst h3;have LS:cur.toList.length=cap*sz:=by simpa using h7
 have hmul:es.length*sz<=cap*sz:=A9 _ h5;have vI:DJ (.slice (some ⟨b,0,none⟩) es.length cap) sz 0 es.length=.slice (some ⟨b,0,none⟩) es.length cap:=by simp[DJ]
 rw[vI];have ZkD:Ac C w (flat (es++xs)) (Cf mu) (cur.toList.take (es.length*sz)++vs):=by rw[eJ];exact Bj h8 hr
 by_cases PV:es.length+xs.length<=cap
 · -- there is room
  have dN:(es.length+xs.length)*sz<=cap*sz:=A9 _ PV;rw[A5]at dN;have Q3:=SB (P:=G.P) w t ty e i A.ht A.hi b es.length cap cur h4 Qn ad xs.length c vs (by rw[vH,A.hs]) FG h1 PV (by rw[A.hs,vH];omega);rw[A.hs]at Q3;have hx:=Hu (w:=w) (h.heap.fresh _ _ _ UM rfl).2.2 ((cur.toList.take (es.length*sz)++vs++cur.toList.drop (es.length*sz+vs.length)).toArray)
  have m1:=AJ.write (g:=.arr (.slice (some ⟨b,0,none⟩) es.length cap)) (g':=.arr (.slice (some ⟨b,0,none⟩) (es.length+xs.length) cap)) h UM rfl
   (new:=(cur.toList.take (es.length*sz)++vs++cur.toList.drop (es.length*sz+vs.length)).toArray) h4 (.arr e sz (es++xs)) rfl (by simp) (by simp) (E':=Cw l E)
   (Ac.mono hx _ (AU.refl _) (D1 _ (λb hb=>by rw[UM]at hb;cases hb) h.env)) ((H.map (BW l)).set l (.arr e sz (es++xs))) (by simp)
   (λj hj=>by
    rw[A0 (Ne.symm hj),A3]
    cases ho:H[j]? with
    |none=>simp
    |some ob=>
     cases ob with
     |cells FK=>
      simp only[Bg,BW,Ao.injEq,HO.cells.injEq,reduceCtorEq,false_implies,implies_true,and_true];refine⟨trivial,?_⟩;rintro cs rfl;exact⟨FK,rfl,λus k=>D1 _ (λb hb=>by rw[UM]at hb;cases hb) k⟩
     |dead|inv I|map ks0 Tc=>simp[BW]
     |ghost FK Tc ms0=>
      simp only[Bg,BW,Ao.injEq,HO.ghost.injEq,reduceCtorEq,false_implies,implies_true,and_true,true_and];rintro cs vs ms ⟨rfl,rfl,rfl⟩;exact⟨FK,⟨rfl,rfl,rfl⟩,λus k=>D1 _ (λb hb=>by rw[UM]at hb;cases hb) k⟩
     |arr e0 sz0 lX=>simp[BW])
   (by simp) (by rw[Dx (by simpa using AA)])
   (by simp)
   (λe' De es' hc=>by
    simp only[HO.arr.injEq]at hc
    obtain⟨rfl,rfl,rfl⟩:=hc
    refine⟨ZjL,cap,by simp,rfl,by simpa using PV,h6,?_,?_,?_⟩
    ·simp only[C3,A1,A4,C1];omega
    ·have e1:(es++xs).length*sz=(cur.toList.take (es.length*sz)++vs).length:=by
      rw[A1,A1,A4,A5];omega
     rw[e1]
     simp only[It]
     exact ZkD
    ·intro v hv
     simp only[CL]at hv
     rcases hv with (hv|hv)|hv
     ·exact h9 v (BU hv)
     ·exact h1 v hv
     ·exact h9 v (DW hv))
   (λi hi ks vs hh=>by rw[A0 (Ne.symm hi)]at hh;exact Oq hh) (by simp)
   ⟨λ_ h=>(by cases h),λ_ _ _ _=>Qn.size (by simp only[C3,A1,A4,C1];omega)⟩
  refine⟨_,_,_,Q3,m1,?_⟩;unfold Aj;exact⟨_,Mu.AP _ _ _,by simp[Fb],by simp only[Fb,Qf];omega,by simp[DJ]⟩
 -- a new array
 have Q3:=run_append_grow (P:=G.P) w t ty e i z A.ht A.hi A.hz ⟨b,0,none⟩ es.length cap (cur.toList.take (es.length*sz)) (by rw[A4,A.hs];omega)
  (λj v hv=>by
   rw[add_lit]
   have:=(Nq h4) j v
   rw[Fc]at hv
   split at hv
   ·exact this hv
   ·cases hv)
  ad xs.length c vs (by rw[vH,A.hs]) FG (by omega) (by omega) (growslice_fits (by omega) (by rw[A.hb];exact hb))
 have ET:=grownCap_ge w (es.length+xs.length) cap e;have hle:=grownCap_le_maxLen w (es.length+xs.length) cap e (by simp only[maxLen];omega);simp only[maxLen]at hle
 have m1:=h.drew.renew hl (es:=es++xs) (cap:=grownCap w (es.length+xs.length) cap e)
  (vs:=cur.toList.take (es.length*sz)++vs++(Bc z.cells (grownCap w (es.length+xs.length) cap e-(es.length+xs.length))).toList) ZjL
  (by
   have e1:(es++xs).length*sz=(cur.toList.take (es.length*sz)++vs).length:=by
    rw[A1,A1,A4,A5];omega
   rw[e1,It];exact Ac.mono IZ _ (AU.refl _) ZkD)
  (λv hv=>by
   simp only[CL]at hv
   rcases hv with (hv|hv)|hv
   ·exact h9 v (BU hv)
   ·exact h1 v hv
   ·exact A.one _ v hv)
  (by rw[A1];exact ET) (by omega)
  (by rw[A1,A1,A4,vH,Qy A,H2 (by omega),<-A5,<-A5];congr 1;omega)
 refine⟨_,_,.slice (some ⟨w.heap.size,0,none⟩) (es.length+xs.length) (grownCap w (es.length+xs.length) cap e),?_,m1,?_⟩;rw[Q3,S3,List.append_toArray,<-S3];unfold Aj;exact⟨_,Mu.AP _ _ _,by simp[Fb],by simp only[Fb,Qf,A1];omega,by simp[DJ]⟩
theorem ZfV(C:Af)(w:World)(hT:CY G.P T){y:TY}{Cz:Nat}{ag:Bool}(hy:T[t]?=some y)(hs:y.k=.slice e Cz by' ag)(hp:1<=Cz){z:AV}{ye:TY}(R5:T[e]?=some ye)(YX:z.cells=ye.zero)
  (hl:z.cells.length=Cz) (hsc:z.cells.all Eg=true):∃zv i,rI G.P t e Cz by' zv i:=by
 obtain⟨hu,DT,Sa,_⟩:=hT.slice hy hs;have Ic:=run_sizeOf (P:=G.P) (w:=w) DT hp;obtain⟨i,d,hi,hd,R4⟩:=hT.facts R5;have LR:i.size=Cz:=by simp[sizeOf,typeInfo,hi]at Ic;exact Ic
 have ZbE:i.bytes=by':=by unfold RR at Sa;simpa[hi]using Sa
 obtain⟨zv,UG,NS⟩:=EE (C:=C) (w:=w) (mu:=Mu.none) hT R5 (by rw[<-YX,hl,R4];exact LR.symm) (by rw[R4];simp only[LR];exact hp);rw[<-YX]at NS;have hzl:zv.cells.size=Cz:=by have:=AM _ NS;simpa[hl]using this
 have hiz:i.zero=some zv:=by
  cases hz:i.zero with
  |none=>simp[zeroValue,typeInfo,hi,hz]at UG
  |some z'=>simp[zeroValue,typeInfo,hi,hz]at UG;rw[UG]
 exact⟨zv,i,hu,hi,hiz,LR,ZbE,hzl,hp,λn=>VE NS hsc n (by omega)⟩
theorem Rv{by':Nat}{i:TypeInfo}(hu:G.P.underlying t=some (.slice e))(hi:G.P.info? e=some i)(b:Option Addr)(n c:Nat)(hn:n<=c):
  (C4 #[t,t] ty #[.slice b n c,.slice none 0 0]).run G.P w=.ok (.slice b n c) w:=by
 cases b<;>simp[C4,run_underlying hu,sizeOf,typeInfo,hi,Kj,Ib,loadCells,loadCellsFrom,hn,storeCells]
theorem xN(hT:CY G.P T)(h:AJ G C mu E H a w){t':TypeId}{s:Operand}{K:AV->KK}(hk:HD al T E H t t' s x K):
  Nc G a w K (C4 #[t,t'] ty #[a.eval s,a.eval x]):=by
 unfold HD at hk;split at hk
 ·rename_i htt;obtain rfl:=Am htt;replace hk:=Bf.1 hk;obtain⟨y,hy,hk⟩:=hk;split at hk
  ·(rename_i e Cz by' ag hs);split at hk
   ·rename_i hp;simp only[Ap]at hp;have Zqq:=As hp.2;have hp:=As hp.1;(have ZbI:∀n,n*by'<=140737488355328->n<=9223372036854775807:=λn hn=>by have:=L4 n (show 0<by' by omega);omega);rw[Ae,Ae]at hk;have VB:=Bv h.env s;have vG:=Bv h.env x;obtain⟨hu,DT,Sa,_⟩:=hT.slice hy hs;(obtain⟨i,d,hi,hd,LR⟩:∃i d,G.P.info? e=some i/\G.P.underlying e=some d/\i.size=Cz:=by obtain⟨n,rfl⟩:∃n,Cz=n+1:=⟨Cz-1,by omega⟩;exact Me DT);split at hk
    ·rename_i kP;rw[kP]at vG;(have hxv:a.eval x=.slice none 0 0:=by unfold Aj at vG;exact vG);split at hk
     ·rename_i l sz lo n vJ;have Zeg:=VB;rw[vJ]at Zeg;have ZjV:=Zeg;replace hk:=Bf.1 hk;obtain⟨ob,BR,hk⟩:=hk;cases ob with
      |cells _|dead|ghost _ _ _|inv _|map _ _=>exact hk.elim
      |arr e0 sz0 lX=>
       simp only at hk;unfold Aj at Zeg;obtain⟨v,hm,hle,UM,hv⟩:=Zeg;refine⟨_,a.eval s,_,_,C,mu,w,hk,?_,h,ZjV⟩;rw[hxv,hv];obtain⟨_,h2⟩:=h.heap.Dk l _ _ _ BR;rcases h2 with⟨h2,_⟩|⟨b,cap,cur,h3,h4,h5,_⟩;rw[hm]at h2;simp only[Ao.injEq,GO.arr.injEq]at h2;subst h2;exact Rv (by':=by') hu hi none 0 0 (Kw _);rw[hm]at h3;simp only[Ao.injEq,GO.arr.injEq]at h3;subst h3;simp only[Fb]at hle;exact Rv (by':=by') hu hi _ n (cap-lo) (by omega)
     ·rename_i vJ;rw[vJ]at VB;(have hsv:a.eval s=.slice none 0 0:=by unfold Aj at VB;exact VB);refine⟨_,.slice none 0 0,_,_,C,mu,w,hk,?_,h,by unfold Aj;rfl⟩;rw[hxv,hsv];exact Rv (by':=by') hu hi none 0 0 (Kw _)
     exact hk.elim
    obtain⟨sz,xs,hk,hzz,xZ⟩:=Vc h vG hk;split at hk
    ·rename_i vJ;obtain rfl:=Am vJ;split at hk
     ·rename_i vJ;rw[vJ]at VB;(have hsv:a.eval s=.slice none 0 0:=by unfold Aj at VB;exact VB);obtain⟨hb,hk⟩:=hk;obtain⟨z,ye,R5,hk,YX⟩:=L8 hT hk;rw[AB]at hk;split at hk;·rename_i OJ;simp only[Ap]at OJ;obtain⟨zv,i',A⟩:=ZfV C w hT hy hs hp R5 YX (Am OJ.1) OJ.2;obtain⟨H',nn,Hq,hk⟩:=Rx hk;obtain⟨mu',w',v,h1,h2,h3⟩:=Ze5 (ty:=ty) h A Hq hzz xZ hb (ZbI _ hb);exact⟨_,v,_,_,C,mu',w',hk,by rw[hsv];exact h1,h2,h3⟩
      exact hk.elim
     ·rename_i l De lo n vJ;replace hk:=Bf.1 hk;obtain⟨ob,BR,hk⟩:=hk;cases ob with
      |cells _|dead|ghost _ _ _|inv _|map _ _=>exact hk.elim
      |arr e' iB es=>
       simp only at hk;split at hk
       ·rename_i hb1;simp only[Ap]at hb1;obtain⟨⟨⟨q1,q2⟩,q3⟩,q4⟩:=hb1;obtain rfl:=Am q1;obtain rfl:=Am q2;obtain rfl:=Am q3;obtain rfl:=Am q4;obtain⟨⟨rfl,hb⟩,hk⟩:=hk;rw[vJ]at VB;obtain⟨z,ye,R5,hk,YX⟩:=L8 hT hk;rw[AB]at hk;split at hk;·rename_i OJ;simp only[Ap]at OJ;obtain⟨zv,i',A⟩:=ZfV C w hT hy hs hp R5 YX (Am OJ.1) OJ.2;rw[FW,EZ,AY]at hk;obtain⟨mu',w',v,h1,h2,h3⟩:=Ze4 (ty:=ty) h A BR VB hzz xZ hb (ZbI _ hb);exact⟨_,v,_,_,C,mu',w',hk,h1,h2,h3⟩
        exact hk.elim
       exact hk.elim
     exact hk.elim
    exact hk.elim
   exact hk.elim
  exact hk.elim
 exact hk.elim
end
open Go.RowKit (Below)
section
variable {G:Cx}{C:Af}{w w':World}{mu:Mu}{H:List HO}{E:List AV}{a:Act}{T:List TY}
def Mz(C:Af)(n m:Nat):Af:=λb o=>C b o\/(n<=b/\b<m)
theorem wN(AA:∀b o,C b o->b<w.heap.size)(hb:Below w.heap.size w w'):Ext C (Mz C w.heap.size w'.heap.size) w w':=
 Ext.of_block (λ_ _ h=>.inl h) λb o hc=>hb.block b (AA b o hc)
theorem LD.below(h:LD G w)(hb:Below w.heap.size w w'):LD G w':=
 ⟨hb.os.trans h.os,hb.tape.trans h.tape,hb.output.trans h.output,HS h.size hb.size,λk hk hm=>(hb.block k (by have:=h.size;omega)).trans (h.block k hk hm)⟩
theorem AJ.below(h:AJ G C mu E H a w)(hb:Below w.heap.size w w'):AJ G (Mz C w.heap.size w'.heap.size) mu E H a w':=by
 have hx:=wN h.lt hb;have hs:=hb.size;refine⟨λb o hc=>.inl (h.c0 b o hc),λb o hc=>?_,λb o hc=>?_,⟨h.heap.JX,λl g b hm hg=>?_,h.heap.sep,h.heap.dead,λl cs hl=>?_,λl e sz es hl=>?_,λl ks vs hl=>?_⟩,Ac.mono hx _ (AU.refl _) h.env,?_,h.Ax.below hb,h.Dv⟩
 rotate_right
 ·obtain⟨ms,k1,k2⟩:=h.defers
  exact⟨ms,k1,k2.step ⟨hb.os,hb.tape,hb.output,hb.size,λb hbb=>hb.block b hbb.1⟩ (λl g b hm hg=>.inl ⟨l,g,hm,hg⟩)
   (λb o hc=>hc.imp id λk=>.inl k.1) (λl cs vs ms hl=>⟨cs,hl,Ac.mono hx _ (AU.refl _)⟩) (λ_ _ h=>h)⟩
 ·rcases hc with hc|hc;·exact h.c1 b o hc
  exact .inr (.inl (by have:=h.Ax.size;omega))
 ·rcases hc with hc|hc;·have:=h.lt b o hc;omega
  exact hc.2
 obtain⟨k1,k2,k3⟩:=h.heap.fresh l g b hm hg;exact⟨k1,by omega,λo hc=>hc.elim (k3 o) (λhc=>by omega)⟩;obtain⟨b,cur,e,h1,h2,h3,h4⟩:=h.heap.Dp l cs hl;exact⟨b,cur,e,h1,(hb.block b (h.heap.fresh _ _ _ h1 rfl).2.1).trans h2,Ac.mono hx _ (AU.refl _) h3,h4⟩;obtain⟨h1,h2⟩:=h.heap.Dk l e sz es hl;exact⟨h1,h2.imp id λ⟨b,cap,cur,k1,k2,k3,k4,k5,k6,k7⟩=>⟨b,cap,cur,k1,k2.of_eq (hb.block b (h.heap.fresh _ _ _ k1 rfl).2.1),k3,k4,k5,Ac.mono hx _ (AU.refl _) k6,k7⟩⟩;obtain⟨b,es,cl,h1,h2,h3⟩:=h.heap.maps l ks vs hl;exact⟨b,es,cl,h1,(hb.block b (h.heap.fresh _ _ _ h1 rfl).2.1).trans h2,h3⟩
theorem lP(l:List UInt8):flat (l.map λb=>AV.int .u8 b.toNat)=l.map λb=>AV.int .u8 b.toNat:=by
 induction l with
 |nil=>rfl
 |cons b l ih=>
  have e1:flat ((b::l).map λb=>AV.int .u8 b.toNat)=AV.int .u8 b.toNat::flat (l.map λb=>AV.int .u8 b.toNat):=by simp[flat,AV.cells]
  rw[e1,ih];rfl
theorem TE{sz:Nat}(DT:sz=1){cells:List Value}:∀(l:List UInt8)(b o:Nat),(∀i (h:i<l.length),Cl C w b (o+i) (.int .u8 (l[i]).toNat))->Rows C w sz (l.map λb=>.int .u8 b.toNat) b o
 |[],_,_,_=>by simp only[M3];unfold Rows;trivial
 |x::l,b,o,h=>by subst DT;simp only[EU];unfold Rows;refine⟨rfl,⟨_,rfl,by simpa using h 0 (by simp),by unfold Aj;exact⟨rfl,Zfr.2 ⟨by omega,by have:=x.toNat_lt;omega⟩⟩⟩,TE rfl (cells:=cells) l b (o+1) (λi hi=>?_)⟩;have:=h (i+1) (by simpa using hi);rw[show o+1+i=o+(i+1) by omega];simpa using this
theorem eH(w:World)(b n:Nat)(cur:Array Value)(e:TypeId)(h:w.heap[b]?=some (.cells cur e (0,0))):
  (w.freeze ⟨b,n,none⟩ 1).heap[b]?=some (.cells cur e (n,n+1))/\(∀k,k≠b->(w.freeze ⟨b,n,none⟩ 1).heap[k]?=w.heap[k]?)/\(w.freeze ⟨b,n,none⟩ 1).heap.size=w.heap.size:=by
 have hb:b<w.heap.size:=(K2.1 h).1;refine⟨?_,λk hk=>?_,?_⟩;simp[World.freeze,Gr,h];simp only[World.freeze,Nat.one_ne_zero,if_false];rw[Gr,if_neg (λe=>hk e.symm)];simp[World.freeze]
theorem TG:∀(l:List UInt8){mu:Mu}{vs:List Value},Ac C w (l.map λb=>AV.int .u8 b.toNat) mu vs->vs=l.map λb=>Value.int .u8 b.toNat
 |[],_,_,h=>by simpa[Ac]using h
 |b::l,_,_,h=>by simp only[EU]at h ⊢;unfold Ac at h;obtain⟨v,CJ,rfl,h2,h3⟩:=h;rw[(AG h2).1,TG l h3]
theorem Zcy(hT:CY G.P T)(h:AJ G C mu E H a w){s d:TypeId}{K:AV->KK}(hk:Vn T E H s d x K):Nc G a w K (convert s d (a.eval x)):=by
 unfold Vn at hk;replace hk:=Bf.1 hk;obtain⟨ys,hys,hk⟩:=hk;replace hk:=Bf.1 hk;obtain⟨yd,hyd,hk⟩:=hk;rw[Ae]at hk;have vG:=Bv h.env x;split at hk
 ·rename_i e Cz by' ag h1 h2
  have pI:=hT.string hys h1;obtain⟨hud,DT,Sa,_⟩:=hT.slice hyd h2;split at hk
  ·rename_i l kP;rw[kP]at vG;obtain⟨hxv,gJ⟩:=Cu vG;split at hk
   ·rename_i hb;obtain rfl:=Am hb;replace hk:=Bf.1 hk;obtain⟨ye,R5,hk⟩:=hk;split at hk
    ·rename_i hke;have yA:=hT.int R5 hke;rw[hxv]
     -- zJ run
     obtain⟨w1,cap,hch,gO,Kv,Zm0,hcm⟩:∃w1 cap,(choose (.appendCap l.length 0 e)).run G.P w=.ok cap w1/\Below w.heap.size w w1/\(l.length<=cap\/l.length=0)/\w1.heap.size=w.heap.size/\cap<=9223372036854775807:=by
      rw[run_choose];split;·rename_i hf;refine⟨w,0,rfl,Below.refl _ _,?_,rfl,by omega⟩;simp[Question.forced]at hf
      refine⟨w.drew,_,rfl,(Below.refl _ _).drew,.inl ?_,rfl,?_⟩;exact grownCap_ge w l.length 0 e;exact HS (grownCap_le_maxLen w l.length 0 e (by simp only[maxLen];omega)) (by simp[maxLen])
     (have ZkE:l.length<=cap:=by omega);obtain⟨cur,hcd⟩:∃c:Array Value,(l.toArray.map λb=>Value.int .u8 b.toNat)++Array.replicate (cap-l.length) (.int .u8 0)=c:=⟨_,rfl⟩;(have ZkA:cur.size=cap:=by rw[<-hcd];simp;omega);obtain⟨w2,Zbr⟩:∃w2,(w1.alloc (.cells cur e)).freeze ⟨w1.heap.size,cur.size,none⟩ 1=w2:=⟨_,rfl⟩;have Hq:(w1.alloc (.cells cur e)).heap[w1.heap.size]?=some (.cells cur e (0,0)):=heap_alloc_new _ _;obtain⟨hw2,hw3,hw4⟩:=eH (w1.alloc (.cells cur e)) w1.heap.size cur.size cur e Hq;(have ZgZ:(w1.alloc (.cells cur e)).shape? w1.heap.size=some (e,cur.size):=by unfold World.shape?;rw[Hq]);rw[Zbr]at hw2 hw3 hw4;(have OJ:Below w.heap.size w w2:=by refine gO.trans ⟨by rw[<-Zbr];rfl,by rw[<-Zbr];rfl,by rw[<-Zbr];rfl,?_,λk hk=>?_⟩;show _<=w2.heap.size;rw[hw4];simp;show w2.heap[k]?=_;rw[hw3 k (by omega),heap_alloc_old _ _ (by omega)]);(have ZpR:w2.heap.size=w.heap.size+1:=by rw[hw4];simp[Zm0]);have Ai:=h.below OJ;refine⟨_,.slice (some ⟨w1.heap.size,0,none⟩) l.length cap,_,_,_,mu,w2,hk,?_,Ai,?_⟩;simp only[convert,Be,run_underlying pI,run_underlying hud,run_underlying yA,Bb,Conv.stringToBytes,Gx,hch];simp only[hcd,newRow,markStringish,Be,run_newObj,World.alloc_eq,Hx,Bb,run_shape,ZgZ,run_freeze,Zbr];unfold Aj;refine .inr ⟨w1.heap.size,0,cap,by simp,by simpa using ZkE,hcm,TE rfl (cells:=[]) l _ 0 (λi hi=>⟨.inr ⟨by omega,by omega⟩,?_⟩)⟩;rw[Fo,cell_of_row w2 _ i cur e _ hw2];rw[<-hcd];rw[Array.getElem?_append_left (by simpa using hi)];simp[hi]
    exact hk.elim
   exact hk.elim
  exact hk.elim
 ·rename_i e Cz by' ag h1 h2
  have hud:=hT.string hyd h2;obtain⟨pI,DT,Sa,_⟩:=hT.slice hys h1;replace hk:=Vc h vG hk;obtain⟨sz,xs,hk,hzz,xZ⟩:=hk;split at hk
  ·rename_i hb;simp only[Ap]at hb;obtain rfl:=Am hb.1;obtain rfl:=Am hb.2;replace hk:=Bf.1 hk;obtain⟨ye,R5,hk⟩:=hk;split at hk
   ·rename_i hke;have yA:=hT.int R5 hke;obtain⟨l,⟨rfl,gJ⟩,hk⟩:=hk;refine⟨_,.string ⟨l.toArray⟩,_,_,C,mu,w,hk,?_,h,SM gJ⟩;rcases xZ with⟨hv,hx⟩|⟨ad,c,vs,hv,vH,hr,FG,h1⟩;·simp only[List.map_eq_nil_iff]at hx;subst hx;rw[hv,run_convert_bytes_nil w s e pI yA 0 0 d hud];rfl
    rw[lP]at hr;have EA:=TG l hr;subst EA
    have pJ:ad.spot=none\/l=[]:=by
     cases l with
     |nil=>exact .inr rfl
     |cons b l=>
      left;have:=FG 0 _ rfl;simp only[Addr.add,if_true]at this;unfold World.cell? at this;split at this
      ·split at this;·cases this
       rename_i pJ;simpa using pJ
      cases this
    rw[hv];rw[run_convert_bytes_string w s d e _ _ c pI yA hud,run_bytesToString w ad _ c (l.map λb=>(b.toNat:Int)) (by have:=run_loadCells_list (P:=G.P) w ad _ FG;simpa[List.map_map,Function.comp_def]using this),foldl_push_bytes];simp[ByteArray.empty,ByteArray.emptyWithCapacity,Function.comp_def];rfl
   exact hk.elim
  exact hk.elim
 exact hk.elim
end
mutual
def ZG(l sz:Nat)(es:List AV):AV->AV
 |.own k De lo n=>match A6 k l with
  |true=>(match A6 De sz&&A6 lo 0 with|true=>.sl sz es|false=>.any)
  |false=>.own k De lo n
 |.el k De i o=>match A6 k l with|true=>.any|false=>.el k De i o
 |.fn f cap=>.fn f (Rb l sz es cap)
 |.mv f cap=>.mv f (Rb l sz es cap)
 |.iface t x=>.iface t (ZG l sz es x)
 |.agg cs=>.agg (Rb l sz es cs)
 |.tuple vs=>.tuple (Rb l sz es vs)
 |a=>a
def Rb(l sz:Nat)(es:List AV):List AV->List AV
 |[]=>[]
 |a::as=>ZG l sz es a::Rb l sz es as
end
mutual
def FH(l sz m:Nat):AV->Prop->Prop
 |.own k De lo n,Q=>match A6 k l with
  |true=>(match A6 De sz&&A6 lo 0 with|true=>n=m/\Q|false=>Q)
  |false=>Q
 |.fn f cap,Q|.mv f cap,Q=>Gi l sz m cap Q
 |.iface t x,Q=>FH l sz m x Q
 |.agg cs,Q=>Gi l sz m cs Q
 |.tuple vs,Q=>Gi l sz m vs Q
 |_,Q=>Q
def Gi(l sz m:Nat):List AV->Prop->Prop
 |[],Q=>Q
 |a::as,Q=>FH l sz m a (Gi l sz m as Q)
end
def U0(l sz:Nat)(es:List AV):List AV->(List AV->Prop)->Prop
 |[],K=>K []
 |a::as,K=>FH l sz es.length a ((ZG l sz es a).force λb=>U0 l sz es as λbs=>K (b::bs))
def JB(l sz:Nat)(es:List AV):List HO->(List HO->Prop)->Prop
 |[],K=>K []
 |.cells cs::r,K=>U0 l sz es cs λcs=>JB l sz es r λr=>K (.cells cs::r)
 |.arr e s xs::r,K=>JB l sz es r λr=>K (.arr e s xs::r)
 |.dead::r,K=>JB l sz es r λr=>K (.dead::r)
 |.ghost cs vs ms::r,K=>U0 l sz es cs λcs=>JB l sz es r λr=>K (.ghost cs vs ms::r)
 |.inv I::r,K=>JB l sz es r λr=>K (.inv I::r)
 |.map ks vs::r,K=>JB l sz es r λr=>K (.map ks vs::r)
def wJ(l:Nat)(E:List AV)(H:List HO)(K:KK):Prop:=
 Dr H l λob=>match ob with
  |.arr e sz es=>(∀e∈es,closed e=true)/\U0 l sz es E λE=>JB l sz es H λH=>Dn H l .dead λH=>K E H
  |_=>False
section
variable {G:Cx}{C C2:Af}{w:World}{mu:Mu}{H:List HO}{E:List AV}{a:Act}{l sz:Nat}{es:List AV}
mutual
theorem qE(hx:Ext C C2 w w)(hl:∀b,mu l≠some (.D6 b))(Ce:∀v,Aj C w (.own l sz 0 es.length) mu v->Aj C2 w (.sl sz es) Mu.none v):∀(x:AV){v:Value}{Q:Prop},FH l sz es.length x Q->Aj C w x mu v->Aj C2 w (ZG l sz es x) (mu.set l none) v/\Q
 |.any,_,_,q,_=>⟨by unfold ZG Aj;trivial,by unfold FH at q;exact q⟩
 |.int _ _,_,_,q,h|.bool _,_,_,q,h|.lit _,_,_,q,h|.str _,_,_,q,h=>⟨by unfold ZG;unfold Aj at*;exact h,by unfold FH at q;exact q⟩
 |.sl _ _,_,_,q,h|.at_ _,_,_,q,h=>⟨by unfold ZG;exact Aj.mono hx _ (AU.none _) (Ci _ rfl h),by unfold FH at q;exact q⟩
 |.raw _,_,_,q,h=>⟨by unfold ZG;unfold Aj at*;exact h,by unfold FH at q;exact q⟩
 |.mp _ _,_,_,q,h=>⟨by unfold ZG;exact Aj.mono hx _ (AU.none _) (Ci _ rfl h),by unfold FH at q;exact q⟩
 |.om k,_,_,q,h=>⟨by unfold ZG;unfold Aj at*;obtain⟨b,h1,h2⟩:=h;refine⟨b,?_,h2⟩;rw[Mu.AQ];exact h1;rintro rfl;exact hl b h1,by unfold FH at q;exact q⟩
 |.ptr k o,_,_,q,h=>⟨by unfold ZG;unfold Aj at*;obtain⟨b,h1,h2⟩:=h;refine⟨b,?_,h2⟩;rw[Mu.AQ];exact h1;rintro rfl;exact hl b h1,by unfold FH at q;exact q⟩
 |.el k De i o,_,_,q,h=>⟨by unfold ZG;split;unfold Aj;trivial;rename_i hb;unfold Aj at*;obtain⟨b,n,c,h1,h2⟩:=h;refine⟨b,n,c,?_,h2⟩;rw[Mu.AQ _ _ (E4 hb)];exact h1,by unfold FH at q;exact q⟩
 |.own k De lo n,_,_,q,h=>by
   unfold FH at q;unfold ZG;cases hb:A6 k l with
   |false=>
    rw[hb]at q;refine⟨?_,q⟩;simp only;unfold Aj at*;obtain⟨x,h1,h2⟩:=h;refine⟨x,?_,h2⟩;rw[Mu.AQ _ _ (E4 hb)];exact h1
   |true=>
    rw[hb]at q;obtain rfl:=Am hb;cases hc:A6 De sz&&A6 lo 0 with
    |false=>rw[hc]at q;exact⟨by simp only;unfold Aj;trivial,q⟩
    |true=>
     rw[hc]at q;simp only[Ap]at hc;obtain rfl:=Am hc.1;obtain rfl:=Am hc.2;obtain⟨rfl,q⟩:=q;exact⟨Aj.mono (Ext.refl _ _) _ (AU.none _) (Ce _ h),q⟩
 |.fn f cap,_,_,q,h=>by unfold FH at q;unfold ZG;unfold Aj at*;obtain⟨vs,h1,h2⟩:=h;have:=HL hx hl Ce cap q h2;exact⟨⟨vs,h1,this.1⟩,this.2⟩
 |.mv f cap,_,_,q,h=>by unfold FH at q;unfold ZG;unfold Aj at*;obtain⟨vs,h1,h2⟩:=h;have:=HL hx hl Ce cap q h2;exact⟨⟨vs,h1,this.1⟩,this.2⟩
 |.iface t x,_,_,q,h=>by unfold FH at q;unfold ZG;unfold Aj at*;obtain⟨vs,h1,h2⟩:=h;have:=qE hx hl Ce x q h2;exact⟨⟨vs,h1,this.1⟩,this.2⟩
 |.agg cs,_,_,q,h=>by unfold FH at q;unfold ZG;unfold Aj at*;obtain⟨vs,h1,h2⟩:=h;have:=HL hx hl Ce cs q h2;exact⟨⟨vs,h1,this.1⟩,this.2⟩
 |.tuple cs,_,_,q,h=>by unfold FH at q;unfold ZG;unfold Aj at*;obtain⟨vs,h1,h2⟩:=h;have:=HL hx hl Ce cs q h2;exact⟨⟨vs,h1,this.1⟩,this.2⟩
theorem HL(hx:Ext C C2 w w)(hl:∀b,mu l≠some (.D6 b))(Ce:∀v,Aj C w (.own l sz 0 es.length) mu v->Aj C2 w (.sl sz es) Mu.none v):∀(xs:List AV){vs:List Value}{Q:Prop},Gi l sz es.length xs Q->Ac C w xs mu vs->Ac C2 w (Rb l sz es xs) (mu.set l none) vs/\Q
 |[],_,_,q,h=>⟨by unfold Rb;unfold Ac at*;exact h,by unfold Gi at q;exact q⟩
 |x::xs,_,_,q,h=>by unfold Gi at q;unfold Rb;unfold Ac at*;obtain⟨v,CJ,h1,h2,h3⟩:=h;have k:=qE hx hl Ce x q h2;have k':=HL hx hl Ce xs k.2 h3;exact⟨⟨v,CJ,h1,k.1,k'.1⟩,k'.2⟩
end
theorem Ml{fr:Nat->Prop}(hh:B0 C w fr mu H)(hx:Ext C C2 w w){l:Nat}(hB:∀g b o,mu l=some g->g.Az=some b->C2 b o){sz:Nat}{es:List AV}(hl:H[l]?=some (.arr e sz es))(hc:∀e∈es,closed e=true)
  (hu:Aj C w (.own l sz 0 es.length) mu u):Aj C2 w (.sl sz es) Mu.none u:=by
 unfold Aj at hu⊢;obtain⟨x,hm,hle,UM,rfl⟩:=hu;obtain⟨hz,h2⟩:=hh.Dk l e sz es hl;rcases h2 with⟨h2,rfl⟩|⟨b,cap,cur,h3,⟨fz,h4,Qn⟩,h5,h6,h7,h8,h9⟩;rw[hm]at h2;simp only[Ao.injEq,GO.arr.injEq]at h2;subst h2;exact .inl ⟨⟨_,rfl⟩,rfl⟩;rw[hm]at h3;simp only[Ao.injEq,GO.arr.injEq]at h3;subst h3;obtain⟨f1,f2,_⟩:=hh.fresh l _ b hm rfl;refine .inr ⟨b,0,cap,by simp[DJ],h5,h6,(FC es 0).2 λi hi=>⟨hz _ (JW hi),(Dc _ _).2 λj hj=>?_⟩⟩;have hei:es[i]?=some es[i]:=Cc hi;obtain⟨r,hr⟩:=KA es hz i _ hei;have MJ:=(Bo _).1 h8;have DT:=hz _ (JW hi);have Xp:=CP es hz;have hmul:(i+1)*sz<=es.length*sz:=A9 _ hi;rw[A5]at hmul;have dN:es.length*sz<=cap*sz:=A9 _ h5;have LS:cur.toList.length=cap*sz:=by simpa using h7
 have hk:i*sz+j<(flat es).length:=by omega
 have KR:i*sz+j<(cur.toList.take (es.length*sz)).length:=by rw[MJ.1];exact hk
 have F4:=MJ.2 (i*sz+j) hk KR
 have Xq:(flat es)[i*sz+j]=es[i].cells[j]:=by
  have e1:((flat es).drop (i*sz))[j]?=(es[i].cells++r)[j]?:=by rw[hr]
  rw[LJ,Cc hk,List.getElem?_append_left hj,Cc hj]at e1;simpa using e1
 rw[Xq]at F4
 have SZ:closed es[i].cells[j]=true:=by
  have:=hc _ (JW hi);generalize es[i]=q at this hj⊢;cases q with
  |agg cs=>
   unfold closed at this
   have key:∀(cs:List AV),AI cs=true->∀j (hj:j<cs.length),closed cs[j]=true:=by
    intro cs
    induction cs with
    |nil=>intro _ j hj;simp at hj
    |cons c cs ih=>
     intro h j hj;unfold AI at h;simp only[Ap]at h;cases j with
     |zero=>exact h.1
     |succ j=>exact ih h.2 j (by simpa using hj)
   exact key cs this j hj
  |_=>
   simp only[AV.cells,E0,H0]at hj;(obtain rfl:j=0:=by omega);exact this
 have AA:i*sz+j<cur.toList.length:=by omega
 have ET:(cur.toList.take (es.length*sz))[i*sz+j]=cur.toList[i*sz+j]:=by simp
 refine⟨cur.toList[i*sz+j],h9 _ (JW AA),⟨hB _ _ _ hm rfl,?_⟩,?_⟩;rw[show 0+i*sz+j=i*sz+j by omega,cell_of_row w b _ cur e _ h4];simp at AA⊢;rw[ET]at F4;exact Aj.mono hx _ (AU.refl _) (Ci _ SZ F4)
mutual
theorem UZ{l sz m:Nat}:∀(x:AV)(Q:Prop),FH l sz m x Q->FH l sz m x True/\Q
 |.any,_,q|.int _ _,_,q|.bool _,_,q|.lit _,_,q|.str _,_,q|.sl _ _,_,q|.at_ _,_,q|.raw _,_,q|.mp _ _,_,q|.om _,_,q|.ptr _ _,_,q|.el _ _ _ _,_,q=>by unfold FH at*;exact⟨trivial,q⟩
 |.own k s lo n,_,q=>by
  unfold FH at*;split at q
  ·split at q;·exact⟨⟨q.1,trivial⟩,q.2⟩
   exact⟨trivial,q⟩
  exact⟨trivial,q⟩
 |.fn f cap,_,q|.mv f cap,_,q=>by unfold FH at*;exact Re cap _ q
 |.iface t x,_,q=>by unfold FH at*;exact UZ x _ q
 |.agg cs,_,q|.tuple cs,_,q=>by unfold FH at*;exact Re cs _ q
theorem Re{l sz m:Nat}:∀(xs:List AV)(Q:Prop),Gi l sz m xs Q->Gi l sz m xs True/\Q
 |[],_,q=>by unfold Gi at*;exact⟨trivial,q⟩
 |x::xs,_,q=>by unfold Gi at*;obtain⟨q1,q2⟩:=UZ x _ q;obtain⟨q3,q4⟩:=Re xs _ q2;refine⟨?_,q4⟩;exact NF x q1 (λ_=>q3)
theorem NF{l sz m:Nat}:∀(x:AV){Q Q':Prop},FH l sz m x Q->(Q->Q')->FH l sz m x Q'
 |.any,_,_,q,h|.int _ _,_,_,q,h|.bool _,_,_,q,h|.lit _,_,_,q,h|.str _,_,_,q,h|.sl _ _,_,_,q,h|.at_ _,_,_,q,h|.raw _,_,_,q,h|.mp _ _,_,_,q,h|.om _,_,_,q,h|.ptr _ _,_,_,q,h|.el _ _ _ _,_,_,q,h=>by unfold FH at*;exact h q
 |.own k s lo n,_,_,q,h=>by
  unfold FH at*;split at q
  ·split at q;·simp_all
   simp_all
  simp_all
 |.fn f cap,_,_,q,h|.mv f cap,_,_,q,h=>by unfold FH at*;exact OO cap q h
 |.iface t x,_,_,q,h=>by unfold FH at*;exact NF x q h
 |.agg cs,_,_,q,h|.tuple cs,_,_,q,h=>by unfold FH at*;exact OO cs q h
theorem OO{l sz m:Nat}:∀(xs:List AV){Q Q':Prop},Gi l sz m xs Q->(Q->Q')->Gi l sz m xs Q'
 |[],_,_,q,h=>by unfold Gi at*;exact h q
 |x::xs,_,_,q,h=>by unfold Gi at*;exact NF x q λq=>OO xs q h
end
theorem NG{l sz:Nat}{es:List AV}:∀(as:List AV){K:List AV->Prop},U0 l sz es as K->Gi l sz es.length as True/\K (Rb l sz es as)
 |[],K,h=>⟨by unfold Gi;trivial,by unfold U0 at h;unfold Rb;exact h⟩
 |a::as,K,h=>by unfold U0 at h;obtain⟨h1,h2⟩:=UZ a _ h;rw[AV.AS]at h2;obtain⟨h3,h4⟩:=NG as h2;unfold Gi Rb;exact⟨NF a h1 λ_=>h3,h4⟩
def Ln(l sz:Nat)(es:List AV):HO->HO
 |.cells cs=>.cells (Rb l sz es cs)
 |.ghost cs vs ms=>.ghost (Rb l sz es cs) vs ms
 |o=>o
theorem Ht{l sz:Nat}{es:List AV}:∀(H:List HO){K:List HO->Prop},JB l sz es H K->(∀(i:Nat) cs,H[i]?=some (.cells cs)->Gi l sz es.length cs True)/\
   (∀(i:Nat) cs vs ms,H[i]?=some (.ghost cs vs ms)->Gi l sz es.length cs True)/\K (H.map (Ln l sz es))
 |[],K,h=>⟨λi cs hi=>by simp at hi,λi cs vs ms hi=>by simp at hi,h⟩
 |o::r,K,h=>by
  cases o with
  |cells FK=>
   unfold JB at h;obtain⟨h1,h2⟩:=NG FK h;obtain⟨h3,h4,h5⟩:=Ht r h2;refine⟨λi cs hi=>?_,λi cs vs ms hi=>?_,h5⟩
   ·cases i with
    |zero=>simp at hi;subst hi;exact h1
    |succ i=>exact h3 i cs (by simpa using hi)
   cases i with
   |zero=>simp at hi
   |succ i=>exact h4 i cs vs ms (by simpa using hi)
  |ghost FK Tc ms0=>
   unfold JB at h;obtain⟨h1,h2⟩:=NG FK h;obtain⟨h3,h4,h5⟩:=Ht r h2;refine⟨λi cs hi=>?_,λi cs vs ms hi=>?_,h5⟩
   ·cases i with
    |zero=>simp at hi
    |succ i=>exact h3 i cs (by simpa using hi)
   cases i with
   |zero=>simp at hi;obtain⟨rfl,_,_⟩:=hi;exact h1
   |succ i=>exact h4 i cs vs ms (by simpa using hi)
  |arr e s xs=>
   exact Yaa
  |dead=>
   exact Yaa
  |map _ _=>
   exact Yaa
  |inv I=>
   exact Yaa
theorem AJ.freeze(h:AJ G C mu E H a w){K:KK}(hk:wJ l E H K):∃E' H' C' mu',K E' H'/\AJ G C' mu' E' H' a w:=by
 unfold wJ at hk;replace hk:=Bf.1 hk;obtain⟨ob,BR,hk⟩:=hk;cases ob<;>first|exact hk.elim|skip
 rename_i e sz es;obtain⟨LS,hk⟩:=hk;obtain⟨hE,hk⟩:=NG E hk;obtain⟨lI,hH2,hk⟩:=Ht H hk;rw[AY]at hk;let C2:Af:=λb o=>C b o\/∃g,mu l=some g/\g.Az=some b
 have hx:Ext C C2 w w:=⟨λ_ _ h=>.inl h,λ_ _ _=>rfl⟩;have hl:∀b,mu l≠some (.D6 b):=λb hb=>by obtain⟨_,k⟩:=h.heap.Dk l e sz es BR;rcases k with⟨k,_⟩|⟨_,_,_,k,_⟩;rw[hb]at k;cases k;rw[hb]at k;cases k
 have Ce:∀v,Aj C w (.own l sz 0 es.length) mu v->Aj C2 w (.sl sz es) Mu.none v:=λv hv=>
  Ml h.heap hx (λg b o hm hb=>.inr ⟨g,hm,hb⟩) BR LS hv
 have hbm:∀i b,mu i=some (.D6 b)->(mu.set l none) i=some (.D6 b):=λi b hi=>by rw[Mu.AQ];exact hi;rintro rfl;exact hl b hi
 have VC:∀{i g},(mu.set l none) i=some g->i≠l/\mu i=some g:=λ{i g} hi=>by
  have BK:i≠l:=by rintro rfl;rw[Mu.AP]at hi;cases hi
  rw[Mu.AQ _ _ BK]at hi;exact⟨BK,hi⟩
 have hnB:∀{i g b},i≠l->mu i=some g->g.Az=some b->∀o,¬C2 b o:=λ{i g b} BK hi hg o hc=>by rcases hc with hc|⟨g',h1,h2⟩;exact(h.heap.fresh i g b hi hg).2.2 o hc;exact BK (h.heap.sep l g' b i g h1 h2 hi hg)
 have Dy:∀{i:Nat}{ob:HO},((H.map (Ln l sz es)).set l .dead)[i]?=some ob->(i=l/\ob=.dead)\/(i≠l/\∃o,H[i]?=some o/\ob=Ln l sz es o):=λ{i ob} hi=>by
  by_cases e:i=l;subst e;have AA:i<H.length:=(AZ.1 BR).1;rw[Dx (by simpa using AA)]at hi;exact .inl ⟨rfl,by simpa using hi.symm⟩;rw[A0 (λe'=>e e'.symm),A3]at hi;cases ho:H[i]? with
  |none=>simp[ho]at hi
  |some o=>exact .inr ⟨e,o,rfl,by simpa[ho]using hi.symm⟩
 have hmd:∀{D:Nat×Obj},CS C w G.fresh mu D->CS C2 w G.fresh (mu.set l none) D:=λ{D} k=>
  ⟨k.at_,λo hc=>hc.elim (k.HT o) (λ⟨g,h1,h2⟩=>k.own l g h1 h2),λi g hi=>k.own i g (VC hi).2,k.fr⟩
 refine⟨_,_,C2,mu.set l none,hk,λb o hc=>.inl (h.c0 b o hc),λb o hc=>?_,λb o hc=>?_,⟨λi g hi=>?_,λi g b hi hg=>?_,λi g b i' g' hi hg EW R8=>?_,λi hi=>?_,λi cs hi=>?_,λi e' s' es' hi=>?_,λi ks' CJ hi=>?_⟩,(HL hx hl Ce E hE h.env).1,?_,h.Ax,by simpa using h.Dv.1,λi b hn hi=>hbm i b (h.Dv.2 i b hn hi)⟩
 ·rcases hc with hc|⟨g,h1,h2⟩;·exact h.c1 b o hc
  exact .inr (h.heap.fresh l g b h1 h2).1
 ·rcases hc with hc|⟨g,h1,h2⟩;·exact h.lt b o hc
  exact(h.heap.fresh l g b h1 h2).2.1
 simpa using h.heap.JX i g (VC hi).2;obtain⟨k1,k2,k3⟩:=h.heap.fresh i g b (VC hi).2 hg;exact⟨k1,k2,hnB (VC hi).1 (VC hi).2 hg⟩;exact h.heap.sep i g b i' g' (VC hi).2 hg (VC EW).2 R8
 ·rcases Dy hi with⟨rfl,_⟩|⟨BK,o,ho,he⟩;·exact Mu.AP _ _ _
  rw[Mu.AQ _ _ BK];cases o with
  |dead=>exact h.heap.dead i ho
  |_=>simp[Ln]at he
 ·rcases Dy hi with⟨rfl,he⟩|⟨BK,o,ho,he⟩;·cases he
  cases o with
  |cells FK=>
   simp only[Ln,HO.cells.injEq]at he;subst he;obtain⟨b,cur,e',k1,k2,k3,k4⟩:=h.heap.Dp i FK ho;exact⟨b,cur,e',hbm i b k1,k2,(HL hx hl Ce FK (lI i FK ho) k3).1,k4⟩
  |_=>simp[Ln]at he
 ·rcases Dy hi with⟨rfl,he⟩|⟨BK,o,ho,he⟩;·cases he
  cases o with
  |arr e0 s0 lX=>
   simp only[Ln,HO.arr.injEq]at he;obtain⟨rfl,rfl,rfl⟩:=he;obtain⟨k0,k⟩:=h.heap.Dk i _ _ _ ho;refine⟨k0,?_⟩;rw[Mu.AQ _ _ BK];exact k.imp id λ⟨b,cap,cur,k1,k2,k3,k4,k5,k6,k7⟩=>⟨b,cap,cur,k1,k2,k3,k4,k5,Ac.mono hx _ (Gc hbm) k6,k7⟩
  |_=>simp[Ln]at he
 ·rcases Dy hi with⟨rfl,he⟩|⟨BK,o,ho,he⟩;·cases he
  cases o with
  |map ks0 Tc=>
   simp only[Ln,HO.map.injEq]at he;obtain⟨rfl,rfl⟩:=he;obtain⟨b,es,cl,k1,k2,k3⟩:=h.heap.maps i _ _ ho;exact⟨b,es,cl,hbm i b k1,k2,k3⟩
  |_=>simp[Ln]at he
 obtain⟨ms,d1,d2⟩:=h.defers;refine⟨ms,d1,⟨λi cs vs gm hi=>?_,λi I hi=>?_,λd hd=>hmd (d2.marks d hd),d2.nd,λi i' cs vs gm cs' CJ gm' hi EW BK=>?_⟩⟩
 ·rcases Dy hi with⟨rfl,he⟩|⟨BK,o,ho,he⟩;·cases he
  cases o with
  |ghost FK Tc ms0=>
   simp only[Ln,HO.ghost.injEq]at he;obtain⟨rfl,rfl,rfl⟩:=he;obtain⟨k1,k2,k3⟩:=d2.BG i _ _ _ ho;exact⟨(HL hx hl Ce FK (hH2 i _ _ _ ho) k1).1,k2,λD hD=>⟨hmd (k3 D hD).1,(k3 D hD).2⟩⟩
  |_=>simp[Ln]at he
 ·rcases Dy hi with⟨rfl,he⟩|⟨BK,o,ho,he⟩;·cases he
  cases o with
  |inv I0=>
   simp only[Ln,HO.inv.injEq]at he;subst he;obtain⟨h0,Sw,Sr,f,k2,k3,k4⟩:=d2.Ho i _ ho;refine⟨h0,Sw,Sr,⟨f.fr,f.base,λb o hc=>?_,λi g b hi hg=>f.ob i g b (VC hi).2 hg,f.sub,f.lt,λb hb i g hi=>f.own b hb i g (VC hi).2,λb o hb hc=>?_⟩,k2,k3,λi' cs vs gm EW=>?_⟩
   ·rcases hc with hc|⟨g,h1,h2⟩;·exact f.cb b o hc
    exact .inr (f.ob l g b h1 h2)
   ·rcases hc with hc|⟨g,h1,h2⟩;·exact f.HT b o hb hc
    exact f.own b (f.sub b hb) l g h1 h2
   rcases Dy EW with⟨rfl,he⟩|⟨BK,o,Y1,he⟩;cases he;cases o with
   |ghost FK Tc ms0=>
    simp only[Ln,HO.ghost.injEq]at he;obtain⟨rfl,rfl,rfl⟩:=he;exact k4 i' _ _ _ Y1
   |_=>simp[Ln]at he
  |_=>simp[Ln]at he
 rcases Dy hi with⟨rfl,he⟩|⟨_,o,ho,he⟩;cases he;rcases Dy EW with⟨rfl,gL⟩|⟨_,o',Y1,gL⟩;cases gL;cases o with
 |ghost FK Tc ms0=>
  cases o' with
  |ghost GL vs1 ms1=>
   simp only[Ln,HO.ghost.injEq]at he gL;obtain⟨rfl,rfl,rfl⟩:=he;obtain⟨rfl,rfl,rfl⟩:=gL;exact d2.sep i i' _ _ _ _ _ _ ho Y1 BK
  |_=>simp[Ln]at gL
 |_=>simp[Ln]at he
def MQ:List AV->List AV->List HO->KK->Prop
 |[],E,H,K=>K E H
 |v::r,E,H,K=>match v with
  |.own l _ _ _=>wJ l E H λE H=>MQ r E H K
  |_=>MQ r E H K
def XB(v:AV)(E:List AV)(H:List HO)(K:KK):Prop:=
 match v with
 |.own l _ _ _=>wJ l E H K
 |.agg cs=>MQ cs E H K
 |_=>K E H
def ND:List (Nat×Operand)->List AV->List HO->KK->Prop
 |[],E,H,K=>K E H
 |(_,x)::r,E,H,K=>DF E x λv=>XB v E H λE H=>ND r E H K
theorem U1:∀(cs:List AV){C:Af}{mu:Mu}{E:List AV}{H:List HO}{K:KK},AJ G C mu E H a w->MQ cs E H K->∃E' H' C' mu',K E' H'/\AJ G C' mu' E' H' a w
 |[],C,mu,E,H,K,h,hk=>⟨E,H,C,mu,hk,h⟩
 |v::r,C,mu,E,H,K,h,hk=>by unfold MQ at hk;split at hk;obtain⟨E',H',C',mu',hk,h⟩:=h.freeze hk;exact U1 r h hk;exact U1 r h hk
theorem qH{v:AV}{K:KK}(h:AJ G C mu E H a w)(hk:XB v E H K):∃E' H' C' mu',K E' H'/\AJ G C' mu' E' H' a w:=by
 unfold XB at hk;split at hk;exact h.freeze hk;exact U1 _ h hk;exact⟨E,H,C,mu,hk,h⟩
theorem Sc:∀(ps:List (Nat×Operand)) {C:Af} {mu:Mu} {E:List AV} {H:List HO} {K:KK},AJ G C mu E H a w->ND ps E H K->∃E' H' C' mu',K E' H'/\AJ G C' mu' E' H' a w
 |[],C,mu,E,H,K,h,hk=>⟨E,H,C,mu,hk,h⟩
 |(i,x)::r,C,mu,E,H,K,h,hk=>by unfold ND at hk;rw[Ae]at hk;obtain⟨E',H',C',mu',hk,h⟩:=qH h hk;exact Sc r h hk
end
end Go.Av