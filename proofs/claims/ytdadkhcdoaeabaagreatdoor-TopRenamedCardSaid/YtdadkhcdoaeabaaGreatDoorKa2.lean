/- AV: abstract values. -/
import Derived.WalkKit
import Derived.MapKept
import Derived.RangeFuncRecord
set_option linter.unusedVariables false
set_option maxRecDepth 100000
set_option linter.unusedSectionVars false
set_option linter.unusedSimpArgs false
open Nat renaming eq_of_beq_eq_true → Ak, le_of_ble_eq_true → C1, add_mul → E1, beq → E2, mul_le_mul_right → E4, ble → HM, ne_of_beq_eq_false → Jg, zero_add → JV, add_zero → Kf, le_trans → KG, min_eq_left → K0, le_refl → Qx, le_mul_of_pos_right → Rk, add_assoc → Us, add_left_comm → U3, add_comm → Vf, mul_eq_zero → X1, mod_lt → Yu
open Option renaming some → A7, map_some → FB, bind_none → Vz, bind_some → VA
open Bool renaming and_eq_true → CL, and_true → Qu, eq_iff_iff → W1, true_and → Yw
open List renaming getElem?_set_ne → C3, length_append → C4, getElem?_eq_some_iff → D0, replicate → Ef, getElem?_map → El, length_take → E0, mem_of_mem_take → FX, getElem?_eq_getElem → F0, mem_append → Gs, length_drop → Gt, size_toArray → GK, getElem?_set_self → G2, eq_of_mem_replicate → Hs, mem_of_mem_drop → Hx, map_cons → H0, length_cons → It, getElem_cons_succ → Ix, drop_eq_nil_of_le → II, getElem?_take → Ji, length_replicate → Kn, ext_getElem? → Kr, mem_map → Kz, length_nil → KT, take_of_length_le → Li, take_left → Mz, getElem?_eq_none → MA, take_append_drop → MQ, eq_nil_of_length_eq_zero → Nw, getElem_mem → NC, nil_append → N0, length_map → O0, take_set_of_le → O1, flatMap_append → O5, getElem?_drop → Pl, drop_eq_getElem_cons → Pw, drop_drop → Py, getElem?_eq_none_iff → Pz, mem_or_eq_of_mem_set → PR, getElem_take → Qp, getElem_drop → Qq, take_add_one → Qs, getElem_map → Rn, drop_append → Ro, map_nil → Rr, append_nil → Sk, getElem?_append → SG, mem_of_getElem? → Ts, replicate_succ → Ui, drop_set_of_lt → Uk, foldl_toArray' → Um, mem_singleton → Uo, cons_append → Vy, take_append → VB, map_append → WC, take_left' → XV, length_set → XZ, drop_take → X8, take_take → Yg, all_cons → ZX, getD → Z8
open Go.Result renaming andThen_ok → E8
open Go.Builtin renaming zeroCells → Ff, append_ → GZ, firstCells → K2, len_ → MB, lenOf → NR, clear_ → Ql, min_ → Z9
open Go.Sem renaming run_bind → Fj, run_pure → KF
open Go.World renaming putObj_heap_other → G1
open Go.Op renaming equalIn → HQ, stringOp → LA, intCmp → Sf, intArith → Uf, intBits → Ut, bytesLess → Ve, unary → VE, eqFields → WJ, equal → Yv
open Array renaming toList_map → HU, range → H4, getElem?_modify → Kj, getElem?_eq_some_iff → Kw, toList_setIfInBounds → Kx, length_toList → Ky, toArray_toList → ND, toList_inj → Rm, getElem?_toList → SE, zipIdx_toArray → TI, toList_push → U8
open Go.IntKind renaming signed → H2, bits → Ki, min → Lk, max → Ll, wrap → Z7, i64 → Xaa
open Go.Program renaming cellsOf → RR, bytesOf → X2, built → Z3
open Int renaming tmod_nonneg → WH
namespace Go.Av
inductive AV where
 |any
 |int (k:IntKind) (n:Int)
 |bool (b:Bool)
 |lit (b:Bool)
 |str (l:List UInt8)
 |sl (sz:Nat) (es:List AV)
 |at_ (cs:List AV)
 |fn (f:FuncId) (cap:List AV)
 |mv (f:FuncId) (fs:List AV)
 |iface (t:TypeId) (x:AV)
 |agg (cs:List AV)
 |tuple (vs:List AV)
 |raw (v:Value)
 |ptr (l o:Nat)
 |el (l sz i o:Nat)
 |own (l sz lo n:Nat)
 |mp (ks vs:List AV)
 |om (l:Nat)
instance:Inhabited AV:=⟨.any⟩
inductive GO where
 |CS (b:Nat)
 |arr (v:Value)
def GO.Aq:GO->Option Nat
 |.CS b=>some b
 |.arr (.slice (some a) _ _)=>some a.block
 |.arr _=>none
abbrev Mu:=Nat->Option GO
def Mu.none:Mu:=λ_=>Option.none
abbrev Ae:=Nat->Nat->Prop
def DJ(k:IntKind)(n:Int):Prop:=k.min<=n/\n<=k.max
def Cl(C:Ae)(w:World)(b o:Nat)(v:Value):Prop:=C b o/\w.cell? ⟨b,o,none⟩=some v
def C8:Value->Nat
 |.slice (some _) n _=>n
 |_=>0
def Kk:Value->Nat
 |.slice (some _) _ c=>c
 |_=>0
def BO(x:Value)(sz lo n:Nat):Value:=
 match x with
 |.slice (some a) _ cap=>.slice (some ⟨a.block,a.off+lo*sz,none⟩) n (cap-lo)
 |_=>.slice none 0 0
def Fx(es:List MapEntry)(clock:Nat):Prop:=(∀x∈es,x.born<clock)/\(es.map (·.born)).Nodup
theorem Fx.nil(clock:Nat):Fx [] clock:=⟨by simp,by simp⟩
theorem Fx.push{es:List MapEntry}{clock:Nat}(h:Fx es clock)(key val:Value):Fx (es++[{key,val,born:=clock}]) (clock+1):=by
 obtain⟨h1,h2⟩:=h;refine⟨λx hx=>?_,?_⟩
 ·rcases Gs.1 hx with hx|hx;·exact Nat.lt_succ_of_lt (h1 x hx)
  ·rw[Uo.1 hx];exact Nat.lt_succ_self _
 ·rw[WC];refine List.nodup_append.2 ⟨h2,by simp,λa ha b hb=>?_⟩
  obtain⟨x,hx,rfl⟩:=Kz.1 ha;simp only[H0,Rr,Uo]at hb;subst hb;exact Nat.ne_of_lt (h1 x hx)
theorem Fx.of_map{es Cg:List MapEntry}{clock:Nat}(h:Fx es clock)(he:Cg.map (·.born)=es.map (·.born)):Fx Cg clock:=by
 obtain⟨h1,h2⟩:=h;refine⟨λx hx=>?_,by rw[he];exact h2⟩
 have:x.born∈es.map (·.born):=by rw[<-he];exact Kz.2 ⟨x,hx,rfl⟩
 obtain⟨y,hy,e⟩:=Kz.1 this;rw[<-e];exact h1 y hy
mutual
def Ah(C:Ae)(w:World):AV->Mu->Value->Prop
 |.any,_,_=>True
 |.int k n,_,v=>v=.int k n/\DJ k n
 |.bool b,_,v|.lit b,_,v=>v=.bool b
 |.str l,_,v=>v=.string ⟨l.toArray⟩/\l.length<=9223372036854775807
 |.sl sz es,_,v=>((∃a,v=.slice a 0 0)/\es=[])\/
   ∃b o cap,v=.slice (some ⟨b,o,none⟩) es.length cap/\es.length<=cap/\cap<=9223372036854775807/\Rows C w sz es b o
 |.at_ cs,_,v=>∃b o,v=.pointer (some ⟨b,o,none⟩)/\Cells C w cs b o
 |.fn f cap,mu,v=>∃vs:List Value,v=.func (.func f) #[] vs.toArray/\Ab C w cap mu vs
 |.mv f cap,mu,v=>∃vs:List Value,v=.func (.func f) vs.toArray #[]/\Ab C w cap mu vs
 |.iface t x,mu,v=>∃y,v=.iface t y/\Ah C w x mu y
 |.agg cs,mu,v=>∃vs:List Value,v=.agg vs.toArray/\Ab C w cs mu vs
 |.tuple cs,mu,v=>∃vs:List Value,v=.tuple vs.toArray/\Ab C w cs mu vs
 |.raw x,_,v=>v=x
 |.ptr l o,mu,v=>∃b,mu l=some (.CS b)/\v=.pointer (some ⟨b,o,none⟩)
 |.el l sz i o,mu,v=>∃b n c,mu l=some (.arr (.slice (some ⟨b,0,none⟩) n c))/\v=.pointer (some ⟨b,i*sz+o,none⟩)
 |.own l sz lo n,mu,v=>∃x,mu l=some (.arr x)/\lo+n<=C8 x/\(C8 x<=Kk x/\Kk x<=9223372036854775807)/\v=BO x sz lo n
 |.mp ks vs,_,v=>(v=.map none/\ks=[]/\vs=[])\/∃b es clock,v=.map (some b)/\C b 0/\w.heap[b]?=some (.map es clock)/\
   Ab C w ks Mu.none (es.toList.map MapEntry.key)/\Ab C w vs Mu.none (es.toList.map MapEntry.val)/\Fx es.toList clock
 |.om l,mu,v=>∃b,mu l=some (.CS b)/\v=.map (some b)
def Ab(C:Ae)(w:World):List AV->Mu->List Value->Prop
 |[],_,vs=>vs=[]
 |a::as,mu,vs=>∃v BY,vs=v::BY/\Ah C w a mu v/\Ab C w as mu BY
def Rows(C:Ae)(w:World)(sz:Nat):List AV->Nat->Nat->Prop
 |[],_,_=>True
 |.agg cs::es,b,o=>cs.length=sz/\Cells C w cs b o/\Rows C w sz es b (o+sz)
 |e::es,b,o=>sz=1/\(∃v,v.oneCell'=true/\Cl C w b o v/\Ah C w e Mu.none v)/\Rows C w sz es b (o+sz)
def Cells(C:Ae)(w:World):List AV->Nat->Nat->Prop
 |[],_,_=>True
 |c::cs,b,o=>(∃v,v.oneCell'=true/\Cl C w b o v/\Ah C w c Mu.none v)/\Cells C w cs b (o+1)
end
structure Ext(C C':Ae)(w w':World):Prop where
 sub:∀b o,C b o->C' b o
 block:∀b o,C b o->w'.heap[b]?=w.heap[b]?
theorem Ext.same{C C':Ae}{w w':World}(h:Ext C C' w w')(b o:Nat)(v:Value)(hc:C b o)(hv:w.cell? ⟨b,o,none⟩=some v):w'.cell? ⟨b,o,none⟩=some v:=by
 rw[World.cell?_of_block (h.block b o hc)];exact hv
theorem Ext.maps{C C':Ae}{w w':World}(h:Ext C C' w w')(b o:Nat)(es:Array MapEntry)(clock:Nat)(hc:C b o)(hv:w.heap[b]?=some (.map es clock)):w'.heap[b]?=some (.map es clock):=by
 rw[h.block b o hc];exact hv
theorem Ext.of_block{C C':Ae}{w w':World}(h:∀b o,C b o->C' b o)(k:∀b o,C b o->w'.heap[b]?=w.heap[b]?):Ext C C' w w':=⟨h,k⟩
theorem Ext.refl(C:Ae)(w:World):Ext C C w w:=⟨λ_ _ h=>h,λ_ _ _=>rfl⟩
theorem Cl.ext{C C':Ae}{w w':World}(h:Ext C C' w w'){b o:Nat}{v:Value}(c:Cl C w b o v):Cl C' w' b o v:=
 ⟨h.sub b o c.1,h.same b o v c.1 c.2⟩
def AI(mu mu':Mu):Prop:=∀l g,mu l=some g->mu' l=some g
theorem AI.refl(mu:Mu):AI mu mu:=λ_ _ h=>h
theorem AI.none(mu:Mu):AI Mu.none mu:=λ_ _ h=>by cases h
section mono
variable {C C':Ae}{w w':World}(hx:Ext C C' w w')
include hx
mutual
theorem Ah.mono:∀(a:AV){mu mu':Mu}{v:Value},AI mu mu'->Ah C w a mu v->Ah C' w' a mu' v
 |.any,_,_,_,_,_=>by unfold Ah;trivial
 |.int _ _,_,_,_,_,h|.bool _,_,_,_,_,h|.lit _,_,_,_,_,h|.str _,_,_,_,_,h=>by unfold Ah at*;exact h
 |.sl sz es,_,_,_,_,h=>by
  unfold Ah at*;rcases h with h|⟨b,o,cap,h1,h2,h3,h4⟩;·exact .inl h
  ·exact .inr ⟨b,o,cap,h1,h2,h3,Rows.mono es h4⟩
 |.at_ cs,_,_,_,_,h=>by
  unfold Ah at*;obtain⟨b,o,h1,h2⟩:=h;exact⟨b,o,h1,Cells.mono cs h2⟩
 |.fn f cap,_,_,_,hm,h=>by
  unfold Ah at*;obtain⟨vs,h1,h2⟩:=h;exact⟨vs,h1,Ab.mono cap hm h2⟩
 |.mv f cap,_,_,_,hm,h=>by
  unfold Ah at*;obtain⟨vs,h1,h2⟩:=h;exact⟨vs,h1,Ab.mono cap hm h2⟩
 |.iface t x,_,_,_,hm,h=>by
  unfold Ah at*;obtain⟨y,h1,h2⟩:=h;exact⟨y,h1,Ah.mono x hm h2⟩
 |.agg cs,_,_,_,hm,h=>by
  unfold Ah at*;obtain⟨vs,h1,h2⟩:=h;exact⟨vs,h1,Ab.mono cs hm h2⟩
 |.tuple cs,_,_,_,hm,h=>by
  unfold Ah at*;obtain⟨vs,h1,h2⟩:=h;exact⟨vs,h1,Ab.mono cs hm h2⟩
 |.raw _,_,_,_,_,h=>by unfold Ah at*;exact h
 |.ptr l o,_,_,_,hm,h=>by
  unfold Ah at*;obtain⟨b,h1,h2⟩:=h;exact⟨b,hm _ _ h1,h2⟩
 |.el l sz i o,_,_,_,hm,h=>by
  unfold Ah at*;obtain⟨b,n,c,h1,h2⟩:=h;exact⟨b,n,c,hm _ _ h1,h2⟩
 |.own l sz lo n,_,_,_,hm,h=>by
  unfold Ah at*;obtain⟨x,h1,h2⟩:=h;exact⟨x,hm _ _ h1,h2⟩
 |.mp ks vs,_,_,_,_,h=>by
  unfold Ah at*;rcases h with h|⟨b,es,clock,h1,h2,h3,h4,h5⟩;·exact .inl h
  ·exact .inr ⟨b,es,clock,h1,hx.sub _ _ h2,hx.maps _ _ _ _ h2 h3,Ab.mono ks (AI.refl _) h4,Ab.mono vs (AI.refl _) h5.1,h5.2⟩
 |.om l,_,_,_,hm,h=>by
  unfold Ah at*;obtain⟨b,h1,h2⟩:=h;exact⟨b,hm _ _ h1,h2⟩
theorem Ab.mono:∀(as:List AV){mu mu':Mu}{vs:List Value},AI mu mu'->Ab C w as mu vs->Ab C' w' as mu' vs
 |[],_,_,_,_,h=>by unfold Ab at*;exact h
 |a::as,_,_,_,hm,h=>by
  unfold Ab at*;obtain⟨v,BY,h1,h2,h3⟩:=h;exact⟨v,BY,h1,Ah.mono a hm h2,Ab.mono as hm h3⟩
theorem Rows.mono{sz:Nat}:∀(es:List AV){b o:Nat},Rows C w sz es b o->Rows C' w' sz es b o
 |[],_,_,_=>by unfold Rows;trivial
 |.agg cs::es,_,_,h=>by unfold Rows at*;exact⟨h.1,Cells.mono cs h.2.1,Rows.mono es h.2.2⟩
 |.any::es,_,_,h|.int _ _::es,_,_,h|.bool _::es,_,_,h|.lit _::es,_,_,h|.str _::es,_,_,h|.sl _ _::es,_,_,h|.at_ _::es,_,_,h|.fn _ _::es,_,_,h|.mv _ _::es,_,_,h|.iface _ _::es,_,_,h|.tuple _::es,_,_,h|.raw _::es,_,_,h|.ptr _ _::es,_,_,h|.el _ _ _ _::es,_,_,h|.own _ _ _ _::es,_,_,h|.mp _ _::es,_,_,h|.om _::es,_,_,h=>by unfold Rows at*;obtain⟨h1,⟨v,h2,h3,h4⟩,h5⟩:=h;exact⟨h1,⟨v,h2,h3.ext hx,Ah.mono _ (AI.refl _) h4⟩,Rows.mono es h5⟩
theorem Cells.mono:∀(cs:List AV){b o:Nat},Cells C w cs b o->Cells C' w' cs b o
 |[],_,_,_=>by unfold Cells;trivial
 |c::cs,_,_,h=>by
  unfold Cells at*;obtain⟨⟨v,h2,h3,h4⟩,h5⟩:=h;exact⟨⟨v,h2,h3.ext hx,Ah.mono c (AI.refl _) h4⟩,Cells.mono cs h5⟩
end
end mono
def AV.cells:AV->List AV
 |.agg cs=>cs
 |a=>[a]
def flat(es:List AV):List AV:=es.flatMap AV.cells
def Row(C:Ae)(w:World)(sz:Nat)(e:AV)(b o:Nat):Prop:=e.cells.length=sz/\Cells C w e.cells b o
theorem Wd{C:Ae}{w:World}{sz:Nat}{e:AV}{es:List AV}{b o:Nat}:
  Rows C w sz (e::es) b o↔Row C w sz e b o/\Rows C w sz es b (o+sz):=by
 cases e<;>simp only[Rows,Row,AV.cells,Cells,and_assoc,and_true,It,KT,JV]<;>(constructor<;>(rintro⟨h1,h2⟩;exact⟨h1.symm,h2⟩))
theorem DQ{C:Ae}{w:World}{sz:Nat}{b:Nat}:∀(es:List AV)(o:Nat),
  Rows C w sz es b o↔∀i (h:i<es.length),Row C w sz es[i] b (o+i*sz)
 |[],o=>by simp[Rows]
 |e::es,o=>by
  rw[Wd,DQ es (o+sz)];constructor
  ·rintro⟨h1,h2⟩ i h;cases i with
   |zero=>simpa using h1
   |succ i=>
    have:=h2 i (by simpa using h)
    simp only[Ix];have e:o+(i+1)*sz=o+sz+i*sz:=by rw[E1];omega
    rw[e];exact this
  ·intro h;refine⟨by have:=h 0 (by simp);simp only[Nat.zero_mul,Kf]at this;exact this,λi hi=>?_⟩
   have:=h (i+1) (by simpa using hi)
   simp only[Ix]at this;have e:o+(i+1)*sz=o+sz+i*sz:=by rw[E1];omega
   rw[e]at this;exact this
theorem B9{C:Ae}{w:World}{b:Nat}:∀(cs:List AV)(o:Nat),
  Cells C w cs b o↔∀i (h:i<cs.length),∃v,v.oneCell'=true/\Cl C w b (o+i) v/\Ah C w cs[i] Mu.none v
 |[],o=>by simp[Cells]
 |c::cs,o=>by
  rw[Cells,B9 cs (o+1)];constructor
  ·rintro⟨h1,h2⟩ i h;cases i with
   |zero=>simpa using h1
   |succ i=>
    have:=h2 i (by simpa using h)
    simp only[Ix];have e:o+(i+1)=o+1+i:=by omega
    rw[e];exact this
  ·intro h;refine⟨by have:=h 0 (by simp);simp only[Kf]at this;exact this,λi hi=>?_⟩
   have:=h (i+1) (by simpa using hi)
   simp only[Ix]at this;have e:o+(i+1)=o+1+i:=by omega
   rw[e]at this;exact this
theorem Ap{C:Ae}{w:World}:∀(as:List AV){mu:Mu}{vs:List Value},Ab C w as mu vs->vs.length=as.length
 |[],_,_,h=>by unfold Ab at h;subst h;rfl
 |a::as,_,_,h=>by
  unfold Ab at h;obtain⟨v,BY,rfl,_,h3⟩:=h;simp[Ap as h3]
theorem AH{C:Ae}{w:World}:∀(as:List AV){mu:Mu}{vs:List Value},
  Ab C w as mu vs↔vs.length=as.length/\∀i (h:i<as.length) (h':i<vs.length),Ah C w as[i] mu vs[i]
 |[],_,vs=>by cases vs<;>simp[Ab]
 |a::as,mu,vs=>by
  unfold Ab;constructor
  ·rintro⟨v,BY,rfl,h2,h3⟩;have:=(AH as).1 h3;refine⟨by simp[this.1],λi h h'=>?_⟩
   cases i with
   |zero=>simpa using h2
   |succ i=>simpa using this.2 i (by simpa using h) (by simpa using h')
  ·rintro⟨h1,h2⟩;cases vs with
   |nil=>simp at h1
   |cons v vs=>
    refine⟨v,vs,rfl,h2 0 (by simp) (by simp),(AH as).2 ⟨by simpa using h1,λi h h'=>?_⟩⟩
    exact h2 (i+1) (by simpa using h) (by simpa using h')
theorem AF{C:Ae}{w:World}{mu:Mu}{as bs:List AV}{vs us:List Value}(h:Ab C w as mu vs)(k:Ab C w bs mu us):
  Ab C w (as++bs) mu (vs++us):=by
 induction as generalizing vs with
 |nil=>unfold Ab at h;subst h;simpa using k
 |cons a as ih=>
  unfold Ab at h;obtain⟨v,BY,rfl,h2,h3⟩:=h;simp only[Vy];unfold Ab;exact⟨v,_,rfl,h2,ih h3⟩
end Go.Av
namespace Go.Av
def O6:List (Nat×List AV):=[(4,[.iface 302 .any]),
 (5,[.iface 302 .any]),
 (6,[.int .u64 1,.int .u64 10,.int .u64 100,.int .u64 1000,.int .u64 10000,.int .u64 100000,.int .u64 1000000,.int .u64 10000000,.int .u64 100000000,.int .u64 1000000000,.int .u64 10000000000,.int .u64 100000000000,.int .u64 1000000000000,.int .u64 10000000000000,.int .u64 100000000000000,.int .u64 1000000000000000,.int .u64 10000000000000000,.int .u64 100000000000000000,.int .u64 1000000000000000000,.int .u64 10000000000000000000])]
structure NP(S:Nat->Prop)(w w':World):Prop where
 os:w'.os=w.os
 tape:w'.tape=w.tape
 output:w'.output=w.output
 size:w.heap.size<=w'.heap.size
 block:∀b,S b->w'.heap[b]?=w.heap[b]?
structure Inv where
 J:(Nat->Prop)->(Nat->Prop)->World->Prop
 Ta:∀Sw Sr w w',J Sw Sr w->NP Sr w w'->J Sw Sr w'
 Cb:Ae
 nb:Nat
inductive HO where
 |cells (cs:List AV)
 |arr (e:TypeId) (sz:Nat) (es:List AV)
 |dead
 |ghost (cs:List AV) (vs:List Value) (ms:List Nat)
 |inv (I:Inv)
 |map (ks vs:List AV)
inductive TK where
 |scalar|string|bool
 |int (k:IntKind)
 |struct (fs:List (Nat×Nat×Bool))      -- offset,size,an aggregate?
 |array (n Bv:Nat) (ZkO:Bool)
 |slice (e Bv bytes:Nat) (ZkO:Bool)
 |map (k v:Nat)
 |iface
structure TY where
 size:Nat
 agg:Bool
 zero:List AV
 k:TK
 eq:Option (List Nat)
def qW:Value->AV
 |.int k n=>bif (decide (k.min<=n)&&decide (n<=k.max))then .int k n else .any
 |.bool b=>.lit b
 |.string s=>bif HM s.data.toList.length 9223372036854775807 then .str s.data.toList else .any
 |v=>.raw v
def AT(P:Program)(t:TypeId):Bool:=match P.underlying t with|some (.struct _)|some (.array _ _)=>true|_=>false
def FL(P:Program)(t:TypeId):Nat:=match P.underlying t with|some _=>P.cellsOf t|none=>0
def kindOf(P:Program):TypeDesc->TK
 |.struct fs=>.struct (fs.toList.map λf=>(f.offset,FL P f.type,AT P f.type))
 |.array n e=>.array n (FL P e) (AT P e)
 |.slice e=>.slice e (FL P e) (P.bytesOf e) (AT P e)
 |.int k=>.int k
 |.string=>.string
 |.bool=>.bool
 |.interface _=>.iface
 |.map k v=>.map k v
 |_=>.scalar
def Jf(P:Program)(lf:TypeId->Option (List Nat)):Nat->List Field->Option (List Nat)
 |_,[]=>some []
 |off,f::r=>match lf f.type with
  |some l=>bif E2 f.offset off&&f.name != "_"&&E2 (FL P f.type) l.length&&HM 1 l.length then (Jf P lf (off+l.length) r).map (l++·)else none
  |none=>none
def Du(P:Program):Nat->TypeId->Option (List Nat)
 |0,_=>none
 |n+1,t=>match P.underlying t with
  |some .bool=>some [0]
  |some (.int _)=>some [1]
  |some .string=>some [2]
  |some (.struct fs)=>bif P.stoodInHeld t then none else Jf P (Du P n) 0 fs.toList
  |_=>none
def Zbb(P:Program)(t:TypeId):Option (List Nat):=bif P.eqGuardType P.depth t then none else Du P 8 t
def zeroOf(ag:Bool):Option Value->List AV
 |some (.agg cs)=>bif ag then cs.toList.map qW else []
 |some z=>bif ag then []else [qW z]
 |none=>[]
theorem Ju(ag:Bool)(o:Option Value):zeroOf ag o=[]\/∃z,o=some z/\zeroOf ag o=z.cells.toList.map qW/\((ag=true/\∃cs,z=.agg cs)\/(ag=false/\z.cells=#[z])):=by
 cases o with
 |none=>exact .inl rfl
 |some z=>
  cases ag<;>cases z<;>first|exact .inl rfl|exact .inr ⟨_,rfl,rfl,.inl ⟨rfl,_,rfl⟩⟩|exact .inr ⟨_,rfl,rfl,.inr ⟨rfl,rfl⟩⟩
def Xb(P:Program)(t:TypeId):Option TY:=
 match P.info? t,P.underlying t with
 |some i,some d=>some {size:=i.size,agg:=AT P t,zero:=zeroOf (AT P t) i.zero,k:=kindOf P d,eq:=Zbb P t}
 |_,_=>none
def BG(P:Program)(T:List TY):Prop:=∀t y,T[t]?=some y->Xb P t=some y
@[irreducible] def Wr(k:IntKind)(n:Int):Int:=k.wrap n
theorem IH(k:IntKind)(n:Int):DJ k (Wr k n):=by
 unfold Wr DJ Z7 Lk Ll;cases k<;>simp[H2,Ki]<;>(try split)<;>omega
theorem DI(k:IntKind)(n:Int)(h:DJ k n):Wr k n=n:=by
 unfold Wr;unfold DJ Lk Ll at h;unfold Z7
 cases k<;>simp[H2,Ki]at h ⊢<;>(try split)<;>omega
theorem Pr(n:Int)(h:-9223372036854775808<=n)(h':n<=9223372036854775807):Wr .i64 n=n:=DI _ _ (by unfold DJ Lk Ll;simp[H2,Ki];omega)
theorem Em{n:Int}(h:-9223372036854775808<=n/\n<=9223372036854775807):Wr .i64 n=n:=Pr n h.1 h.2
theorem D4(k:Nat)(h:k+1<=9223372036854775807):Wr .i64 ((k:Int)+1)=((k+1:Nat):Int):=by rw[Em (by omega)];rfl
theorem xR(n:Int)(h:0<=n)(h':n<=255):Wr .u8 n=n:=DI _ _ (by unfold DJ Lk Ll;simp[H2,Ki];omega)
theorem Ri{n:Int}:DJ .i64 n↔-9223372036854775808<=n/\n<=9223372036854775807:=by
 unfold DJ Lk Ll;simp[H2,Ki]
theorem uX{n:Int}:DJ .u8 n↔0<=n/\n<=255:=by
 unfold DJ Lk Ll;simp[H2,Ki]
def AV.force(v:AV)(K:AV->Prop):Prop:=
 match v with
 |.any=>K .any
 |.int k n=>K (.int k n)
 |.bool b=>K (.bool b)
 |.lit b=>K (.lit b)
 |.str l=>K (.str l)
 |.sl sz es=>K (.sl sz es)
 |.at_ cs=>K (.at_ cs)
 |.fn f cap=>K (.fn f cap)
 |.mv f cap=>K (.mv f cap)
 |.iface t x=>K (.iface t x)
 |.agg cs=>K (.agg cs)
 |.tuple vs=>K (.tuple vs)
 |.raw v=>K (.raw v)
 |.ptr l o=>K (.ptr l o)
 |.el l sz i o=>K (.el l sz i o)
 |.own l sz lo n=>K (.own l sz lo n)
 |.mp ks vs=>K (.mp ks vs)
 |.om l=>K (.om l)
theorem AV.AJ(v:AV)(K:AV->Prop):v.force K↔K v:=by cases v<;>rfl
def Cm{α:Type}:List α->Nat->(α->Prop)->Prop
 |[],_,_=>False
 |x::_,0,K=>K x
 |_::l,k+1,K=>Cm l k K
theorem XK{α:Type}:∀(l:List α)(k:Nat)(K:α->Prop),Cm l k K↔∃x,l[k]?=some x/\K x
 |[],_,_|x::l,0,K=>by simp[Cm]
 |_::l,k+1,K=>by simp[Cm,XK l k K]
theorem AL{α:Type}{l:List α}{k:Nat}{K:α->Prop}:Cm l k K↔∃x,l[k]?=some x/\K x:=XK l k K
def FI{α:Type}:List α->Nat->α->(List α->Prop)->Prop
 |[],_,_,K=>K []
 |_::l,0,v,K=>K (v::l)
 |x::l,k+1,v,K=>FI l k v λl=>K (x::l)
theorem AG{α:Type}:∀(l:List α)(k:Nat)(v:α)(K:List α->Prop),FI l k v K↔K (l.set k v)
 |[],_,_,_|x::l,0,v,K=>by simp[FI]
 |x::l,k+1,v,K=>by simp[FI,AG l k v]
def Kh{α:Type}:List α->Nat->(List α->Prop)->Prop
 |l,0,K=>K l
 |[],_+1,K=>K []
 |_::l,k+1,K=>Kh l k K
theorem BF{α:Type}:∀(l:List α)(k:Nat)(K:List α->Prop),Kh l k K↔K (l.drop k)
 |[],0,_|[],_+1,_|x::l,0,K=>by simp[Kh]
 |x::l,k+1,K=>by simp[Kh,BF l k]
def S6{α:Type}:List α->Nat->(List α->Prop)->Prop
 |_,0,K=>K []
 |[],_+1,_=>False
 |x::l,k+1,K=>S6 l k λl=>K (x::l)
theorem FK{α:Type}:∀(l:List α)(k:Nat)(K:List α->Prop),S6 l k K↔k<=l.length/\K (l.take k)
 |_,0,_|[],_+1,_=>by simp[S6]
 |x::l,k+1,K=>by simp[S6,FK l k]
def Y0{α:Type}:List α->α->(List α->Nat->Prop)->Prop
 |[],v,K=>K [v] 0
 |x::l,v,K=>Y0 l v λl n=>K (x::l) (n+1)
theorem LK{α:Type}:∀(l:List α)(v:α)(K:List α->Nat->Prop),Y0 l v K↔K (l++[v]) l.length
 |[],v,K=>by simp[Y0]
 |x::l,v,K=>by simp[Y0,LK l v]
def Q1:List AV->Nat->List AV->(List AV->Prop)->Prop
 |l,_,[],K=>K l
 |l,o,v::vs,K=>FI l o v λl=>Q1 l (o+1) vs K
def I3:List AV->Nat->List AV->List AV
 |l,_,[]=>l
 |l,o,v::vs=>I3 (l.set o v) (o+1) vs
theorem Cs:∀(vs l:List AV)(o:Nat)(K:List AV->Prop),Q1 l o vs K↔K (I3 l o vs)
 |[],_,_,_=>by simp[Q1,I3]
 |v::vs,l,o,K=>by simp[Q1,I3,AG,Cs vs]
def GY{α β:Type}(f:α->(β->Prop)->Prop):List α->(List β->Prop)->Prop
 |[],K=>K []
 |x::l,K=>f x λy=>GY f l λys=>K (y::ys)
theorem C7{α β:Type}(f:α->(β->Prop)->Prop)(g:α->β)(h:∀x K,f x K↔K (g x)):∀(l:List α)(K:List β->Prop),GY f l K↔K (l.map g)
 |[],_=>by simp[GY]
 |x::l,K=>by simp[GY,h,C7 f g h l]
def AM(E:List AV):Operand->AV
 |.tmp t=>E.getD t .any
 |.const v=>qW v
 |.func f=>.fn f []
 |.global g=>.raw (.pointer (some ⟨g,0,none⟩))
def lkA:List AV->Nat->(AV->Prop)->Prop
 |[],_,K=>K .any
 |x::_,0,K=>K x
 |_::l,k+1,K=>lkA l k K
theorem SC:∀(l:List AV)(k:Nat)(K:AV->Prop),lkA l k K↔K (l.getD k .any)
 |[],_,_|x::l,0,K=>by simp[lkA]
 |_::l,k+1,K=>by simp[lkA,SC l k K]
def De(E:List AV)(o:Operand)(K:AV->Prop):Prop:=
 match o with
 |.tmp t=>lkA E t K
 |.const v=>(qW v).force K
 |.func f=>K (.fn f [])
 |.global g=>K (.raw (.pointer (some ⟨g,0,none⟩)))
theorem Ac(E:List AV)(o:Operand)(K:AV->Prop):De E o K↔K (AM E o):=by
 cases o<;>simp[De,AM,SC,AV.AJ]
def Bc(mu:Mu):Mu:=λl=>match mu l with|some (.CS b)=>some (.CS b)|_=>none
theorem xH(mu:Mu):AI (Bc mu) mu:=λl g h=>by
 unfold Bc at h;split at h;·rename_i b hb;rw[hb];exact h
 ·cases h
def Zei(ks vs:List AV)(es:List MapEntry)(clock:Nat):Prop:=Fx es clock/\∀C w,Ab C w ks Mu.none (es.map MapEntry.key)/\Ab C w vs Mu.none (es.map MapEntry.val)
def VN(cur:Array Value)(fz:Nat×Nat):Prop:=fz=(0,0)\/fz=(cur.size,cur.size+1)
def bZ(w:World)(b:Nat)(cur:Array Value)(e:TypeId):Prop:=∃fz,w.heap[b]?=some (.cells cur e fz)/\VN cur fz
theorem bZ.of_eq{w w':World}{b:Nat}{cur:Array Value}{e:TypeId}(h:bZ w b cur e)(he:w'.heap[b]?=w.heap[b]?):bZ w' b cur e:=by
 obtain⟨fz,h1,h2⟩:=h;exact⟨fz,he.trans h1,h2⟩
theorem bZ.lt{w:World}{b:Nat}{cur:Array Value}{e:TypeId}(h:bZ w b cur e):b<w.heap.size:=by
 obtain⟨fz,h1,_⟩:=h;exact(Kw.1 h1).1
structure AU(C:Ae)(w:World)(fresh:Nat->Prop)(mu:Mu)(H:List HO):Prop where
 Is:∀l g,mu l=some g->l<H.length
 fresh:∀l g b,mu l=some g->g.Aq=some b->fresh b/\b<w.heap.size/\∀o,¬C b o
 sep:∀l g b l' g',mu l=some g->g.Aq=some b->mu l'=some g'->g'.Aq=some b->l'=l
 dead:∀l,H[l]?=some .dead->mu l=none
 Cr:∀l cs,H[l]?=some (.cells cs)->∃b cur e,mu l=some (.CS b)/\w.heap[b]?=some (.cells cur e (0,0))/\Ab C w cs mu cur.toList/\∀v∈cur.toList,v.oneCell'=true
 BM:∀l e sz es,H[l]?=some (.arr e sz es)->(∀a∈es,a.cells.length=sz)/\
  ((mu l=some (.arr (.slice none 0 0))/\es=[])\/∃b cap cur,mu l=some (.arr (.slice (some ⟨b,0,none⟩) es.length cap))/\
   bZ w b cur e/\es.length<=cap/\cap<=9223372036854775807/\cur.size=cap*sz/\
   Ab C w (flat es) (Bc mu) (cur.toList.take (es.length*sz))/\∀v∈cur.toList,v.oneCell'=true)
 maps:∀l ks vs,H[l]?=some (.map ks vs)->∃b es clock,mu l=some (.CS b)/\w.heap[b]?=some (.map es clock)/\Zei ks vs es.toList clock
structure cM(C:Ae)(w:World):Prop where
 lt:∀b o,C b o->b<w.heap.size
 gl:∀x∈O6,Cells C w x.2 x.1 0
 gs:∀x∈O6,x.2≠[]->∃cur e fz,w.heap[x.1]?=some (.cells cur e fz)/\cur.size=x.2.length
structure Zhv(C0:Ae)(M0:Nat->Prop)(W0:World):Prop where
 ok:cM C0 W0
 GW:∀b o,C0 b o->¬M0 b
structure Cx where
 P:Program
 C0:Ae
 M0:Nat->Prop
 W0:World
 ds:List Deferred:=[]
 MJ:List (Nat×Obj):=[]
 rd:Option Nat:=none
 Ds:Nat->Nat->Prop:=λ_ _=>False
 np:Nat:=0
 Se:∀l,rd=some l->∃r,(l,Obj.loop r)∈MJ:=by intro l h;cases h
 pM:Zhv C0 M0 W0
def mark(D:Nat):Deferred:={target:=.collected D,args:=#[]}
def GL:Obj:=.deferred (some [])
structure CG(C:Ae)(w:World)(fr:Nat->Prop)(mu:Mu)(D:Nat×Obj):Prop where
 at_:w.heap[D.1]?=some D.2
 KA:∀o,¬C D.1 o
 own:∀l g,mu l=some g->g.Aq≠some D.1
 fr:fr D.1
structure Zbw(C:Ae)(w:World)(fr:Nat->Prop)(mu:Mu)(Cb:Ae)(nb:Nat)(Sw Sr:Nat->Prop):Prop where
 fr:∀b,Sw b->fr b
 base:nb<=w.heap.size
 cb:∀b o,C b o->Cb b o\/nb<=b
 ob:∀l g b,mu l=some g->g.Aq=some b->nb<=b
 sub:∀b,Sw b->Sr b
 lt:∀b,Sr b->b<w.heap.size
 own:∀b,Sr b->∀l g,mu l=some g->g.Aq≠some b
 KA:∀b o,Sw b->¬C b o
structure BE(C:Ae)(w:World)(fr:Nat->Prop)(mu:Mu)(H:List HO)(ds:List (Nat×Obj)):Prop where
 Bl:∀(l:Nat) cs vs ms,H[l]?=some (.ghost cs vs ms)->Ab C w cs mu vs/\ms.Nodup/\∀D∈ms,CG C w fr mu (D,GL)/\D∉ds.map Prod.fst
 Hz:∀(l:Nat) I,H[l]?=some (.inv I)->l=0/\∃Sw Sr,Zbw C w fr mu I.Cb I.nb Sw Sr/\I.J Sw Sr w/\(∀D∈ds,¬Sr D.1)/\∀(l:Nat) cs vs ms,H[l]?=some (.ghost cs vs ms)->∀D∈ms,¬Sr D
 marks:∀D∈ds,CG C w fr mu D
 nd:(ds.map Prod.fst).Nodup
 sep:∀(l l':Nat) cs vs ms cs' BY DE,H[l]?=some (.ghost cs vs ms)->H[l']?=some (.ghost cs' BY DE)->l≠l'->∀D∈ms,D∉DE
def Cx.fresh(G:Cx)(b:Nat):Prop:=G.W0.heap.size<=b\/G.M0 b
structure KC(G:Cx)(w:World):Prop where
 os:w.os=G.W0.os
 tape:w.tape=G.W0.tape
 output:w.output=G.W0.output
 size:G.W0.heap.size<=w.heap.size
 block:∀k,k<G.W0.heap.size->¬G.M0 k->w.heap[k]?=G.W0.heap[k]?
structure Az(G:Cx)(C:Ae)(mu:Mu)(E:List AV)(H:List HO)(a:Act)(w:World):Prop where
 c0:∀b o,G.C0 b o->C b o
 c1:∀b o,C b o->G.C0 b o\/G.fresh b
 lt:∀b o,C b o->b<w.heap.size
 heap:AU C w G.fresh mu H
 env:Ab C w E mu a.tmps.toList
 defers:∃ms:List Nat,a.defers=ms.map mark++G.ds/\BE C w G.fresh mu H (ms.map (λD=>(D,GL))++G.MJ)
 Ax:KC G w
 Ds:G.np<=H.length/\∀l b,l<G.np->G.Ds l b->mu l=some (.CS b)
def St(G:Cx)(E:List AV)(H:List HO)(a:Act)(w:World):Prop:=∃C mu,Az G C mu E H a w
theorem Az.ZkD{G:Cx}{C:Ae}{mu:Mu}{E:List AV}{H:List HO}{a:Act}{w:World}(h:Az G C mu E H a w):Ext G.C0 C G.W0 w:=
 ⟨h.c0,λb o hc=>h.Ax.block b (G.pM.ok.lt b o hc) (G.pM.GW b o hc)⟩
theorem cM.mono{C C':Ae}{w w':World}(h:cM C w)(hx:Ext C C' w w')(hl:∀b o,C' b o->b<w'.heap.size):cM C' w':=
 ⟨hl,λx k=>Cells.mono hx _ (h.gl x k),λx k hn=>by
  obtain⟨cur,e,fz,h1,h2⟩:=h.gs x k hn
  have hc:C x.1 0:=by
   have:=h.gl x k;cases hx2:x.2 with
   |nil=>exact absurd hx2 hn
   |cons y ys=>rw[hx2]at this;unfold Cells at this;obtain⟨⟨v,_,hc,_⟩,_⟩:=this;exact hc.1
  exact⟨cur,e,fz,by rw[hx.block _ _ hc];exact h1,h2⟩⟩
theorem Az.qI{G:Cx}{C:Ae}{mu:Mu}{E:List AV}{H:List HO}{a:Act}{w:World}(h:Az G C mu E H a w):cM C w:=G.pM.ok.mono h.ZkD h.lt
theorem Sx{C:Ae}{w:World}{mu:Mu}(v:Value):Ah C w .any mu v:=by unfold Ah;trivial
theorem Su{C:Ae}{w:World}{mu:Mu}(v:Value):Ah C w (qW v) mu v:=by
 unfold qW;split
 ·rename_i k n;cases h:(decide (k.min<=n)&&decide (n<=k.max))with
  |true=>simp at h;simp only[cond_true];unfold Ah;exact⟨rfl,h⟩
  |false=>exact Sx _
 ·unfold Ah;rfl
 ·rename_i s;cases h:HM s.data.toList.length 9223372036854775807 with
  |true=>simp only[cond_true];unfold Ah;exact⟨by simp,C1 h⟩
  |false=>exact Sx _
 ·unfold Ah;rfl
theorem Ab.get{C:Ae}{w:World}{mu:Mu}{E:List AV}{vs:Array Value}(h:Ab C w E mu vs.toList)(t:Nat):
  Ah C w (E.getD t .any) mu (vs.getD t undef):=by
 obtain⟨h1,h2⟩:=(AH E).1 h;by_cases ht:t<E.length
 ·have ht':t<vs.toList.length:=by omega
  have:=h2 t ht ht';simpa[Z8,Array.getD,ht,show t<vs.size from by simpa using ht']using this
 ·have:E.getD t .any=.any:=by simp[Z8,MA (Nat.le_of_not_lt ht)]
  rw[this];exact Sx _
theorem AX{C:Ae}{w:World}{mu:Mu}{E:List AV}{a:Act}(h:Ab C w E mu a.tmps.toList)(o:Operand):Ah C w (AM E o) mu (a.eval o):=by
 cases o with
 |tmp t=>exact h.get t
 |const v=>exact Su v
 |global g=>unfold AM Ah;rfl
 |func f=>unfold AM Ah;exact⟨[],by simp[Act.eval],by unfold Ab;rfl⟩
theorem Ab.put{C:Ae}{w:World}{mu:Mu}{E:List AV}{vs:Array Value}(h:Ab C w E mu vs.toList)(t:Nat){x:AV}{v:Value}(hv:Ah C w x mu v):
  Ab C w (E.set t x) mu (vs.setIfInBounds t v).toList:=by
 obtain⟨h1,h2⟩:=(AH E).1 h;refine(AH _).2 ⟨by simp_all,λi hi Fk=>?_⟩
 simp only[Kx,List.getElem_set];split;·exact hv
 ·exact h2 i (by simpa using hi) (by simpa using Fk)
def A6(E:List AV)(d:Option Tmp)(x:AV):List AV:=match d with|some d=>E.set d x|none=>E
theorem Bf{C:Ae}{w:World}{mu:Mu}{E:List AV}{a:Act}(h:Ab C w E mu a.tmps.toList)(d:Option Tmp){x:AV}{v:Value}(hv:Ah C w x mu v):
  Ab C w (A6 E d x) mu (a.put d v).tmps.toList:=by
 cases d with
 |none=>exact h
 |some d=>exact h.put d hv
theorem put_defers(a:Act)(d:Option Tmp)(v:Value):(a.put d v).defers=a.defers:=by cases d<;>rfl
theorem BG.facts{P:Program}{T:List TY}(h:BG P T){t:TypeId}{y:TY}(e:T[t]?=some y):∃i d,P.info? t=some i/\P.underlying t=some d/\
  y={size:=i.size,agg:=AT P t,zero:=zeroOf (AT P t) i.zero,k:=kindOf P d,eq:=Zbb P t}:=by
 have h:=h t y e;unfold Xb at h;split at h
 ·rename_i i d hi hd;exact⟨i,d,hi,hd,by simpa using h.symm⟩
 ·cases h
theorem BG.slice{P:Program}{T:List TY}(h:BG P T){t:TypeId}{y:TY}(e:T[t]?=some y){el sz by':Nat}{ag:Bool}(hk:y.k=.slice el sz by' ag):
  P.underlying t=some (.slice el)/\FL P el=sz/\P.bytesOf el=by'/\AT P el=ag:=by
 obtain⟨i,d,h1,h2,rfl⟩:=h.facts e;cases d<;>simp_all[kindOf]<;>(obtain⟨rfl,h⟩:=hk;exact h)
theorem BG.struct{P:Program}{T:List TY}(h:BG P T){t:TypeId}{y:TY}(e:T[t]?=some y){fs:List (Nat×Nat×Bool)}(hk:y.k=.struct fs):
  ∃fields,P.underlying t=some (.struct fields)/\fs=fields.toList.map λf=>(f.offset,FL P f.type,AT P f.type):=by
 obtain⟨i,d,h1,h2,rfl⟩:=h.facts e;cases d<;>simp_all[kindOf]
theorem BG.string{P:Program}{T:List TY}(h:BG P T){t:TypeId}{y:TY}(e:T[t]?=some y)(hk:y.k=.string):P.underlying t=some .string:=by
 obtain⟨i,d,h1,h2,rfl⟩:=h.facts e;cases d<;>simp_all[kindOf]
theorem BG.bool{P:Program}{T:List TY}(h:BG P T){t:TypeId}{y:TY}(e:T[t]?=some y)(hk:y.k=.bool):P.underlying t=some .bool:=by
 obtain⟨i,d,h1,h2,rfl⟩:=h.facts e;cases d<;>simp_all[kindOf]
theorem BG.int{P:Program}{T:List TY}(h:BG P T){t:TypeId}{y:TY}(e:T[t]?=some y){k:IntKind}(hk:y.k=.int k):P.underlying t=some (.int k):=by
 obtain⟨i,d,h1,h2,rfl⟩:=h.facts e;cases d<;>simp_all[kindOf]
theorem KO{P:Program}{t:TypeId}{n:Nat}(h:FL P t=n+1):∃i d,P.info? t=some i/\P.underlying t=some d/\i.size=n+1:=by
 unfold FL at h;split at h
 ·rename_i d hd;unfold RR at h;cases hi:P.info? t with
  |none=>simp[hi]at h
  |some i=>exact⟨i,d,rfl,hd,by simpa[hi]using h⟩
 ·cases h
def yA(a b:IntKind):Bool:=
 match a,b with
 |.i8,.i8|.i16,.i16|.i32,.i32|.i64,.i64|.u8,.u8|.u16,.u16|.u32,.u32|.u64,.u64=>true
 |_,_=>false
theorem Qi{a b:IntKind}(h:yA a b=true):a=b:=by cases a<;>cases b<;>simp_all[yA]
def RC(op:BinOp)(k:IntKind)(x y:Int):Int:=
 let a:=BitVec.ofInt k.bits x
 let b:=BitVec.ofInt k.bits y
 match op with
 |.and=>(a &&& b).toNat
 |.or=>(a ||| b).toNat
 |.xor=>(a ^^^ b).toNat
 |_=>(a &&& ~~~b).toNat
def oS(op:BinOp)(k:IntKind)(m n:Int)(K:AV->Prop):Prop:=
 match op with
 |.add=>K (.int k (Wr k (m+n)))
 |.sub=>K (.int k (Wr k (m-n)))
 |.mul=>K (.int k (Wr k (m*n)))
 |.quo=>n≠0/\K (.int k (Wr k (m.tdiv n)))
 |.rem=>n≠0/\K (.int k (m.tmod n))
 |.eql=>K (.bool (decide (m=n)))
 |.neq=>K (.bool (!decide (m=n)))
 |.lss=>K (.bool (decide (m<n)))
 |.leq=>K (.bool (decide (m<=n)))
 |.gtr=>K (.bool (decide (n<m)))
 |.geq=>K (.bool (decide (n<=m)))
 |.and=>K (.int k (Wr k (RC .and k m n)))
 |.or=>K (.int k (Wr k (RC .or k m n)))
 |.xor=>K (.int k (Wr k (RC .xor k m n)))
 |.andNot=>K (.int k (Wr k (RC .andNot k m n)))
 |_=>False
def sB(op:BinOp)(p q:List UInt8)(K:AV->Prop):Prop:=
 match op with
 |.add=>p.length+q.length<=9223372036854775807/\K (.str (p++q))
 |.eql=>K (.bool (p == q))
 |.neq=>K (.bool (!(p == q)))
 |.lss=>K (.bool (Ve p q))
 |.leq=>K (.bool (Ve p q||p == q))
 |.gtr=>K (.bool (!(Ve p q||p == q)))
 |.geq=>K (.bool (!Op.bytesLess p q))
 |_=>False
def UU(op:BinOp)(p q:Bool)(K:AV->Prop):Prop:=
 match op with
 |.eql=>K (.bool (p == q))
 |.neq=>K (.bool (!(p == q)))
 |_=>False
def T4(k:Nat)(a b:AV)(K:Bool->Prop):Prop:=
 match k with
 |0=>(match a with
  |.bool p|.lit p=>(match b with|.bool q=>K (p == q)|.lit q=>K (p == q)|_=>False)
  |_=>False)
 |1=>(match a with
  |.int k m=>(match b with|.int k' n=>(match yA k k' with|true=>K (decide (m=n))|false=>False)|_=>False)
  |_=>False)
 |2=>(match a with
  |.str p=>(match b with|.str q=>K (decide (p=q))|_=>False)
  |_=>False)
 |_=>False
def iE:List Nat->List AV->List AV->(Bool->Prop)->Prop
 |[],[],[],K=>K true
 |k::ls,a::xs,b::ys,K=>T4 k a b λp=>iE ls xs ys λr=>K (p&&r)
 |_,_,_,_=>False
def QN(T:List TY)(op:BinOp)(t:TypeId)(cs ds:List AV)(K:AV->Prop):Prop:=
 Cm T t λy=>match y.agg with
  |true=>(match y.eq with
   |some ls=>(match op with
    |.eql=>iE ls cs ds λr=>K (.bool r)
    |.neq=>iE ls cs ds λr=>K (.bool (!r))
    |_=>False)
   |none=>False)
  |false=>False
def NL(T:List TY)(op:BinOp)(t:TypeId)(a b:AV)(K:AV->Prop):Prop:=
 match a with
 |.int k m=>match b with|.int k' n=>(match yA k k' with|true=>oS op k m n K|false=>False)|_=>False
 |.bool p=>match b with
  |.bool q|.lit q=>Cm T t λy=>(match y.k with|.bool=>UU op p q K|_=>False)
  |_=>False
 |.lit p=>match b with
  |.bool q|.lit q=>Cm T t λy=>(match y.k with|.bool=>UU op p q K|_=>False)
  |_=>False
 |.str p=>match b with|.str q=>sB op p q K|_=>False
 |.agg cs=>match b with|.agg ds=>QN T op t cs ds K|_=>False
 |_=>False
def unK(op:UnOp)(a:AV)(K:AV->Prop):Prop:=
 match op with
 |.neg=>match a with|.int k n=>K (.int k (Wr k (0-n)))|_=>False
 |.not=>match a with|.bool b=>K (.bool (!b))|.lit b=>(match b with|true=>K (.lit false)|false=>K (.lit true))|_=>False
 |_=>False
def ldK(T:List TY)(t:TypeId)(cs:List AV)(K:AV->Prop):Prop:=
 Cm T t λy=>match y.agg with
  |true=>S6 cs y.size λcs=>K (.agg cs)
  |false=>match cs with|c::_=>c.force K|[]=>False
def DB(v:AV)(K:List AV->Prop):Prop:=
 match v with
 |.agg cs=>K cs
 |.int k n=>K [.int k n]
 |.bool b=>K [.bool b]
 |.lit b=>K [.lit b]
 |.str l=>K [.str l]
 |.sl sz es=>K [.sl sz es]
 |.at_ cs=>K [.at_ cs]
 |.fn f cap=>K [.fn f cap]
 |.mv f cap=>K [.mv f cap]
 |.iface t x=>K [.iface t x]
 |.tuple vs=>K [.tuple vs]
 |.raw v=>K [.raw v]
 |.ptr l o=>K [.ptr l o]
 |.el l sz i o=>K [.el l sz i o]
 |.own l sz lo n=>K [.own l sz lo n]
 |.mp ks vs=>K [.mp ks vs]
 |.om l=>K [.om l]
 |.any=>K [.any]
theorem Am(v:AV)(K:List AV->Prop):DB v K↔K v.cells:=by cases v<;>rfl
def ON(T:List TY)(H:List HO)(t:TypeId)(p:AV)(K:AV->Prop):Prop:=
 match p with
 |.at_ cs=>ldK T t cs K
 |.ptr l o=>Cm H l λob=>match ob with|.cells cs=>Kh cs o λcs=>ldK T t cs K|_=>False
 |.el l sz i o=>Cm H l λob=>match ob with
  |.arr _ BI es=>(match E2 sz BI with
   |true=>∃v,es[i]?=some v/\DB v λcs=>Kh cs o λcs=>ldK T t cs K
   |false=>False)
  |_=>False
 |_=>False
def BS(T:List TY)(H:List HO)(t:TypeId)(x i:AV)(K:AV->Prop):Prop:=
 match x with
 |.sl sz es=>Cm T t λy=>(match y.k with
  |.slice _ Bv _ _=>(match E2 Bv sz&&HM 1 sz with
   |true=>(match i with
    |.int _ n=>0<=n/\∃v,es[n.toNat]?=some v/\DB v λcs=>K (.at_ cs)
    |_=>False)
   |false=>False)
  |_=>False)
 |.own l sz lo m=>Cm T t λy=>(match y.k with
  |.slice _ Bv _ _=>Cm H l λob=>(match ob with
   |.arr _ BI _=>(match E2 Bv sz&&HM 1 sz&&E2 sz BI with
    |true=>(match i with
     |.int _ n=>(0<=n/\n<m)/\K (.el l sz (lo+n.toNat) 0)
     |_=>False)
    |false=>False)
   |_=>False)
  |_=>False)
 |.ptr l o=>Cm T t λy=>(match y.k with
  |.array n sz _=>(match HM 1 sz with
   |true=>(match i with
    |.int _ m=>(0<=m/\m<n)/\K (.ptr l (o+m.toNat*sz))
    |_=>False)
   |false=>False)
  |_=>False)
 |_=>False
def HA(T:List TY)(t:TypeId)(x i:AV)(K:AV->Prop):Prop:=
 match x with
 |.str l=>Cm T t λy=>match y.k with
  |.string=>match i with
   |.int _ n=>(0<=n/\n<l.length)/\K (.int .u8 (l.getD n.toNat 0).toNat)
   |_=>False
  |_=>False
 |.agg cs=>Cm T t λy=>match y.k with
  |.array n sz ag=>(match E2 sz 1&&!ag with
   |true=>(match i with|.int _ m=>(0<=m/\m<n)/\∃v,cs[m.toNat]?=some v/\K v|_=>False)
   |false=>(match ag&&HM 1 sz&&E2 cs.length (n*sz)with
    |true=>(match i with|.int _ m=>(0<=m/\m<n)/\K (.agg ((cs.drop (m.toNat*sz)).take sz))|_=>False)
    |false=>False))
  |_=>False
 |_=>False
def DZ(T:List TY)(t:TypeId)(x:AV)(f:Nat)(K:AV->Prop):Prop:=
 Cm T t λy=>match y.k with
  |.struct fs=>Cm fs f λ(off,size,_)=>match size with
   |0=>False
   |_+1=>match x with
    |.at_ cs=>Kh cs off λcs=>K (.at_ cs)
    |.ptr l o=>K (.ptr l (o+off))
    |.el l sz i o=>K (.el l sz i (o+off))
    |.raw v=>(match v with|.pointer p=>(match p with|some ⟨b,o,none⟩=>K (.raw (.pointer (some ⟨b,o+off,none⟩)))|_=>False)|_=>False)
    |_=>False
  |_=>False
def Ls(T:List TY)(t:TypeId)(x:AV)(f:Nat)(K:AV->Prop):Prop:=
 Cm T t λy=>match y.k with
  |.struct fs=>Cm fs f λ(off,size,agg)=>match x with
   |.agg cs=>Kh cs off λcs=>(match agg with
    |true=>S6 cs size λcs=>K (.agg cs)
    |false=>match size with|0=>False|_+1=>match cs with|c::_=>c.force K|[]=>False)
   |_=>False
  |_=>False
def Vu(T:List TY)(t:TypeId)(x:AV)(K:AV->Prop):Prop:=
 Cm T t λy=>match y.k with
  |.slice _ _ _ _=>match x with
   |.sl _ es=>K (.int .i64 es.length)
   |.own _ _ _ n=>K (.int .i64 n)
   |.raw (.slice none 0 0)=>K (.int .i64 0)
   |_=>False
  |.string=>match x with
   |.str l=>K (.int .i64 l.length)
   |_=>False
  |_=>False
def Jo(T:List TY)(s d:TypeId)(x:AV)(K:AV->Prop):Prop:=
 match x with
 |.int _ n=>Cm T s λ_=>Cm T d λy=>match y.k with|.int k=>K (.int k (Wr k n))|.string=>(0<=n/\n<128)/\K (.str [UInt8.ofNat n.toNat])|_=>False
 |.str l=>Cm T s λ_=>Cm T d λy=>match y.k with|.string=>K (.str l)|_=>False
 |_=>False
def OE(o:Option AV)(d:Int)(K:Int->Prop):Prop:=
 match o with
 |none=>K d
 |some v=>match v with|.int _ n=>K n|_=>False
def Dy(T:List TY)(t:TypeId)(x:AV)(lo hi:Option AV)(K:AV->Prop):Prop:=
 match x with
 |.str l=>Cm T t λy=>match y.k with
  |.string=>OE lo 0 λa=>OE hi l.length λb=>(0<=a/\a<=b/\b<=l.length)/\K (.str ((l.take b.toNat).drop a.toNat))
  |_=>False
 |.sl sz es=>Cm T t λy=>match y.k with
  |.slice _ Bv _ _=>match E2 Bv sz&&HM 1 sz with
   |true=>OE lo 0 λa=>OE hi es.length λb=>(0<=a/\a<=b/\b<=es.length)/\K (.sl sz ((es.take b.toNat).drop a.toNat))
   |false=>False
  |_=>False
 |.own l sz p n=>Cm T t λy=>match y.k with
  |.slice _ Bv _ _=>match E2 Bv sz&&HM 1 sz with
   |true=>OE lo 0 λa=>OE hi n λb=>(0<=a/\a<=b/\b<=n/\(a<n\/a=0))/\K (.own l sz (p+a.toNat) (b.toNat-a.toNat))
   |false=>False
  |_=>False
 |_=>False
def fJ(a b:AV)(K:AV->Prop):Prop:=
 match a with
 |.int k m=>(match b with
  |.int k' n=>(match yA k k' with|true=>K (.int k (min m n))|false=>False)
  |_=>False)
 |_=>False
def Z2(T:List TY)(op:BinOp)(t:TypeId)(r:Bool)(K:AV->Prop):Prop:=
 Cm T t λy=>match y.k with
  |.iface=>(match op with
   |.eql=>(match r with|true=>K (.lit true)|false=>K (.lit false))
   |.neq=>(match r with|true=>K (.lit false)|false=>K (.lit true))
   |_=>False)
  |_=>False
def ZaE(o:Operand):Bool:=match o with|.const _=>true|_=>false
def oD(T:List TY)(op:BinOp)(t:TypeId)(a b:AV)(c:Bool)(K:AV->Prop):Prop:=
 match a with
 |.iface _ _=>(match b with
  |.raw v=>(match v with|.nilIface=>Z2 T op t false K|_=>False)
  |_=>False)
 |.raw u=>(match u with
  |.nilIface=>(match b with
   |.raw v=>(match v with
    |.nilIface=>(match c with|true=>Z2 T op t true K|false=>False)
    |_=>False)
   |.iface _ _=>Z2 T op t false K
   |_=>False)
  |_=>False)
 |a=>NL T op t a b K
def Iz(T:List TY)(e:TypeId)(K:AV->Prop):Prop:=
 Cm T e λy=>match y.agg with
  |true=>(match y.zero with|[]=>False|z::zs=>K (.agg (z::zs)))
  |false=>match y.zero with|[z]=>z.force K|_=>False
def OS(k a:AV):Bool:=match k with
 |.str p=>(match a with|.str q=>p == q|_=>false)
 |.int i m=>(match a with|.int j n=>yA i j&&decide (m=n)|_=>false)
 |_=>false
def JT(k a:AV):Bool:=match k with
 |.str _=>(match a with|.str _=>true|_=>false)
 |.int i _=>(match a with|.int j _=>yA i j|_=>false)
 |_=>false
def kZ(d:TK)(k:AV):Bool:=match d with
 |.string=>(match k with|.str _=>true|_=>false)
 |.int i=>(match k with|.int j _=>yA i j|_=>false)
 |_=>false
def Qf(k:AV):List AV->Option Nat
 |[]=>none
 |a::ks=>bif OS k a then some 0 else (Qf k ks).map (·+1)
def Qg(k:AV)(ks vs:List AV):Option AV:=(Qf k ks).bind (vs[·]?)
def uH(k:AV)(ks:List AV):List AV:=match Qf k ks with|none=>ks++[k]|some _=>ks
def uE(k v:AV)(ks vs:List AV):List AV:=match Qf k ks with|none=>vs++[v]|some i=>vs.set i v
def Nx(H:List HO)(x:AV)(K:List AV->List AV->Prop):Prop:=match x with
 |.mp ks vs=>K ks vs
 |.om l=>Cm H l λob=>(match ob with|.map ks vs=>K ks vs|_=>False)
 |_=>False
def Ic(T:List TY)(H:List HO)(t:TypeId)(x k:AV)(ok:Bool)(K:AV->Prop):Prop:=
 Cm T t λy=>match y.k with
  |.map kt vt=>Cm T kt λyk=>(match kZ yk.k k with
   |true=>Nx H x λks vs=>(∀a∈ks,JT k a=true)/\
    ((Qg k ks vs=none->Iz T vt λz=>(match ok with|true=>K (.tuple [z,.lit false])|false=>z.force K))/\
     ∀v,Qg k ks vs=some v->(match ok with|true=>K (.tuple [v,.lit true])|false=>K v))
   |false=>False)
  |_=>False
def Bj(T:List TY)(E:List AV)(H:List HO)(o:Op)(K:AV->Prop):Prop:=
 match o with
 |.move x|.assign x=>De E x K
 |.pick c a b=>De E c λv=>match v with
  |.lit t=>(match t with|true=>De E a K|false=>De E b K)
  |_=>False
 |.binOp op t x y _=>De E x λu=>De E y λv=>oD T op t u v (ZaE x||ZaE y) K
 |.unOp op _ x=>De E x λu=>unK op u K
 |.load t x=>De E x λu=>ON T H t u K
 |.fieldAddr t x f=>De E x λu=>DZ T t u f K
 |.field t x f=>De E x λu=>Ls T t u f K
 |.indexAddr t x i=>De E x λu=>De E i λv=>BS T H t u v K
 |.index t x i=>De E x λu=>De E i λv=>HA T t u v K
 |.convert s d x=>De E x λu=>Jo T s d u K
 |.extract x i=>De E x λu=>match u with
  |.tuple vs=>Cm vs i λv=>v.force K
  |_=>False
 |.nilCheck x=>De E x λu=>match u with
  |.at_ cs=>K (.at_ cs)
  |.ptr l o=>K (.ptr l o)
  |.el l sz i o=>K (.el l sz i o)
  |.fn f cap=>K (.fn f cap)
  |.mv f cap=>K (.mv f cap)
  |.raw v=>(match v with|.pointer p=>(match p with|some a=>K (.raw (.pointer (some a)))|_=>False)|_=>False)
  |_=>False
 |.makeFunc fn first cap=>match fn with
  |.func f=>(match first.toList with
   |[]=>GY (De E) cap.toList λcs=>K (.fn f cs)
   |_::_=>(match cap.toList with
    |[]=>GY (De E) first.toList λfs=>K (.mv f fs)
    |_::_=>False))
  |_=>False
 |.makeInterface t x=>De E x λu=>Cm T t λy=>match y.k with
  |.iface=>False
  |_=>K (.iface t u)
 |.slice t x lo hi mx=>match mx with
  |none=>De E x λu=>(match lo,hi with
   |none,none=>Dy T t u none none K
   |some l,none=>De E l λl=>Dy T t u (some l) none K
   |none,some h=>De E h λh=>Dy T t u none (some h) K
   |some l,some h=>De E l λl=>De E h λh=>Dy T t u (some l) (some h) K)
  |some _=>False
 |.call c=>match c.callee with
  |.builtin .len=>(match c.args.toList with
   |[x]=>(match c.argTypes.toList with
    |[t]=>De E x λu=>Vu T t u K
    |_=>False)
   |_=>False)
  |.builtin .min=>(match c.args.toList with
   |[x,y]=>De E x λu=>De E y λv=>fJ u v K
   |_=>False)
  |_=>False
 |.lookup t x i ok=>De E x λu=>De E i λv=>Ic T H t u v ok K
 |_=>False
section
variable {P:Program}{C:Ae}{w:World}{mu:Mu}
theorem B7{k:IntKind}{n:Int}(h:DJ k n):Ah C w (.int k n) mu (.int k n):=by unfold Ah;exact⟨rfl,h⟩
theorem B3{b:Bool}:Ah C w (.bool b) mu (.bool b):=by unfold Ah;rfl
theorem Ss{l:List UInt8}(h:l.length<=9223372036854775807):Ah C w (.str l) mu (.string ⟨l.toArray⟩):=by unfold Ah;exact⟨rfl,h⟩
theorem AA{k:IntKind}{n:Int}{v:Value}(h:Ah C w (.int k n) mu v):v=.int k n/\DJ k n:=by unfold Ah at h;exact h
theorem Bg{b:Bool}{v:Value}(h:Ah C w (.bool b) mu v):v=.bool b:=by unfold Ah at h;exact h
theorem Bi{b:Bool}{v:Value}(h:Ah C w (.lit b) mu v):v=.bool b:=by unfold Ah at h;exact h
theorem GV{b:Bool}:Ah C w (.lit b) mu (.bool b):=by unfold Ah;rfl
theorem Bp{l:List UInt8}{v:Value}(h:Ah C w (.str l) mu v):v=.string ⟨l.toArray⟩/\l.length<=9223372036854775807:=by unfold Ah at h;exact h
theorem uY{k:IntKind}{m:Int}(n:Int)(h:DJ k m):DJ k (m.tmod n):=by
 have h0:k.min<=0:=by cases k<;>simp[Lk,H2,Ki]
 have h1:0<=k.max:=by cases k<;>simp[Ll,H2,Ki]
 obtain⟨ha,hb⟩:=h;unfold DJ;have hle:(m.tmod n).natAbs<=m.natAbs:=by rw[Int.natAbs_tmod];exact Nat.mod_le _ _
 rcases Int.le_total 0 m with hm|hm
 ·have e1:0<=m.tmod n:=WH _ hm;omega
 ·have e1:m.tmod n=-((-m).tmod n):=by simp
  have e3:0<=(-m).tmod n:=WH _ (by omega)
  omega
theorem run_equal_bool{t:TypeId}(a b:Bool)(hu:P.underlying t=some .bool):(Yv t (.bool a) (.bool b)).run P w=.ok (a == b) w:=by
 have h:∀d,(HQ (d+1) t (.bool a) (.bool b)).run P w=.ok (a == b) w:=λd=>by simp[HQ,run_underlying hu]
 exact h 9999
theorem D7(l:List UInt8):(⟨l.toArray⟩:ByteArray).size=l.length:=by simp[ByteArray.size]
theorem Mc{op:BinOp}{t:TypeId}{u v:Value}{p q:Bool}{K:AV->Prop}{T:List TY}(hT:BG P T)(hx:u=.bool p)(hy:v=.bool q)
  (h:Cm T t λy=>(match y.k with|.bool=>UU op p q K|_=>False)):∃r z,K r/\Ah C w r mu z/\(binOp op t u v).run P w=.ok z w:=by
 subst hx;subst hy
 replace h:=AL.1 h;obtain⟨y,hy,h⟩:=h
 split at h
 ·rename_i hb;have hu:=(hT.bool hy hb);unfold UU at h;cases op<;>simp only[]at h
  case eql=>exact⟨_,_,h,B3,by rw[binOp.eq_def];simp[run_equal_bool _ _ hu]⟩
  case neq=>exact⟨_,_,h,B3,by rw[binOp.eq_def];simp[run_equal_bool _ _ hu]⟩
 ·exact h.elim
theorem dR{t:TypeId}{d:TypeDesc}(h:P.underlying t=some d):(isAgg t).run P w=.ok (AT P t) w:=by
 unfold isAgg AT;simp only[Fj,run_underlying h,E8,h];cases d<;>simp
theorem Za{t:TypeId}{n:Nat}(h:FL P t=n)(hp:1<=n):(sizeOf t).run P w=.ok n w:=by
 unfold FL at h;cases hu:P.underlying t with
 |none=>simp[hu]at h;omega
 |some d=>
  simp only[hu]at h;unfold RR at h;cases hi:P.info? t with
  |none=>simp[hi]at h;omega
  |some i=>simp[hi]at h;simp[sizeOf,typeInfo,hi,h]
def LV(k:Nat)(u v:Value)(r:Bool):Prop:=
 match k with
 |0=>∃p q,u=.bool p/\v=.bool q/\r=(p == q)
 |1=>∃k m n,u=.int k m/\v=.int k n/\r=decide (m=n)
 |2=>∃p q:List UInt8,u=.string ⟨p.toArray⟩/\v=.string ⟨q.toArray⟩/\r=decide (p=q)
 |_=>False
def VEq:List Nat->List Value->List Value->Bool->Prop
 |[],_,_,r=>r=true
 |k::ls,u::us,v::vs,r=>∃a b,r=(a&&b)/\LV k u v a/\VEq ls us vs b
 |_::_,_,_,_=>False
theorem Zau{k:Nat}{x y:AV}{u v:Value}{K:Bool->Prop}(hx:Ah C w x mu u)(hy:Ah C w y mu v)(h:T4 k x y K):∃r,K r/\LV k u v r:=by
 unfold T4 at h;split at h
 ·split at h
  ·obtain rfl:=Bg hx;split at h;·obtain rfl:=Bg hy;exact⟨_,h,_,_,rfl,rfl,rfl⟩
   ·obtain rfl:=Bi hy;exact⟨_,h,_,_,rfl,rfl,rfl⟩
   ·exact h.elim
  ·obtain rfl:=Bi hx;split at h;·obtain rfl:=Bg hy;exact⟨_,h,_,_,rfl,rfl,rfl⟩
   ·obtain rfl:=Bi hy;exact⟨_,h,_,_,rfl,rfl,rfl⟩
   ·exact h.elim
  ·exact h.elim
 ·split at h
  ·split at h
   ·split at h
    ·rename_i hk;obtain⟨rfl,_⟩:=AA hx;obtain⟨rfl,_⟩:=AA hy;obtain rfl:=Qi hk;exact⟨_,h,_,_,_,rfl,rfl,rfl⟩
    ·exact h.elim
   ·exact h.elim
  ·exact h.elim
 ·split at h
  ·split at h
   ·obtain⟨rfl,_⟩:=Bp hx;obtain⟨rfl,_⟩:=Bp hy;exact⟨_,h,_,_,rfl,rfl,rfl⟩
   ·exact h.elim
  ·exact h.elim
 ·exact h.elim
theorem wN:∀(ls:List Nat)(xs ys:List AV){us vs:List Value}{K:Bool->Prop},Ab C w xs mu us->Ab C w ys mu vs->iE ls xs ys K->∃r,K r/\VEq ls us vs r/\us.length=ls.length/\vs.length=ls.length
 |[],[],[],us,vs,K,hx,hy,h=>by
  unfold Ab at hx hy;subst hx;subst hy
  exact⟨true,h,rfl,rfl,rfl⟩
 |k::ls,a::xs,b::ys,us,vs,K,hx,hy,h=>by
  unfold Ab at hx hy;obtain⟨u,Xc,rfl,h1,h2⟩:=hx;obtain⟨v,BY,rfl,h3,h4⟩:=hy;obtain⟨p,h,hp⟩:=Zau h1 h3 h;obtain⟨r,h,hr,e1,e2⟩:=wN ls xs ys h2 h4 h;exact⟨_,h,⟨p,r,rfl,hp,hr⟩,by simp[e1],by simp[e2]⟩
 |[],[],_::_,_,_,_,_,_,h|[],_::_,_,_,_,_,_,_,h|_::_,[],_,_,_,_,_,_,h|_::_,_::_,[],_,_,_,_,_,h=>h.elim
theorem SU:∀(l1 l2:List Nat)(us vs:List Value){r:Bool},VEq (l1++l2) us vs r->∃a b,r=(a&&b)/\VEq l1 (us.take l1.length) (vs.take l1.length) a/\VEq l2 (us.drop l1.length) (vs.drop l1.length) b
 |[],l2,us,vs,r,h=>⟨true,r,by simp,rfl,h⟩
 |k::l1,l2,u::us,v::vs,r,h=>by
  obtain⟨a,b,rfl,h1,h2⟩:=h;obtain⟨a',b',rfl,h3,h4⟩:=SU l1 l2 us vs h2;exact⟨a&&a',b',by rw[Bool.and_assoc],⟨a,a',rfl,h1,h3⟩,h4⟩
 |_::_,_,[],_,_,h|_::_,_,_::_,[],_,h=>h.elim
def fI(P:Program)(t:TypeId)(us:List Value):Value:=if AT P t=true then .agg us.toArray else us.headD undef
theorem Sz{t:TypeId}{d:TypeDesc}(hu:P.underlying t=some d){n off:Nat}(hn:FL P t=n)(h1:1<=n)(us:List Value)(hl:off+n<=us.length):
  (part t us.toArray off).run P w=.ok (fI P t ((us.drop off).take n)) w:=by
 unfold part fI;simp only[Fj,dR hu,E8];cases ha:AT P t with
 |true=>
  simp only[if_true,Fj,Za hn h1,E8,KF];congr 2;apply Rm.1;rw[Array.toList_extract];simp[List.extract]
 |false=>
  have AP:off<us.length:=by omega
  obtain⟨m,rfl⟩:∃m,n=m+1:=⟨n-1,by omega⟩
  have h2:us.toArray[off]?=some us[off]:=by simp[AP]
  have h3:((us.drop off).take (m+1)).headD undef=us[off]:=by rw[Pw AP];rfl
  simp only[h2,h3,Bool.false_eq_true,if_false,KF]
theorem XM{n:Nat}{t:TypeId}{ls:List Nat}(h:Du P n t=some ls):∃d,P.underlying t=some d:=by
 cases n with
 |zero=>cases h
 |succ n=>
  unfold Du at h;cases hu:P.underlying t with
  |none=>simp[hu]at h
  |some d=>exact⟨d,rfl⟩
theorem WT{n d:Nat}(ih:∀(t:TypeId)(ls:List Nat),Du P n t=some ls->∀us vs r,us.length=ls.length->vs.length=ls.length->VEq ls us vs r->(HQ d t (fI P t us) (fI P t vs)).run P w=.ok r w)(us vs:List Value):
  ∀(fs:List Field)(off:Nat)(ls:List Nat)(r:Bool),Jf P (Du P n) off fs=some ls->off+ls.length=us.length->off+ls.length=vs.length->VEq ls (us.drop off) (vs.drop off) r->
   (WJ d us.toArray vs.toArray fs).run P w=.ok r w
 |[],off,ls,r,h,_,_,hv=>by
  cases h;have hv:r=true:=hv;subst hv;simp[WJ]
 |f::fs,off,ls,r,h,h1,h2,hv=>by
  unfold Jf at h;cases hl:Du P n f.type with
  |none=>simp[hl]at h
  |some l=>
   simp only[hl]at h;cases hc:(E2 f.offset off&&f.name != "_"&&E2 (FL P f.type) l.length&&HM 1 l.length)with
   |false=>rw[hc]at h;cases h
   |true=>
    rw[hc]at h;simp only[CL]at hc;obtain⟨⟨⟨c1,c2⟩,c3⟩,c4⟩:=hc;have c1:f.offset=off:=Ak c1;have c3:=Ak c3;have c4:=C1 c4;have c2:f.name ≠ "_":=by simpa using c2
    cases hr:Jf P (Du P n) (off+l.length) fs with
    |none=>simp[hr]at h
    |some l2=>
     simp only[hr,cond_true,FB,A7.injEq]at h;subst h;simp only[C4]at h1 h2;obtain⟨a,b,rfl,v1,v2⟩:=SU l l2 _ _ hv;rw[Py]at v2;rw[Py]at v2;obtain⟨dd,hd⟩:=XM hl;have e1:=Sz (w:=w) hd c3 c4 us (off:=off) (by omega)
     have e2:=Sz (w:=w) hd c3 c4 vs (off:=off) (by omega)
     have e3:=ih f.type l hl _ _ a (by simp;omega) (by simp;omega) v1
     have e4:=WT ih us vs fs (off+l.length) l2 b hr (by omega) (by omega) v2
     simp only[WJ,c1,c2,ne_eq,not_false_eq_true,if_true,Fj,e1,e2,e3,E8];cases a with
     |false=>simp
     |true=>simpa using e4
theorem WA:∀(n d:Nat),n<=d->∀(t:TypeId)(ls:List Nat),Du P n t=some ls->∀us vs r,us.length=ls.length->vs.length=ls.length->VEq ls us vs r->(HQ d t (fI P t us) (fI P t vs)).run P w=.ok r w
 |0,_,_,_,_,h,_,_,_,_,_,_=>by cases h
 |n+1,d+1,hd,t,ls,h,us,vs,r,h1,h2,hv=>by
  have h0:=h;unfold Du at h;split at h
  ·rename_i hu;cases h;match us,vs,h1,h2,hv with
   |[u],[v],_,_,⟨a,b,hr,⟨p,q,hu1,hv1,ha⟩,hb⟩=>
    have hb:b=true:=hb;subst hb;subst hu1;subst hv1;subst ha
    have ea:AT P t=false:=by simp[AT,hu]
    simp only[fI,ea,hr,Qu];simp[HQ,run_underlying hu]
  ·rename_i kk hu;cases h;match us,vs,h1,h2,hv with
   |[u],[v],_,_,⟨a,b,hr,⟨k,m,m',hu1,hv1,ha⟩,hb⟩=>
    have hb:b=true:=hb;subst hb;subst hu1;subst hv1;subst ha
    have ea:AT P t=false:=by simp[AT,hu]
    simp only[fI,ea,hr,Qu];have:=run_equalIn_int w d t k kk m m' hu;rw[show decide (m=m')=(m == m')from rfl]
    simpa using this
  ·rename_i hu;cases h;match us,vs,h1,h2,hv with
   |[u],[v],_,_,⟨a,b,hr,⟨p,q,hu1,hv1,ha⟩,hb⟩=>
    have hb:b=true:=hb;subst hb;subst hu1;subst hv1;subst ha
    have ea:AT P t=false:=by simp[AT,hu]
    simp only[fI,ea,hr,Qu];have:=run_equalIn_string w d t ⟨p.toArray⟩ ⟨q.toArray⟩ hu;rw[ByteArray.toList_eq,ByteArray.toList_eq]at this;have e:decide (p=q)=(p == q):=by rw[W1];simp
    rw[e];simpa using this
  ·rename_i fs hu;cases hp:P.stoodInHeld t with
   |true=>rw[hp]at h;cases h
   |false=>
    rw[hp]at h;have h:Jf P (Du P n) 0 fs.toList=some ls:=h;have ea:AT P t=true:=by simp[AT,hu]
    have hfo:P.fieldsOf t=fs:=by simp[Program.fieldsOf,hu]
    simp only[fI,ea,if_true];rw[run_equalIn_struct w d t _ _ (by rw[hfo];exact hu) hp,hfo]
    exact WT (λt ls hl us vs r e1 e2 hv=>WA n d (by omega) t ls hl us vs r e1 e2 hv) us vs fs.toList 0 ls r h (by omega) (by omega) (by simpa using hv)
  ·cases h
 |_+1,0,hd,_,_,_,_,_,_,_,_,_=>by omega
theorem bU{op:BinOp}{t:TypeId}{cs ds:List AV}{us vs:List Value}{K:AV->Prop}{T:List TY}(hT:BG P T)(hx:Ab C w cs mu us)(hy:Ab C w ds mu vs)(h:QN T op t cs ds K):
  P.eqGuardType P.depth t=false/\∃r z,K r/\Ah C w r mu z/\(binOp op t (.agg us.toArray) (.agg vs.toArray)).run P w=.ok z w:=by
 unfold QN at h;replace h:=AL.1 h;obtain⟨y,hy',h⟩:=h
 obtain⟨i,d,hi,hd,Vw⟩:=hT.facts hy';have he:y.eq=Zbb P t:=by rw[Vw]
 have gR:y.agg=AT P t:=by rw[Vw]
 cases ha:AT P t with
 |false=>rw[gR,ha]at h;exact h.elim
 |true=>
  rw[gR,ha]at h;simp only at h;rw[he]at h;unfold Zbb at h;cases hg:P.eqGuardType P.depth t with
  |true=>rw[hg]at h;exact h.elim
  |false=>
   refine⟨rfl,?_⟩;rw[hg]at h;simp only[cond_false]at h;cases hl:Du P 8 t with
   |none=>rw[hl]at h;exact h.elim
   |some ls=>
    rw[hl]at h
    have key:∀{K':Bool->Prop},iE ls cs ds K'->∃r,K' r/\(HQ 10000 t (.agg us.toArray) (.agg vs.toArray)).run P w=.ok r w:=by
     intro K' hk;obtain⟨r,h1,h2,e1,e2⟩:=wN ls cs ds hx hy hk;have:=WA (P:=P) (w:=w) 8 10000 (by omega) t ls hl us vs r e1 e2 h2
     simp only[fI,ha,if_true]at this;exact⟨r,h1,this⟩
    cases op<;>simp only[]at h
    case eql=>
     obtain⟨r,h1,h2⟩:=key h;exact⟨_,_,h1,B3,by rw[run_eql_struct,h2];rfl⟩
    case neq=>
     obtain⟨r,h1,h2⟩:=key h;exact⟨_,_,h1,B3,by rw[run_neq_struct,h2];rfl⟩
theorem zU{op:BinOp}{t:TypeId}{x y:AV}{u v:Value}{K:AV->Prop}{T:List TY}(hT:BG P T)(hx:Ah C w x mu u)(hy:Ah C w y mu v)(h:NL T op t x y K):
  ∃r z,K r/\Ah C w r mu z/\(binOp op t u v).run P w=.ok z w:=by
 unfold NL at h;split at h
 ·split at h
  ·split at h
   ·rename_i k m k' n hk;obtain⟨rfl,h1⟩:=AA hx;obtain⟨rfl,h2⟩:=AA hy;obtain rfl:=Qi hk;unfold oS at h;cases op<;>simp only[]at h
    case quo=>obtain⟨h0,h⟩:=h;exact⟨_,_,h,B7 (IH _ _),by simp[binOp,Op.intDiv,h0,Wr]⟩
    case rem=>obtain⟨h0,h⟩:=h;exact⟨_,_,h,B7 (uY _ h1),by simp[binOp,Op.intDiv,h0]⟩
    case eql=>exact⟨_,_,h,B3,by simp[binOp,Sf];rfl⟩
    case neq=>exact⟨_,_,h,B3,by simp[binOp,Sf];rfl⟩
    case lss=>exact⟨_,_,h,B3,by simp[binOp,Sf]⟩
    case leq=>exact⟨_,_,h,B3,by simp[binOp,Sf]⟩
    case gtr=>exact⟨_,_,h,B3,by simp[binOp,Sf]⟩
    case geq=>exact⟨_,_,h,B3,by simp[binOp,Sf]⟩
    case add=>exact⟨_,_,h,B7 (IH _ _),by simp[binOp,Uf,Wr]⟩
    case sub=>exact⟨_,_,h,B7 (IH _ _),by simp[binOp,Uf,Wr]⟩
    case mul=>exact⟨_,_,h,B7 (IH _ _),by simp[binOp,Uf,Wr]⟩
    case and=>exact⟨_,_,h,B7 (IH _ _),by simp[binOp,Ut,Wr,RC]⟩
    case or=>exact⟨_,_,h,B7 (IH _ _),by simp[binOp,Ut,Wr,RC]⟩
    case xor=>exact⟨_,_,h,B7 (IH _ _),by simp[binOp,Ut,Wr,RC]⟩
    case andNot=>exact⟨_,_,h,B7 (IH _ _),by simp[binOp,Ut,Wr,RC]⟩
   ·exact h.elim
  ·exact h.elim
 ·split at h;·exact Mc hT (Bg hx) (Bg hy) h
  ·exact Mc hT (Bg hx) (Bi hy) h
  ·exact h.elim
 ·split at h;·exact Mc hT (Bi hx) (Bg hy) h
  ·exact Mc hT (Bi hx) (Bi hy) h
  ·exact h.elim
 ·split at h
  ·obtain⟨rfl,h1⟩:=Bp hx;obtain⟨rfl,h2⟩:=Bp hy;rename_i p _ q;unfold sB at h;cases op<;>simp only[]at h
   case add=>
    obtain⟨h0,h⟩:=h;refine⟨_,_,h,Ss (by simpa using h0),?_⟩
    rw[show binOp .add t (.string ⟨p.toArray⟩) (.string ⟨q.toArray⟩)=LA .add ⟨p.toArray⟩ ⟨q.toArray⟩from by simp[binOp],run_string_add_sum _ _ _ (by simpa[D7]using h0),ByteArray.mk_append_mk]
   case eql=>exact⟨_,_,h,B3,by simp[binOp,LA]⟩
   case neq=>exact⟨_,_,h,B3,by simp[binOp,LA]⟩
   case lss=>exact⟨_,_,h,B3,by simp[binOp,LA]⟩
   case leq=>exact⟨_,_,h,B3,by simp[binOp,LA]⟩
   case gtr=>exact⟨_,_,h,B3,by simp[binOp,LA]⟩
   case geq=>exact⟨_,_,h,B3,by simp[binOp,LA]⟩
  ·exact h.elim
 ·split at h
  ·unfold Ah at hx hy;obtain⟨us,rfl,hx⟩:=hx;obtain⟨vs,rfl,hy⟩:=hy;exact(bU hT hx hy h).2
  ·exact h.elim
 ·exact h.elim
theorem ZcO{op:UnOp}{x:AV}{u:Value}{K:AV->Prop}(hx:Ah C w x mu u)(h:unK op x K):
  ∃r z,K r/\Ah C w r mu z/\(VE op u).run P w=.ok z w:=by
 unfold unK at h;split at h
 ·split at h
  ·obtain⟨rfl,h1⟩:=AA hx;exact⟨_,_,h,B7 (IH _ _),by simp[VE,Uf,Wr]⟩
  ·exact h.elim
 ·split at h
  ·obtain rfl:=Bg hx;exact⟨_,_,h,B3,by simp[VE]⟩
  ·obtain rfl:=Bi hx;split at h;·exact⟨_,_,h,GV,by simp[VE]⟩
   ·exact⟨_,_,h,GV,by simp[VE]⟩
  ·exact h.elim
 ·exact h.elim
theorem add_lit(b o i:Nat):(⟨b,o,none⟩:Addr).add i=⟨b,o+i,none⟩:=by unfold Addr.add;split<;>simp_all
def Reads(w:World)(b o:Nat)(vs:List Value):Prop:=∀i v,vs[i]?=some v->w.cell? ⟨b,o+i,none⟩=some v
theorem LO{t:TypeId}{d:TypeDesc}(h:P.underlying t=some d):(isAgg t).run P w=.ok (AT P t) w:=by
 unfold isAgg AT;rw[Fj,run_underlying h];cases d<;>simp[h]
theorem dQ{T:List TY}(hT:BG P T){t:TypeId}{b o:Nat}{vs:List Value}{cs:List AV}{K:AV->Prop}(hr:Reads w b o vs)(hc:Ab C w cs mu vs)(h:ldK T t cs K):
  ∃r v,K r/\Ah C w r mu v/\(loadVar t ⟨b,o,none⟩).run P w=.ok v w:=by
 unfold ldK at h;replace h:=AL.1 h;obtain⟨y,hy,h⟩:=h
 obtain⟨i,d,hi,hd,rfl⟩:=hT.facts hy;simp only at h;have hlen:=Ap _ hc;have Px:=(AH cs).1 hc;cases ha:AT P t with
 |true=>
  rw[ha]at h;simp only at h;obtain⟨hn,h⟩:=(FK _ _ _).1 h
  have hl:(loadCells ⟨b,o,none⟩ (vs.take i.size).length).run P w=.ok (vs.take i.size).toArray w:=
   run_loadCells_list (P:=P) w ⟨b,o,none⟩ (vs.take i.size) (λj v hv=>by
    rw[add_lit];rw[Ji]at hv;split at hv;·exact hr j v hv
    ·cases hv)
  rw[E0,K0 (by omega)]at hl
  refine⟨_,.agg (vs.take i.size).toArray,h,?_,?_⟩
  ·unfold Ah;refine⟨_,rfl,(AH _).2 ⟨by simp[hlen],λj h1 h2=>?_⟩⟩
   simp only[Qp];exact Px.2 j (by simp at h1;omega) (by simp at h2;omega)
  ·simp[loadVar,LO hd,ha,sizeOf,typeInfo,hi,hl]
 |false=>
  rw[ha]at h;cases cs with
  |nil=>exact h.elim
  |cons c cs=>
   simp only[AV.AJ]at h;cases vs with
   |nil=>simp at hlen
   |cons v vs=>
    have h1:=hr 0 v rfl;have h2:=Px.2 0 (by simp) (by simp)
    simp only[Kf]at h1;exact⟨_,v,h,h2,by simp[loadVar,LO hd,ha,h1]⟩
theorem Cells.mS{cs:List AV}{b o:Nat}(h:Cells C w cs b o):∃vs,Reads w b o vs/\Ab C w cs Mu.none vs/\∀v∈vs,v.oneCell'=true:=by
 induction cs generalizing o with
 |nil=>exact⟨[],λi v hv=>by simp at hv,by unfold Ab;rfl,by simp⟩
 |cons c cs ih=>
  unfold Cells at h;obtain⟨⟨v,h1,h2,h3⟩,h4⟩:=h;obtain⟨vs,h5,h6,h7⟩:=ih h4;refine⟨v::vs,λi u hu=>?_,by unfold Ab;exact⟨v,vs,rfl,h3,h6⟩,by simpa using ⟨h1,h7⟩⟩
  cases i with
  |zero=>simp at hu;subst hu;exact h2.2
  |succ i=>
   have:=h5 i u (by simpa using hu)
   rw[show o+(i+1)=o+1+i by omega];exact this
theorem Ab.up{cs:List AV}{vs:List Value}(h:Ab C w cs Mu.none vs):Ab C w cs mu vs:=Ab.mono (Ext.refl C w) cs (AI.none mu) h
theorem Ab.drop{cs:List AV}{vs:List Value}(h:Ab C w cs mu vs)(n:Nat):Ab C w (cs.drop n) mu (vs.drop n):=by
 obtain⟨h1,h2⟩:=(AH cs).1 h;refine(AH _).2 ⟨by simp[h1],λi h3 h4=>?_⟩
 simp only[Qq];exact h2 (n+i) (by simp at h3;omega) (by simp at h4;omega)
theorem Ab.take{cs:List AV}{vs:List Value}(h:Ab C w cs mu vs)(n:Nat):Ab C w (cs.take n) mu (vs.take n):=by
 obtain⟨h1,h2⟩:=(AH cs).1 h;refine(AH _).2 ⟨by simp[h1],λi h3 h4=>?_⟩
 simp only[Qp];exact h2 i (by simp at h3;omega) (by simp at h4;omega)
theorem Reads.drop{b o:Nat}{vs:List Value}(h:Reads w b o vs)(n:Nat):Reads w b (o+n) (vs.drop n):=λi v hv=>by
 rw[Pl]at hv;rw[show o+n+i=o+(n+i) by omega];exact h _ _ hv
theorem Cells.drop{cs:List AV}{b o:Nat}(h:Cells C w cs b o)(n:Nat):Cells C w (cs.drop n) b (o+n):=by
 rw[B9]at *;intro i hi;have:=h (n+i) (by simp at hi;omega)
 simp only[Qq];rw[show o+n+i=o+(n+i) by omega];exact this
theorem I2{g:Nat}{cur:Array Value}{e:TypeId}{fz:Nat×Nat}(h:w.heap[g]?=some (.cells cur e fz)):Reads w g 0 cur.toList:=λi v hv=>by
 rw[JV,cell_of_row w g i cur e fz h];simpa using hv
theorem YD{T:List TY}(hT:BG P T){e:TypeId}{K:AV->Prop}(h:Iz T e K):∃r z,K r/\Ah C w r mu z/\(zeroValue e).run P w=.ok z w:=by
 unfold Iz at h;replace h:=AL.1 h;obtain⟨y,hy,h⟩:=h
 obtain⟨i,d,hi,hd,rfl⟩:=hT.facts hy;simp only at h;have BW:∀z:Value,Ab C w (z.cells.toList.map qW) mu z.cells.toList:=λz=>(AH _).2 ⟨by simp,λj h3 h4=>by simp only[Rn];exact Su _⟩
 rcases Ju (AT P e) i.zero with h0|⟨z,hz,e1,⟨ha,cs,rfl⟩|⟨ha,hc⟩⟩
 ·rw[h0]at h;cases hb:AT P e<;>rw[hb]at h<;>exact h.elim
 ·rw[ha]at h e1;simp only at h;split at h;·exact h.elim
  ·rename_i z zs oU;rw[<-oU,e1]at h;exact⟨_,.agg cs,h,by unfold Ah;exact⟨cs.toList,rfl,BW (.agg cs)⟩,by simp[zeroValue,typeInfo,hi,hz]⟩
 ·rw[ha]at h e1;simp only at h;rw[e1,hc]at h;simp only[H0,Rr,AV.AJ]at h;exact⟨_,z,h,Su z,by simp[zeroValue,typeInfo,hi,hz]⟩
theorem Ha{sz:Nat}:∀(es:List AV),(∀a∈es,a.cells.length=sz)->∀i e,es[i]?=some e->∃r,(flat es).drop (i*sz)=e.cells++r
 |[],_,i,e,h=>by simp at h
 |a::es,hs,0,e,h=>by simp at h;subst h;exact⟨flat es,by simp[flat]⟩
 |a::es,hs,i+1,e,h=>by
  obtain⟨r,hr⟩:=Ha es (λb hb=>hs b (by simp[hb])) i e (by simpa using h)
  refine⟨r,?_⟩;have e1:flat (a::es)=a.cells++flat es:=by simp[flat]
  rw[e1,Ro,II (by rw[hs a (by simp),E1];omega),hs a (by simp),N0,<-hr]
  congr 1;rw[E1];omega
theorem Bx{sz:Nat}:∀(es:List AV),(∀a∈es,a.cells.length=sz)->(flat es).length=es.length*sz
 |[],_=>by simp[flat]
 |a::es,h=>by
  have e1:flat (a::es)=a.cells++flat es:=by simp[flat]
  rw[e1,C4,Bx es (λb hb=>h b (by simp[hb])),h a (by simp),It,E1];omega
end
section
variable {P:Program}{C:Ae}{w:World}{mu:Mu}{fresh:Nat->Prop}{H:List HO}{T:List TY}
theorem wQ(hh:AU C w fresh mu H){l b n c sz i:Nat}{e:TypeId}{BI:Nat}{es:List AV}{x:AV}(hl:H[l]?=some (.arr e BI es))
  (hm:mu l=some (.arr (.slice (some ⟨b,0,none⟩) n c))) (EI:sz=BI) (hi:es[i]?=some x):
  ∃vs,Reads w b (i*sz) vs/\Ab C w x.cells mu vs:=by
 subst EI;obtain⟨h1,h2⟩:=hh.BM l e sz es hl;rcases h2 with⟨h2,_⟩|⟨b',cap,cur,h3,⟨fz,h4,O3⟩,h5,h6,h7,h8,h9⟩;·rw[hm]at h2;cases h2
 ·rw[hm]at h3;simp only[A7.injEq,GO.arr.injEq,Value.slice.injEq,Addr.mk.injEq]at h3;obtain⟨⟨rfl,_⟩,rfl,rfl⟩:=h3;obtain⟨r,hr⟩:=Ha es h1 i x hi;have h10:=(Ab.mono (Ext.refl C w) _ (xH mu) h8).drop (i*sz);rw[hr]at h10;have h11:=h10.take x.cells.length;rw[XV rfl]at h11;refine⟨_,?_,h11⟩;have hR:=(I2 h4).drop (i*sz);rw[JV]at hR;intro j v hv;refine hR j v ?_;rw[Ji]at hv;split at hv
  ·rw[Pl]at hv ⊢;rw[Ji]at hv;split at hv;·exact hv
   ·cases hv
  ·cases hv
theorem PM(hT:BG P T)(hh:AU C w fresh mu H){t:TypeId}{x:AV}{u:Value}{K:AV->Prop}(hx:Ah C w x mu u)(h:ON T H t x K):
  ∃r v,K r/\Ah C w r mu v/\(Instr.loadAt t u).run P w=.ok v w:=by
 unfold ON at h;split at h
 ·unfold Ah at hx;obtain⟨b,o,rfl,hc⟩:=hx;obtain⟨vs,h1,h2,_⟩:=hc.mS;obtain⟨r,v,h3,h4,h5⟩:=dQ hT h1 h2.up h;exact⟨r,v,h3,h4,by simpa[Instr.loadAt,Instr.sureAddr]using h5⟩
 ·rename_i l o;unfold Ah at hx;obtain⟨b,hm,rfl⟩:=hx;replace h:=AL.1 h;obtain⟨ob,Bh,h⟩:=h
  split at h
  ·rename_i cs;rw[BF]at h;obtain⟨b',cur,e,VD,hb,hr,_⟩:=hh.Cr l cs Bh;rw[hm]at VD;simp only[A7.injEq,GO.CS.injEq]at VD;subst VD;have hR:=(I2 hb).drop o;rw[JV]at hR;obtain⟨r,v,h3,h4,h5⟩:=dQ hT hR (hr.drop o) h;exact⟨r,v,h3,h4,by simpa[Instr.loadAt,Instr.sureAddr]using h5⟩
  ·exact h.elim
 ·rename_i l sz i o;unfold Ah at hx;obtain⟨b,n,c,hm,rfl⟩:=hx;replace h:=AL.1 h;obtain⟨ob,Bh,h⟩:=h
  cases ob with
  |cells _|dead|ghost _ _ _|inv _|map _ _=>exact h.elim
  |arr e BI es=>
   simp only at h;split at h
   ·rename_i EI;obtain⟨a,ha,h⟩:=h;rw[Am,BF]at h;obtain⟨vs,h1,h2⟩:=wQ hh Bh hm (Ak EI) ha;obtain⟨r,v,h3,h4,h5⟩:=dQ hT (h1.drop o) (h2.drop o) h;exact⟨r,v,h3,h4,by simpa[Instr.loadAt,Instr.sureAddr]using h5⟩
   ·exact h.elim
 ·exact h.elim
theorem tA{cs:List AV}{b o:Nat}(h:Cells C w cs b o):Ah C w (.at_ cs) mu (.pointer (some ⟨b,o,none⟩)):=by
 unfold Ah;exact⟨b,o,rfl,h⟩
theorem run_sizeOf{t:TypeId}{n:Nat}(h:FL P t=n)(hp:1<=n):(sizeOf t).run P w=.ok n w:=by
 obtain⟨m,rfl⟩:∃m,n=m+1:=⟨n-1,by omega⟩
 obtain⟨i,d,yP,_,Sg⟩:=KO h;simp[sizeOf,typeInfo,yP,Sg]
theorem Vl(hT:BG P T)(hh:AU C w fresh mu H){t:TypeId}{x i:AV}{u v:Value}{K:AV->Prop}(hx:Ah C w x mu u)(hi:Ah C w i mu v)(h:BS T H t x i K):
  ∃r z,K r/\Ah C w r mu z/\(Instr.indexAt t u v).run P w=.ok z w:=by
 cases x with
 |sl sz es=>
  simp only[BS]at h;replace h:=AL.1 h;obtain⟨y,hy,h⟩:=h
  split at h
  ·rename_i el Bv by' ag hk
   split at h
   ·rename_i hb;simp only[CL]at hb;obtain rfl:=Ak hb.1;have Mx:=C1 hb.2;cases i with
    |int k n=>
     simp only at h;obtain⟨h0,a,ha,h⟩:=h;rw[Am]at h;obtain⟨h1,h2,h3,h4⟩:=hT.slice hy hk;obtain⟨rfl,_⟩:=AA hi;unfold Ah at hx;have AP:n.toNat<es.length:=(D0.1 ha).1;rcases hx with⟨_,rfl⟩|⟨b,o,cap,rfl,h6,h7,h8⟩;·simp at AP
     ·have Zgm:=(DQ es o).1 h8 n.toNat AP;have hav:es[n.toNat]=a:=by rw[F0 AP]at ha;simpa using ha
      rw[hav]at Zgm;refine⟨_,_,h,tA Zgm.2,?_⟩;have hn:(n:Int)<(es.length:Int):=by omega
      simp[Instr.indexAt,asIntOf,run_underlying h1,h0,hn,run_sizeOf h2 Mx,add_lit]
    |_=>exact h.elim
   ·exact h.elim
  ·exact h.elim
 |own l sz lo m=>
  simp only[BS]at h;replace h:=AL.1 h;obtain⟨y,hy,h⟩:=h
  split at h
  ·rename_i el Bv by' ag hk
   replace h:=AL.1 h;obtain⟨ob,Bh,h⟩:=h
   cases ob with
   |cells _|dead|ghost _ _ _|inv _|map _ _=>exact h.elim
   |arr e BI es=>
    simp only at h;split at h
    ·rename_i hb;simp only[CL]at hb;obtain rfl:=Ak hb.1.1;obtain rfl:=Ak hb.2;have Mx:=C1 hb.1.2;cases i with
     |int k n=>
      simp only at h;obtain⟨⟨h0,AP⟩,h⟩:=h;obtain⟨h1,h2,h3,h4⟩:=hT.slice hy hk;obtain⟨rfl,_⟩:=AA hi;unfold Ah at hx;obtain⟨x,hm,hle,_,rfl⟩:=hx;obtain⟨_,h5⟩:=hh.BM l e Bv es Bh;rcases h5 with⟨h5,h6⟩|⟨b,cap,cur,h5,h6,h7,h8,h9,h10⟩
      ·rw[hm]at h5
       simp only[A7.injEq,GO.arr.injEq]at h5
       subst h5
       simp only[C8]at hle
       omega
      ·rw[hm]at h5
       simp only[A7.injEq,GO.arr.injEq]at h5
       subst h5
       refine⟨_,.pointer (some ⟨b,(lo+n.toNat)*Bv+0,none⟩),h,?_,?_⟩
       ·unfold Ah;exact⟨b,_,_,hm,rfl⟩
       ·simp[Instr.indexAt,asIntOf,BO,run_underlying h1,h0,AP,run_sizeOf h2 Mx,add_lit,E1]
     |_=>exact h.elim
    ·exact h.elim
  ·exact h.elim
 |ptr l o=>
  simp only[BS]at h;replace h:=AL.1 h;obtain⟨y,hy,h⟩:=h
  split at h
  ·rename_i m sz ag hk;split at h
   ·rename_i hb;have Mx:=C1 hb;cases i with
    |int k n=>
     simp only at h;obtain⟨⟨h0,AP⟩,h⟩:=h;obtain⟨rfl,_⟩:=AA hi;obtain⟨i',d,_,hd,rfl⟩:=hT.facts hy
     obtain⟨e,rfl,WK⟩:∃e,d=.array m e/\FL P e=sz:=by
      cases d<;>simp[kindOf]at hk
      rename_i m' e;exact⟨e,by rw[hk.1],hk.2.1⟩
     unfold Ah at hx;obtain⟨b,hm,rfl⟩:=hx;refine⟨_,.pointer (some ⟨b,o+n.toNat*sz,none⟩),h,?_,?_⟩;·unfold Ah;exact⟨b,hm,rfl⟩
     ·simp[Instr.indexAt,Instr.sureAddr,asIntOf,run_underlying hd,h0,AP,run_sizeOf WK Mx,add_lit]
    |_=>exact h.elim
   ·exact h.elim
  ·exact h.elim
 |_=>exact h.elim
end
open Go.MapKept
section
variable {P:Program}{C:Ae}{w:World}{mu:Mu}{fresh:Nat->Prop}{H:List HO}{T:List TY}
theorem Vm(hT:BG P T){t:TypeId}{x:AV}{f:Nat}{u:Value}{K:AV->Prop}(hx:Ah C w x mu u)(h:DZ T t x f K):
  ∃r z,K r/\Ah C w r mu z/\(Instr.fieldAt t u f).run P w=.ok z w:=by
 unfold DZ at h;replace h:=AL.1 h;obtain⟨y,hy,h⟩:=h
 split at h
 ·rename_i fs hk;replace h:=AL.1 h;obtain⟨⟨off,size,ag⟩,hf,h⟩:=h
  obtain⟨fields,hu,rfl⟩:=hT.struct hy hk;simp only at h;rw[El]at hf;cases lK:fields.toList[f]? with
  |none=>simp[lK]at hf
  |some fd=>
   simp only[lK,FB,A7.injEq,Prod.mk.injEq]at hf;obtain⟨rfl,EI,_⟩:=hf;have hfa:fields[f]?=some fd:=by simpa using lK
   split at h;·exact h.elim
   ·have hs:=run_sizeOf (P:=P) (w:=w) EI (by omega)
    have key:∀b o,(Instr.fieldAt t (.pointer (some ⟨b,o,none⟩)) f).run P w=.ok (.pointer (some ⟨b,o+fd.offset,none⟩)) w:=λb o=>by
     simp[Instr.fieldAt,run_underlying hu,hfa,Instr.sureAddr,fieldPlace,hs,add_lit]
    cases x with
    |at_ cs=>
     simp only at h;rw[BF]at h;unfold Ah at hx;obtain⟨b,o,rfl,hc⟩:=hx;exact⟨_,_,h,tA (hc.drop _),key b o⟩
    |ptr l o=>
     unfold Ah at hx;obtain⟨b,hm,rfl⟩:=hx;exact⟨_,_,h,by unfold Ah;exact⟨b,hm,rfl⟩,key b o⟩
    |el l sz i o=>
     unfold Ah at hx;obtain⟨b,n,c,hm,rfl⟩:=hx;refine⟨_,_,h,?_,key b _⟩;unfold Ah;exact⟨b,n,c,hm,by rw[Us]⟩
    |raw v=>
     simp only at h;split at h;case h_2=>exact h.elim
     split at h;case h_2=>exact h.elim
     rename_i b o;unfold Ah at hx;subst hx;exact⟨_,_,h,by unfold Ah;rfl,key b o⟩
    |_=>exact h.elim
 ·exact h.elim
theorem nH(hT:BG P T){t:TypeId}{x:AV}{f:Nat}{u:Value}{K:AV->Prop}(hx:Ah C w x mu u)(h:Ls T t x f K):
  ∃r z,K r/\Ah C w r mu z/\(Instr.field t u f).run P w=.ok z w:=by
 unfold Ls at h;replace h:=AL.1 h;obtain⟨y,hy,h⟩:=h
 split at h
 ·rename_i fs hk;replace h:=AL.1 h;obtain⟨⟨off,size,ag⟩,hf,h⟩:=h
  obtain⟨fields,hu,rfl⟩:=hT.struct hy hk;simp only at h;rw[El]at hf;cases lK:fields.toList[f]? with
  |none=>simp[lK]at hf
  |some fd=>
   simp only[lK,FB,A7.injEq,Prod.mk.injEq]at hf;obtain⟨rfl,EI,gR⟩:=hf;have hfa:fields[f]?=some fd:=by simpa using lK
   cases x with
   |agg cs=>
    simp only at h;rw[BF]at h;unfold Ah at hx;obtain⟨vs,rfl,hc⟩:=hx;have Px:=(AH _).1 (hc.drop fd.offset);cases hb:ag with
    |true=>
     simp only[hb]at h;obtain⟨hn,h⟩:=(FK _ _ _).1 h;rw[hb]at gR;refine⟨_,.agg ((vs.drop fd.offset).take size).toArray,h,?_,?_⟩;·unfold Ah;exact⟨_,rfl,(hc.drop _).take _⟩
     ·obtain⟨d,hd⟩:∃d,P.underlying fd.type=some d:=by
       unfold AT at gR;cases hh:P.underlying fd.type with
       |none=>simp[hh]at gR
       |some d=>exact⟨d,rfl⟩
      obtain⟨i,hi⟩:∃i,P.info? fd.type=some i:=by
       unfold Program.underlying at hd;cases hh:P.info? fd.type with
       |none=>simp[hh]at hd
       |some i=>exact⟨i,rfl⟩
      have Sg:i.size=size:=by unfold FL at EI;simp only[hd]at EI;unfold RR at EI;simpa[hi]using EI
      simp[Instr.field,run_underlying hu,hfa,asAgg,part,LO hd,gR,sizeOf,typeInfo,hi,Sg]
    |false=>
     simp only[hb]at h;split at h;·exact h.elim
     rename_i m;obtain⟨i,d,hi,hd,_⟩:=KO EI;cases gM:cs.drop fd.offset with
     |nil=>simp[gM]at h
     |cons c r=>
      simp only[gM,AV.AJ]at h;have hl:0<(cs.drop fd.offset).length:=by rw[gM];simp
      have h2:=Px.2 0 hl (by rw[Px.1];exact hl)
      have gO:(cs.drop fd.offset)[0]=c:=by simp[gM]
      rw[gO]at h2;refine⟨c,_,h,h2,?_⟩;have hlv:fd.offset<vs.length:=by have:=Px.1;rw[Gt,Gt]at this;rw[Gt]at hl;omega
      have hv:vs.toArray[fd.offset]?=some ((vs.drop fd.offset)[0]'(by rw[Px.1];exact hl)):=by
       simp[hlv]
      rw[hb]at gR;have hia:(isAgg fd.type).run P w=.ok false w:=by rw[LO hd,gR]
      simp[Instr.field,run_underlying hu,hfa,asAgg,part,hia,hlv]
   |_=>exact h.elim
 ·exact h.elim
theorem nG(hT:BG P T){t:TypeId}{x i:AV}{u v:Value}{K:AV->Prop}(hx:Ah C w x mu u)(hi:Ah C w i mu v)(h:HA T t x i K):
  ∃r z,K r/\Ah C w r mu z/\(Instr.index t u v).run P w=.ok z w:=by
 cases x with
 |str l=>
  simp only[HA]at h;replace h:=AL.1 h;obtain⟨y,hy,h⟩:=h
  split at h
  ·rename_i hk;cases i with
   |int k n=>
    obtain⟨⟨h0,h1⟩,h⟩:=h;obtain⟨rfl,_⟩:=AA hi;obtain⟨rfl,_⟩:=Bp hx;have hu:=hT.string hy hk;have AP:n.toNat<l.length:=by omega
    refine⟨_,_,h,B7 (uX.2 ⟨by omega,by have:=(l.getD n.toNat 0).toNat_lt;omega⟩),?_⟩
    have hs:(⟨l.toArray⟩:ByteArray)[n.toNat]?=some (l.getD n.toNat 0):=by
     rw[ByteArray.getElem?_lt' _ _ (by rw[D7];exact AP)]
     simp[Z8,F0 AP,ByteArray.getElem_eq_getElem_data]
    simp[Instr.index,asIntOf,run_underlying hu,h0,hs]
   |_=>exact h.elim
  ·exact h.elim
 |agg cs=>
  simp only[HA]at h;replace h:=AL.1 h;obtain⟨y,hy,h⟩:=h
  split at h
  ·rename_i m sz ag hk;split at h
   ·rename_i hb;simp only[CL,Bool.not_eq_true']at hb;have EI:=Ak hb.1;subst EI;have gR:=hb.2;subst gR;cases i with
    |int k n=>
     obtain⟨⟨h0,h1⟩,z,hz,h⟩:=h;obtain⟨rfl,_⟩:=AA hi;obtain⟨i',d,_,hd,rfl⟩:=hT.facts hy
     obtain⟨e,rfl,WK,he2⟩:∃e,d=.array m e/\FL P e=1/\AT P e=false:=by
      cases d<;>simp[kindOf]at hk
      rename_i m' e;exact⟨e,by rw[hk.1],hk.2.1,hk.2.2⟩
     obtain⟨de,hde⟩:∃de,P.underlying e=some de:=by
      unfold FL at WK;split at WK;·rename_i de hde;exact⟨de,hde⟩
      ·cases WK
     unfold Ah at hx;obtain⟨vs,rfl,WG⟩:=hx;obtain⟨hl,hg⟩:=(AH _).1 WG;obtain⟨AP,hze⟩:=D0.1 hz;have gF:n.toNat<vs.length:=by omega
     have hr:=hg n.toNat AP gF;rw[hze]at hr;refine⟨_,vs[n.toNat],h,hr,?_⟩;have hp:=Sz (w:=w) hde WK (by omega) (off:=n.toNat*1) vs (by omega)
     have hm:fI P e ((vs.drop (n.toNat*1)).take 1)=vs[n.toNat]:=by
      unfold fI;rw[he2,Nat.mul_one,Pw gF];rfl
     rw[hm]at hp;have hs:(sizeOf e).run P w=.ok 1 w:=run_sizeOf WK (by omega)
     simp[Instr.index,asIntOf,run_underlying hd,h0,h1,hs];simpa using hp
    |_=>exact h.elim
   ·split at h
    ·rename_i hb;simp only[CL]at hb;obtain⟨⟨rfl,G0⟩,pE⟩:=hb;have Mx:=C1 G0;have HC:=Ak pE;cases i with
     |int k n=>
      obtain⟨⟨h0,h1⟩,h⟩:=h;obtain⟨rfl,_⟩:=AA hi;obtain⟨i',d,_,hd,rfl⟩:=hT.facts hy
      obtain⟨e,rfl,WK,he2⟩:∃e,d=.array m e/\FL P e=sz/\AT P e=true:=by
       cases d<;>simp[kindOf]at hk
       rename_i m' e;exact⟨e,by rw[hk.1],hk.2.1,hk.2.2⟩
      obtain⟨de,hde⟩:∃de,P.underlying e=some de:=by
       unfold FL at WK;split at WK;·rename_i de hde;exact⟨de,hde⟩
       ·omega
      unfold Ah at hx;obtain⟨vs,rfl,WG⟩:=hx;have hl:=Ap _ WG;have hm:(n.toNat+1)*sz<=m*sz:=E4 _ (by omega)
      rw[E1]at hm;have hp:=Sz (w:=w) hde WK (by omega) (off:=n.toNat*sz) vs (by omega)
      have cG:fI P e ((vs.drop (n.toNat*sz)).take sz)=.agg ((vs.drop (n.toNat*sz)).take sz).toArray:=by
       unfold fI;rw[he2];rfl
      rw[cG]at hp;have hs:(sizeOf e).run P w=.ok sz w:=run_sizeOf WK (by omega)
      refine⟨_,.agg ((vs.drop (n.toNat*sz)).take sz).toArray,h,by unfold Ah;exact⟨_,rfl,(WG.drop _).take _⟩,?_⟩
      simp[Instr.index,asIntOf,run_underlying hd,h0,h1,hs];simpa using hp
     |_=>exact h.elim
    ·exact h.elim
  ·exact h.elim
 |_=>exact h.elim
theorem dF{x:Value}{sz lo n:Nat}(h:lo+n<=C8 x):(∃a c,BO x sz lo n=.slice a n c):=by
 unfold C8 at h;split at h;·exact⟨_,_,rfl⟩
 ·rename_i hx;have:n=0:=by omega
  subst this;unfold BO;split;·exact⟨_,_,rfl⟩
  ·exact⟨_,_,rfl⟩
theorem Sq(hT:BG P T){t ty:TypeId}{x:AV}{u:Value}{K:AV->Prop}(hx:Ah C w x mu u)(h:Vu T t x K):
  ∃r z,K r/\Ah C w r mu z/\(MB #[t] ty #[u]).run P w=.ok z w:=by
 unfold Vu at h;replace h:=AL.1 h;obtain⟨y,hy,h⟩:=h
 split at h
 ·rename_i el sz by' ag hk
  obtain⟨hu,_⟩:=hT.slice hy hk;cases x with
  |sl sz es=>
   simp only at h;unfold Ah at hx;rcases hx with⟨⟨ad,rfl⟩,rfl⟩|⟨b,o,cap,rfl,h1,h2,h3⟩;·exact⟨_,_,h,B7 (Ri.2 (by simp)),by simp[MB,run_underlying hu,goInt]⟩
   ·exact⟨_,_,h,B7 (Ri.2 (by omega)),by simp[MB,run_underlying hu,goInt]⟩
  |own l sz lo n=>
   simp only at h;unfold Ah at hx;obtain⟨x,hm,hle,NT,rfl⟩:=hx;obtain⟨a,c,hs⟩:=dF (sz:=sz) hle;exact⟨_,_,h,B7 (Ri.2 (by omega)),by simp[MB,run_underlying hu,goInt,hs]⟩
  |raw v=>
   split at h;·rename_i heq;cases heq
   ·rename_i heq;cases heq
   ·rename_i hv;simp only[AV.raw.injEq]at hv;unfold Ah at hx;subst hx;subst hv;exact⟨_,_,h,B7 (Ri.2 (by omega)),by simp[MB,run_underlying hu,goInt]⟩
   ·exact h.elim
  |_=>exact h.elim
 ·rename_i hk;have hu:=hT.string hy hk;cases x with
  |str l=>
   obtain⟨rfl,hl⟩:=Bp hx;exact⟨_,_,h,B7 (Ri.2 (by omega)),by simp[MB,run_underlying hu,goInt,D7]⟩
  |_=>exact h.elim
 ·exact h.elim
theorem Tf(hT:BG P T){s d:TypeId}{x:AV}{u:Value}{K:AV->Prop}(hx:Ah C w x mu u)(h:Jo T s d x K):
  ∃r z,K r/\Ah C w r mu z/\(convert s d u).run P w=.ok z w:=by
 cases x with
 |int k n=>
  simp only[Jo]at h;replace h:=AL.1 h;obtain⟨y0,yB,h⟩:=h
  replace h:=AL.1 h;obtain⟨y,hy,h⟩:=h
  obtain⟨i,ys,_,hs,_⟩:=hT.facts yB;split at h
  ·rename_i k' hk;have hu:=hT.int hy hk;obtain⟨rfl,_⟩:=AA hx;exact⟨_,_,h,B7 (IH _ _),by simp[convert,run_underlying hs,run_underlying hu,Conv.intToInt,Wr]⟩
  ·rename_i hk;have hu:=hT.string hy hk;obtain⟨rfl,_⟩:=AA hx;obtain⟨⟨h0,h1⟩,h⟩:=h;refine⟨_,_,h,Ss (by simp),?_⟩
   have e:Utf8.encode n=⟨[UInt8.ofNat n.toNat].toArray⟩:=by
    have hv:Utf8.valid n=true:=by simp[Utf8.valid];omega
    unfold Utf8.encode;simp only[hv,if_true];rw[if_pos (by omega)]
   simp[convert,run_underlying hs,run_underlying hu,Conv.intToString,e]
  ·exact h.elim
 |str l=>
  simp only[Jo]at h;replace h:=AL.1 h;obtain⟨y0,yB,h⟩:=h
  replace h:=AL.1 h;obtain⟨y,hy,h⟩:=h
  obtain⟨i,ys,_,hs,_⟩:=hT.facts yB;split at h
  ·rename_i hk;have hu:=hT.string hy hk;have Mw:=hx;obtain⟨rfl,_⟩:=Bp hx;exact⟨_,_,h,Mw,by simp[convert,run_underlying hs,run_underlying hu]⟩
  ·exact h.elim
 |_=>exact h.elim
theorem FQ{isS:Bool}{lo hi:Option AV}{ul uh:Option Value}{len cap:Nat}(hl:∀a,lo=some a->∃v,ul=some v/\Ah C w a mu v)(Bm:lo=none->ul=none)
  (hh:∀a,hi=some a->∃v,uh=some v/\Ah C w a mu v) (hh':hi=none->uh=none) {K:Int->Int->Prop} (h:OE lo 0 λa=>OE hi len λb=>K a b):
  ∃a b:Int,K a b/\(0<=a->a<=b->b<=cap->(Instr.sliceBounds isS len cap ul uh none).run P w=.ok (a.toNat,b.toNat,cap) w):=by
 cases lo with
 |none=>
  cases hi with
  |none=>
   obtain rfl:=Bm rfl;obtain rfl:=hh' rfl;refine⟨0,len,h,λh1 h2 h3=>?_⟩
   simp[Instr.sliceBounds]
  |some a=>
   obtain rfl:=Bm rfl;obtain⟨v,rfl,hr⟩:=hh a rfl;cases a with
   |int k n=>
    obtain⟨rfl,_⟩:=AA hr;refine⟨0,n,h,λh1 h2 h3=>?_⟩
    simp[Instr.sliceBounds,run_sliceBound,h2,h3]
   |_=>simp[OE]at h
 |some a=>
  obtain⟨v,rfl,hr⟩:=hl a rfl;cases a with
  |int k n=>
   obtain⟨rfl,_⟩:=AA hr;cases hi with
   |none=>
    obtain rfl:=hh' rfl;refine⟨n,len,h,λh1 h2 h3=>?_⟩
    simp[Instr.sliceBounds,run_sliceBound,h1,h2]
   |some b=>
    obtain⟨u,rfl,gD⟩:=hh b rfl;cases b with
    |int k2 m=>
     obtain⟨rfl,_⟩:=AA gD;refine⟨n,m,h,λh1 h2 h3=>?_⟩
     have e:(m.toNat:Int)=m:=Int.toNat_of_nonneg (by omega)
     simp[Instr.sliceBounds,run_sliceBound,h1,h2,h3,e,show 0<=m by omega]
    |_=>simp[OE]at h
  |_=>simp[OE]at h
theorem Rows.cut{sz:Nat}{es:List AV}{b o:Nat}(h:Rows C w sz es b o)(i j:Nat):Rows C w sz ((es.take j).drop i) b (o+i*sz):=by
 rw[DQ]at *;intro k hk;have:=h (i+k) (by simp at hk;omega)
 simp only[Qq,Qp];rw[show o+i*sz+k*sz=o+(i+k)*sz by rw[E1];omega];exact this
theorem LN(hT:BG P T){t:TypeId}{x:AV}{u:Value}{lo hi:Option AV}{ul uh:Option Value}{K:AV->Prop}(hx:Ah C w x mu u)
  (hl:∀a,lo=some a->∃v,ul=some v/\Ah C w a mu v) (Bm:lo=none->ul=none)
  (hh:∀a,hi=some a->∃v,uh=some v/\Ah C w a mu v) (hh':hi=none->uh=none) (h:Dy T t x lo hi K):
  ∃r z,K r/\Ah C w r mu z/\(Instr.sliceAt t u ul uh none).run P w=.ok z w:=by
 cases x with
 |str l=>
  simp only[Dy]at h;replace h:=AL.1 h;obtain⟨y,hy,h⟩:=h
  split at h
  ·rename_i hk;have hu:=hT.string hy hk;obtain⟨rfl,hlen⟩:=Bp hx;obtain⟨a,b,⟨⟨h0,h1,h2⟩,h⟩,A0⟩:=FQ (P:=P) (isS:=false) (cap:=l.length) hl Bm hh hh' h;have A0:=A0 h0 h1 h2;refine⟨_,_,h,Ss (by simp;omega),?_⟩
   have he:(⟨l.toArray⟩:ByteArray).extract a.toNat b.toNat=⟨((l.take b.toNat).drop a.toNat).toArray⟩:=by
    rw[ByteArray.extract_mk,X8]
   simp[Instr.sliceAt,Instr.slice,run_underlying hu,D7,A0,he]
  ·exact h.elim
 |sl sz es=>
  simp only[Dy]at h;replace h:=AL.1 h;obtain⟨y,hy,h⟩:=h
  split at h
  ·rename_i el Bv by' ag hk
   split at h
   ·rename_i hb;simp only[CL]at hb;obtain rfl:=Ak hb.1;have Mx:=C1 hb.2;obtain⟨hu,hs,_⟩:=hT.slice hy hk;unfold Ah at hx;rcases hx with⟨⟨ad,rfl⟩,rfl⟩|⟨b,o,cap,rfl,h6,h7,h8⟩
    ·obtain⟨a,b,⟨⟨h0,h1,h2⟩,h⟩,A0⟩:=FQ (P:=P) (isS:=true) (cap:=0) hl Bm hh hh' h;have A0:=A0 h0 h1 h2;simp at h2;obtain rfl:b=0:=by omega
     obtain rfl:a=0:=by omega
     refine⟨_,.slice ad 0 0,h,by unfold Ah;exact .inl ⟨⟨ad,rfl⟩,by simp⟩,?_⟩
     have A0:(Instr.sliceBounds true 0 0 ul uh none).run P w=.ok (0,0,0) w:=A0;cases ad<;>simp[Instr.sliceAt,Instr.slice,run_underlying hu,A0,run_sizeOf hs Mx]
    ·obtain⟨a,b',⟨⟨h0,h1,h2⟩,h⟩,A0⟩:=FQ (P:=P) (isS:=true) (cap:=cap) hl Bm hh hh' h;have A0:=A0 h0 h1 (by omega)
     by_cases hc:cap=a.toNat
     ·have hz:(es.take b'.toNat).drop a.toNat=[]:=by apply II;simp;omega
      refine⟨_,.slice (some ⟨b,o,none⟩) (b'.toNat-a.toNat) (cap-a.toNat),h,?_,?_⟩
      ·unfold Ah;refine .inr ⟨b,o,cap-a.toNat,?_,?_,?_,?_⟩
       ·simp[hz];omega
       ·simp[hz]
       ·omega
       ·rw[hz];unfold Rows;trivial
      ·simp[Instr.sliceAt,Instr.slice,run_underlying hu,A0,run_sizeOf hs Mx,if_pos hc]
     ·refine⟨_,.slice (some ⟨b,o+a.toNat*Bv,none⟩) (b'.toNat-a.toNat) (cap-a.toNat),h,?_,?_⟩
      ·unfold Ah;refine .inr ⟨b,_,cap-a.toNat,?_,?_,?_,h8.cut _ _⟩
       ·simp;omega
       ·simp;omega
       ·omega
      ·simp[Instr.sliceAt,Instr.slice,run_underlying hu,A0,run_sizeOf hs Mx,hc,add_lit]
   ·exact h.elim
  ·exact h.elim
 |own l sz p n=>
  simp only[Dy]at h;replace h:=AL.1 h;obtain⟨y,hy,h⟩:=h
  split at h
  ·rename_i el Bv by' ag hk
   split at h
   ·rename_i hb;simp only[CL]at hb;obtain rfl:=Ak hb.1;have Mx:=C1 hb.2;obtain⟨hu,hs,_⟩:=hT.slice hy hk;unfold Ah at hx;obtain⟨x,hm,hle,NT,rfl⟩:=hx;cases x with
    |slice ad N cap=>
     cases ad with
     |none=>
      simp only[C8]at hle;obtain rfl:n=0:=by omega
      obtain rfl:p=0:=by omega
      obtain⟨a,b,⟨⟨h0,h1,h2,_⟩,h⟩,A0⟩:=FQ (P:=P) (isS:=true) (cap:=0) hl Bm hh hh' h;have A0:=A0 h0 h1 h2;simp at h2;obtain rfl:b=0:=by omega
      obtain rfl:a=0:=by omega
      refine⟨_,.slice none 0 0,h,by unfold Ah;exact⟨_,hm,by simp,NT,by simp[BO]⟩,?_⟩
      have A0:(Instr.sliceBounds true 0 0 ul uh none).run P w=.ok (0,0,0) w:=A0;simp[Instr.sliceAt,Instr.slice,BO,run_underlying hu,A0,run_sizeOf hs Mx]
     |some ad=>
      simp only[C8]at hle NT;simp only[Kk]at NT;obtain⟨a,b,⟨⟨h0,h1,h2,h3⟩,h⟩,A0⟩:=FQ (P:=P) (isS:=true) (cap:=cap-p) hl Bm hh hh' h;have A0:=A0 h0 h1 (by omega)
      refine⟨_,.slice (some ⟨ad.block,ad.off+(p+a.toNat)*Bv,none⟩) (b.toNat-a.toNat) (cap-(p+a.toNat)),h,?_,?_⟩
      ·unfold Ah
       exact⟨_,hm,by simp only[C8];omega,by simp only[C8,Kk];exact NT,by simp[BO]⟩
      ·have e1:cap-(p+a.toNat)=cap-p-a.toNat:=by omega
       have e2:ad.off+(p+a.toNat)*Bv=ad.off+p*Bv+a.toNat*Bv:=by rw[E1];omega
       by_cases hc:cap-p=a.toNat
       ·have ha:a=0:=by
         rcases h3 with h3|h3;·omega
         ·exact h3
        subst ha
        have hc':cap-p=0:=hc
        have A0:(Instr.sliceBounds true n (cap-p) ul uh none).run P w=.ok (0,b.toNat,cap-p) w:=A0
        rw[hc']at A0
        simp[Instr.sliceAt,Instr.slice,BO,run_underlying hu,A0,run_sizeOf hs Mx,hc']
       ·simp[Instr.sliceAt,Instr.slice,BO,run_underlying hu,A0,run_sizeOf hs Mx,hc,add_lit,e1,e2]
    |_=>
     simp only[C8]at hle;obtain rfl:n=0:=by omega
     obtain rfl:p=0:=by omega
     obtain⟨a,b,⟨⟨h0,h1,h2,_⟩,h⟩,A0⟩:=FQ (P:=P) (isS:=true) (cap:=0) hl Bm hh hh' h;have A0:=A0 h0 h1 h2;simp at h2;obtain rfl:b=0:=by omega
     obtain rfl:a=0:=by omega
     refine⟨_,.slice none 0 0,h,by unfold Ah;exact⟨_,hm,by simp,NT,by simp[BO]⟩,?_⟩
     have A0:(Instr.sliceBounds true 0 0 ul uh none).run P w=.ok (0,0,0) w:=A0;simp[Instr.sliceAt,Instr.slice,BO,run_underlying hu,A0,run_sizeOf hs Mx]
   ·exact h.elim
  ·exact h.elim
 |_=>exact h.elim
theorem BG.map{P:Program}{T:List TY}(h:BG P T){t:TypeId}{y:TY}(e:T[t]?=some y){kt vt:Nat}(hk:y.k=.map kt vt):P.underlying t=some (.map kt vt):=by
 obtain⟨i,d,h1,h2,rfl⟩:=h.facts e;cases d<;>simp_all[kindOf]
def xX(d:TypeDesc)(k:AV):Prop:=(d=.string/\∃s,k=.str s)\/∃i n,d=.int i/\k=.int i n
theorem kY(hT:BG P T){t:TypeId}{y:TY}(e:T[t]?=some y){k:AV}(h:kZ y.k k=true):∃d,P.underlying t=some d/\xX d k:=by
 unfold kZ at h;split at h
 ·rename_i hk;split at h;·exact⟨_,hT.string e hk,.inl ⟨rfl,_,rfl⟩⟩
  ·cases h
 ·rename_i i hk;split at h
  ·rename_i j n;obtain rfl:=Qi h;exact⟨_,hT.int e hk,.inr ⟨_,_,rfl,rfl⟩⟩
  ·cases h
 ·cases h
theorem oO{k a:AV}{kv av:Value}(hl:JT k a=true)(hk:Ah C w k mu kv)(ha:Ah C w a Mu.none av){d:TypeDesc}(hd:xX d k):
  Instr.sameNow d kv av=some (OS k a)/\(OS k a=true->a=k/\av=kv):=by
 rcases hd with⟨rfl,s,rfl⟩|⟨i,n,rfl,rfl⟩
 ·unfold JT at hl;simp only at hl;split at hl
  ·rename_i q;obtain⟨rfl,_⟩:=Bp hk;obtain⟨rfl,_⟩:=Bp ha;refine⟨?_,λh=>?_⟩
   ·simp only[Instr.sameNow,OS,A7.injEq];rw[W1,bytes_beq];simp
   ·simp only[OS,beq_iff_eq]at h;subst h;exact⟨rfl,rfl⟩
  ·cases hl
 ·unfold JT at hl;simp only at hl;split at hl
  ·rename_i j m;obtain rfl:=Qi hl;obtain⟨rfl,_⟩:=AA hk;obtain⟨rfl,_⟩:=AA ha;refine⟨?_,λh=>?_⟩
   ·simp only[Instr.sameNow,OS,hl,Yw,if_true,A7.injEq];rfl
   ·simp only[OS,hl,Yw,decide_eq_true_eq]at h;subst h;exact⟨rfl,rfl⟩
  ·cases hl
theorem O9{k:AV}{kv:Value}{d:TypeDesc}(hd:xX d k)(hk:Ah C w k mu kv):∀(ks:List AV)(es:List MapEntry)(i:Nat),(∀a∈ks,JT k a=true)->Ab C w ks Mu.none (es.map MapEntry.key)->
  Instr.findNow d kv es i=some ((Qf k ks).bind λj=>es[j]?.map λe=>(i+j,e.val))/\∀j,Qf k ks=some j->∃e,es[j]?=some e/\e.key=kv/\ks[j]?=some k
 |[],es,i,_,hr=>by
  unfold Ab at hr;have:es=[]:=by simpa using hr
  subst this;exact⟨rfl,λj h=>by cases h⟩
 |a::ks,es,i,hl,hr=>by
  unfold Ab at hr;obtain⟨v,BY,he,h2,h3⟩:=hr;cases es with
  |nil=>cases he
  |cons e es=>
   simp only[H0,List.cons.injEq]at he;obtain⟨rfl,rfl⟩:=he;obtain⟨s1,s2⟩:=oO (hl a (by simp)) hk h2 hd
   obtain⟨f1,f2⟩:=O9 hd hk ks es (i+1) (λb hb=>hl b (by simp[hb])) h3
   unfold Qf;cases hq:OS k a with
   |true=>
    obtain⟨q1,q2⟩:=s2 hq;rw[hq]at s1;exact⟨by simp[Instr.findNow,s1],λj h=>by simp at h;subst h;exact⟨e,by simp,q2,by simp[q1]⟩⟩
   |false=>
    rw[hq]at s1;refine⟨?_,λj h=>?_⟩
    ·simp only[Instr.findNow,s1,f1,cond_false];cases Qf k ks with
     |none=>rfl
     |some j=>simp[Us,Vf 1 j]
    ·cases hm:Qf k ks with
     |none=>simp[hm]at h
     |some j'=>
      simp[hm]at h;subst h;obtain⟨e',g1,g2,g3⟩:=f2 j' hm;exact⟨e',by simpa using g1,g2,by simpa using g3⟩
theorem xX.isKey{d:TypeDesc}{k:AV}(hd:xX d k){v:Value}(hk:Ah C w k mu v):IsKey d v:=by
 rcases hd with⟨rfl,s,rfl⟩|⟨i,n,rfl,rfl⟩;·obtain⟨rfl,_⟩:=Bp hk;simp[IsKey]
 ·obtain⟨rfl,_⟩:=AA hk;simp[IsKey]
theorem ZI(hh:AU C w fresh mu H){x:AV}{u:Value}(hx:Ah C w x mu u){K:List AV->List AV->Prop}(h:Nx H x K):
  ∃ks vs es,K ks vs/\Ab C w ks Mu.none (es.toList.map MapEntry.key)/\Ab C w vs Mu.none (es.toList.map MapEntry.val)/\((u=.map none/\es=#[])\/∃b clock,u=.map (some b)/\w.heap[b]?=some (.map es clock)):=by
 unfold Nx at h;split at h
 ·unfold Ah at hx;rcases hx with⟨h1,rfl,rfl⟩|⟨b,es,clock,h1,h2,h3,h4,h5⟩;·exact⟨_,_,#[],h,by unfold Ab;rfl,by unfold Ab;rfl,.inl ⟨h1,rfl⟩⟩
  ·exact⟨_,_,es,h,h4,h5.1,.inr ⟨b,clock,h1,h3⟩⟩
 ·rename_i l;replace h:=AL.1 h;obtain⟨ob,Bh,h⟩:=h
  cases ob<;>first|exact h.elim|skip
  rename_i ks vs;obtain⟨b,es,clock,h1,h2,h3⟩:=hh.maps l ks vs Bh;unfold Ah at hx;obtain⟨b',h4,h5⟩:=hx;rw[h1]at h4;simp only[A7.injEq,GO.CS.injEq]at h4;subst h4;exact⟨_,_,es,h,(h3.2 _ _).1,(h3.2 _ _).2,.inr ⟨b,clock,h5,h2⟩⟩
 ·exact h.elim
theorem dP(hT:BG P T)(hh:AU C w fresh mu H){t:TypeId}{x k:AV}{ok:Bool}{u kv:Value}{K:AV->Prop}(hx:Ah C w x mu u)(hk:Ah C w k mu kv)(h:Ic T H t x k ok K):
  ∃r z,K r/\Ah C w r mu z/\(Instr.lookup t u kv ok).run P w=.ok z w:=by
 unfold Ic at h;replace h:=AL.1 h;obtain⟨y,hy,h⟩:=h
 split at h
 ·rename_i kt vt XU;have hu:=hT.map hy XU;replace h:=AL.1 h;obtain⟨yk,Zdg,h⟩:=h
  split at h
  ·rename_i hko;obtain⟨d,hd,rB⟩:=kY hT Zdg hko;obtain⟨ks,vs,es,⟨hl,hn,hs⟩,hks,WG,cI⟩:=ZI hh hx h;obtain⟨f1,f2⟩:=O9 rB hk ks es.toList 0 hl hks;have vX:(Instr.checkKey es.isEmpty 10000 kt kv).run P w=.ok () w:=run_checkKey (P:=P) (w:=w) hd (rB.isKey hk) es.isEmpty 9999;have Sh:=run_findKey (w:=w) hd f1
   have A0:(Instr.lookup t u kv ok).run P w=((do
     let (v,ok') <-match <-Instr.findKey kt kv es.toList with
      |some (_,v)=>pure (v,true)
      |none=>pure (<-zeroValue vt,false)
     pure (if ok then Value.tuple #[v,.bool ok']else v):Sem Value)).run P w:=by
    rcases cI with⟨rfl,rfl⟩|⟨b,clock,rfl,hb⟩
    ·simp only[Instr.lookup,Fj,run_underlying hu,E8,KF];rw[vX];rfl
    ·simp only[Instr.lookup,Fj,run_underlying hu,E8,Go.MapKept.run_getObj_map hb,KF];rw[vX];rfl
   have NU:=Ap _ hks;have XW:=Ap _ WG;simp only[O0]at NU XW;cases hm:Qf k ks with
   |none=>
    rw[hm]at Sh;simp only[Vz]at Sh;have hn:=hn (by simp[Qg,hm])
    obtain⟨r,z,h1,h2,h3⟩:=YD (C:=C) (w:=w) (mu:=mu) hT hn;cases ok with
    |true=>exact⟨_,.tuple #[z,.bool false],h1,by unfold Ah;exact⟨[z,.bool false],rfl,by unfold Ab;exact⟨_,_,rfl,h2,by unfold Ab;exact⟨_,_,rfl,GV,by unfold Ab;rfl⟩⟩⟩,by rw[A0];simp[Sh,h3]⟩
    |false=>exact⟨_,z,(AV.AJ _ _).1 h1,h2,by rw[A0];simp[Sh,h3]⟩
   |some j=>
    rw[hm]at Sh;obtain⟨e,g1,g2,g3⟩:=f2 j hm;have Va:j<es.toList.length:=(D0.1 g1).1;simp only[VA,g1,FB]at Sh;have hvj:j<vs.length:=by omega
    have h1:=hs vs[j] (by simp[Qg,hm,hvj])
    have h2:=((AH _).1 WG).2 j hvj (by simp;omega)
    have hej:(es.toList.map MapEntry.val)[j]'(by simp;omega)=e.val:=by
     rw[Rn];have:=(D0.1 g1).2;rw[this]
    rw[hej]at h2;have h2:=Ah.mono (Ext.refl _ _) _ (AI.none mu) h2;cases ok with
    |true=>exact⟨_,.tuple #[e.val,.bool true],h1,by unfold Ah;exact⟨[e.val,.bool true],rfl,by unfold Ab;exact⟨_,_,rfl,h2,by unfold Ab;exact⟨_,_,rfl,GV,by unfold Ab;rfl⟩⟩⟩,by rw[A0];simp[Sh]⟩
    |false=>exact⟨_,e.val,h1,h2,by rw[A0];simp[Sh]⟩
  ·exact h.elim
 ·exact h.elim
end
section
variable {P:Program}{C:Ae}{w:World}{mu:Mu}{fresh:Nat->Prop}{H:List HO}{T:List TY}
theorem iZ{op:BinOp}{t:TypeId}{xo yo:Operand}{x y:AV}{u v:Value}{K:AV->Prop}(hT:BG P T)(hx:Ah C w x mu u)(hy:Ah C w y mu v)(h:NL T op t x y K):
  (eqGuard op t xo yo u v).run P w=.ok () w:=by
 unfold NL at h;split at h
 ·obtain⟨rfl,_⟩:=AA hx;unfold eqGuard;split<;>simp
 ·obtain rfl:=Bg hx;unfold eqGuard;split<;>simp
 ·obtain rfl:=Bi hx;unfold eqGuard;split<;>simp
 ·obtain⟨rfl,_⟩:=Bp hx;unfold eqGuard;split<;>simp
 ·split at h
  ·unfold Ah at hx hy;obtain⟨us,rfl,hx⟩:=hx;obtain⟨vs,rfl,hy⟩:=hy;exact run_eqGuard_agg w op t xo yo _ _ (bU hT hx hy h).1
  ·exact h.elim
 ·exact h.elim
theorem Zd5(d:Nat)(t:TypeId){ms:Array (String×TypeId)}(h:P.underlying t=some (.interface ms)):(HQ (d+1) t .nilIface .nilIface).run P w=.ok true w:=by
 simp[HQ,run_underlying h]
theorem Zd6(d:Nat)(t u:TypeId)(x:Value){ms:Array (String×TypeId)}(h:P.underlying t=some (.interface ms)):(HQ (d+1) t .nilIface (.iface u x)).run P w=.ok false w:=by
 simp[HQ,run_underlying h]
theorem Zd7(d:Nat)(t u:TypeId)(x:Value){ms:Array (String×TypeId)}(h:P.underlying t=some (.interface ms)):(HQ (d+1) t (.iface u x) .nilIface).run P w=.ok false w:=by
 simp[HQ,run_underlying h]
theorem iD{op:BinOp}{t:TypeId}{c:Value}{y:Operand}:(eqGuard op t (.const c) y .nilIface .nilIface).run P w=.ok () w:=by
 cases op<;>simp[eqGuard]
theorem iC{op:BinOp}{t:TypeId}{c:Value}{x:Operand}:(eqGuard op t x (.const c) .nilIface .nilIface).run P w=.ok () w:=by
 cases op<;>cases x<;>simp[eqGuard]
theorem Zd8{op:BinOp}{t u:TypeId}{c:Value}{x y:Operand}:(eqGuard op t x y .nilIface (.iface u c)).run P w=.ok () w:=by
 cases op<;>simp[eqGuard]
theorem Zd9{op:BinOp}{t u:TypeId}{c:Value}{x y:Operand}:(eqGuard op t x y (.iface u c) .nilIface).run P w=.ok () w:=by
 cases op<;>simp[eqGuard]
theorem Xl{op:BinOp}{t:TypeId}{u v:Value}{r:Bool}{K:AV->Prop}(hT:BG P T)(h:Z2 T op t r K)(hn:∀(d:Nat)(ms:Array (String×TypeId)),P.underlying t=some (.interface ms)->(HQ (d+1) t u v).run P w=.ok r w)
  (he:binOp .eql t u v=(do pure (.bool (<-Yv t u v)))) (vU:binOp .neq t u v=(do pure (.bool (!(<-Yv t u v))))):
  ∃r z,K r/\Ah C w r mu z/\(binOp op t u v).run P w=.ok z w:=by
 unfold Z2 at h;replace h:=AL.1 h;obtain⟨y,hy,h⟩:=h
 obtain⟨i,d,hi,hd,Vw⟩:=hT.facts hy;subst Vw;simp only at h;cases d<;>first|exact h.elim|skip
 rename_i ms;have hq:(Yv t u v).run P w=.ok r w:=hn 9999 ms hd;simp only[kindOf]at h;cases op<;>simp only[]at h<;>first|exact h.elim|skip
 ·rw[he];cases r with
  |true=>exact⟨_,_,h,(by unfold Ah;rfl:Ah C w (.lit true) mu (.bool true)),by simp only[Fj,hq];rfl⟩
  |false=>exact⟨_,_,h,(by unfold Ah;rfl:Ah C w (.lit false) mu (.bool false)),by simp only[Fj,hq];rfl⟩
 ·rw[vU];cases r with
  |true=>exact⟨_,_,h,(by unfold Ah;rfl:Ah C w (.lit false) mu (.bool false)),by simp only[Fj,hq];rfl⟩
  |false=>exact⟨_,_,h,(by unfold Ah;rfl:Ah C w (.lit true) mu (.bool true)),by simp only[Fj,hq];rfl⟩
theorem zS{op:BinOp}{t:TypeId}{xo yo:Operand}{x y:AV}{u v:Value}{c:Bool}{K:AV->Prop}(hT:BG P T)(hx:Ah C w x mu u)(hy:Ah C w y mu v)(hc:c=true->ZaE xo=true\/ZaE yo=true)(h:oD T op t x y c K):
  (eqGuard op t xo yo u v).run P w=.ok () w/\∃r z,K r/\Ah C w r mu z/\(binOp op t u v).run P w=.ok z w:=by
 unfold oD at h;split at h
 ·split at h
  ·split at h
   ·unfold Ah at hx hy;obtain⟨y',rfl,_⟩:=hx;subst hy;exact⟨Zd9,Xl hT h (λd ms My=>Zd7 d _ _ _ My) rfl rfl⟩
   ·exact h.elim
  ·exact h.elim
 ·split at h
  ·split at h
   ·split at h
    ·split at h
     ·unfold Ah at hx hy;subst hx;subst hy
      refine⟨?_,Xl hT h (λd ms My=>Zd5 d _ My) rfl rfl⟩
      rcases hc rfl with k|k;·cases xo<;>first|exact iD|cases k
      ·cases yo<;>first|exact iC|cases k
     ·exact h.elim
    ·exact h.elim
   ·unfold Ah at hx hy;obtain⟨y',rfl,_⟩:=hy;subst hx;exact⟨Zd8,Xl hT h (λd ms My=>Zd6 d _ _ _ My) rfl rfl⟩
   ·exact h.elim
  ·exact h.elim
 ·exact⟨iZ hT hx hy h,zU hT hx hy h⟩
theorem zT{ts:Array TypeId}{ty:TypeId}{x y:AV}{u v:Value}{K:AV->Prop}(hx:Ah C w x mu u)(hy:Ah C w y mu v)(h:fJ x y K):∃r z,K r/\Ah C w r mu z/\(Z9 ts ty #[u,v]).run P w=.ok z w:=by
 cases x<;>first|exact h.elim|skip
 rename_i k m;cases y<;>first|exact h.elim|skip
 rename_i k' n;simp only[fJ]at h;split at h
 ·rename_i hk;obtain rfl:=Qi hk;obtain⟨rfl,h1⟩:=AA hx;obtain⟨rfl,h2⟩:=AA hy;have e:(if n<m then n else m)=min m n:=by omega
  refine⟨_,_,h,B7 ?_,by simp[Z9,Builtin.min2,<-e]⟩
  rcases Int.le_total m n with q|q;·rw[Int.min_eq_left q];exact h1
  ·rw[Int.min_eq_right q];exact h2
 ·exact h.elim
theorem L1{E:List AV}{a:Act}(he:Ab C w E mu a.tmps.toList):∀(l:List Operand),Ab C w (l.map (AM E)) mu (l.map a.eval)
 |[]=>by simp[Ab]
 |o::l=>by simp only[H0];unfold Ab;exact⟨_,_,rfl,AX he o,L1 he l⟩
theorem Np(hT:BG P T)(hh:AU C w fresh mu H){E:List AV}{a:Act}(he:Ab C w E mu a.tmps.toList){o:Oper}{K:AV->Prop}(h:Bj T E H o.op K):
  ∃r v,K r/\Ah C w r mu v/\(execOp a.eval o).run P w=.ok (.value v) w:=by
 have ev:=λo=>AX he o
 unfold Bj at h;unfold execOp;split at h;case h_1 x ho=>rw[Ac]at h;exact⟨_,_,h,ev x,by simp[ho]⟩
 case h_2 x ho=>rw[Ac]at h;exact⟨_,_,h,ev x,by simp[ho]⟩
 case h_3 c x y ho=>
  rw[Ac]at h;have hc:=ev c;split at h
  ·rename_i t hb;rw[hb]at hc;have hc:=Bi hc;cases t with
   |true=>simp only at h;rw[Ac]at h;exact⟨_,_,h,ev x,by simp[ho,hc,asBool]⟩
   |false=>simp only at h;rw[Ac]at h;exact⟨_,_,h,ev y,by simp[ho,hc,asBool]⟩
  ·exact h.elim
 case h_4 op t x y ty ho=>
  rw[Ac,Ac]at h;obtain⟨h0,r,z,h1,h2,h3⟩:=zS (xo:=x) (yo:=y) hT (ev x) (ev y) (λhc=>by simpa using hc) h
  exact⟨r,z,h1,h2,by simp[ho,h3,h0]⟩
 case h_5 op t x ho=>
  rw[Ac]at h;obtain⟨r,z,h1,h2,h3⟩:=ZcO (P:=P) (ev x) h;exact⟨r,z,h1,h2,by simp[ho,h3]⟩
 case h_6 t x ho=>
  rw[Ac]at h;obtain⟨r,z,h1,h2,h3⟩:=PM hT hh (ev x) h;exact⟨r,z,h1,h2,by simp[ho,h3]⟩
 case h_7 t x f ho=>
  rw[Ac]at h;obtain⟨r,z,h1,h2,h3⟩:=Vm hT (ev x) h;exact⟨r,z,h1,h2,by simp[ho,h3]⟩
 case h_8 t x f ho=>
  rw[Ac]at h;obtain⟨r,z,h1,h2,h3⟩:=nH hT (ev x) h;exact⟨r,z,h1,h2,by simp[ho,h3]⟩
 case h_9 t x i ho=>
  rw[Ac,Ac]at h;obtain⟨r,z,h1,h2,h3⟩:=Vl hT hh (ev x) (ev i) h;exact⟨r,z,h1,h2,by simp[ho,h3]⟩
 case h_10 t x i ho=>
  rw[Ac,Ac]at h;obtain⟨r,z,h1,h2,h3⟩:=nG hT (ev x) (ev i) h;exact⟨r,z,h1,h2,by simp[ho,h3]⟩
 case h_11 s d x ho=>
  rw[Ac]at h;obtain⟨r,z,h1,h2,h3⟩:=Tf hT (ev x) h;exact⟨r,z,h1,h2,by simp[ho,h3]⟩
 case h_12 x i ho=>
  rw[Ac]at h;have hx:=ev x;split at h
  ·rename_i vs hb;rw[hb]at hx;replace h:=AL.1 h;obtain⟨v,hv,h⟩:=h
   rw[AV.AJ]at h;unfold Ah at hx;obtain⟨us,hu,hr⟩:=hx;obtain⟨hl,hg⟩:=(AH _).1 hr;obtain⟨hi,U9⟩:=D0.1 hv;have:=hg i hi (by omega)
   rw[U9]at this;exact⟨v,_,h,this,by simp[ho,hu,Instr.extract,show i<us.length by omega]⟩
  ·exact h.elim
 case h_13 x ho=>
  rw[Ac]at h;have hx:=ev x;generalize pC:AM E x=ex at h hx;cases ex with
  |at_ cs=>
   have Mw:=hx;unfold Ah at hx;obtain⟨b,o,hp,_⟩:=hx
   exact⟨_,_,h,Mw,by simp[ho,hp]⟩
  |ptr l o=>
   have Mw:=hx;unfold Ah at hx;obtain⟨b,_,hp⟩:=hx
   exact⟨_,_,h,Mw,by simp[ho,hp]⟩
  |el l sz i o=>
   have Mw:=hx;unfold Ah at hx;obtain⟨b,_,_,_,hp⟩:=hx
   exact⟨_,_,h,Mw,by simp[ho,hp]⟩
  |fn f cap=>
   have Mw:=hx;unfold Ah at hx;obtain⟨vs,hp,_⟩:=hx
   exact⟨_,_,h,Mw,by simp[ho,hp]⟩
  |mv f cap=>
   have Mw:=hx;unfold Ah at hx;obtain⟨vs,hp,_⟩:=hx
   exact⟨_,_,h,Mw,by simp[ho,hp]⟩
  |raw v=>
   simp only at h;split at h;case h_2=>exact h.elim
   split at h;case h_2=>exact h.elim
   have Mw:=hx;unfold Ah at hx;exact⟨_,_,h,Mw,by simp[ho,hx]⟩
  |_=>exact h.elim
 case h_14 fn first cap ho=>
  split at h
  ·rename_i f;split at h
   ·rename_i hf;rw[C7 (De E) (AM E) (Ac E)]at h
    have h1:first=#[]:=by
     cases first;simp_all
    subst h1;refine⟨_,.func (.func f) #[] (cap.toList.map a.eval).toArray,h,?_,?_⟩;·unfold Ah;exact⟨_,rfl,L1 he _⟩
    ·cases cap;simp[ho,Instr.makeFunc]
   ·split at h
    ·rename_i hc;rw[C7 (De E) (AM E) (Ac E)]at h
     have h1:cap=#[]:=by
      cases cap;simp_all
     subst h1;refine⟨_,.func (.func f) (first.toList.map a.eval).toArray #[],h,?_,?_⟩
     ·unfold Ah;exact⟨_,rfl,L1 he _⟩
     ·cases first;simp[ho,Instr.makeFunc]
    ·exact h.elim
  ·exact h.elim
 case h_15 t x ho=>
  rw[Ac]at h;replace h:=AL.1 h;obtain⟨y,hy,h⟩:=h
  obtain⟨i,d,hi,hd,rfl⟩:=hT.facts hy;refine⟨.iface t (AM E x),.iface t (a.eval x),?_,by unfold Ah;exact⟨_,rfl,ev x⟩,?_⟩
  ·split at h;·exact h.elim
   ·exact h
  ·have:∀ms,d≠.interface ms:=by
    intro ms hm;subst hm;simp[kindOf]at h
   cases d<;>simp_all[Instr.makeInterface,run_underlying hd]
 case h_16 t x lo hi mx ho=>
  split at h
  ·rw[Ac]at h
   have ev':∀(o:Operand)(a':AV),(some (AM E o))=some a'->∃v,some (a.eval o)=some v/\Ah C w a' mu v:=λo a' e=>by
    simp only[A7.injEq]at e;subst e;exact⟨_,rfl,ev o⟩
   cases lo with
   |none=>
    cases hi with
    |none=>
     obtain⟨r,z,h1,h2,h3⟩:=LN (ul:=none) (uh:=none) hT (ev x) (by simp) (by simp) (by simp) (by simp) h
     exact⟨r,z,h1,h2,by simp[ho,h3]⟩
    |some q=>
     simp only at h;rw[Ac]at h;obtain⟨r,z,h1,h2,h3⟩:=LN (ul:=none) (uh:=some (a.eval q)) hT (ev x) (by simp) (by simp) (ev' q) (by simp) h
     exact⟨r,z,h1,h2,by simp[ho,h3]⟩
   |some p=>
    cases hi with
    |none=>
     simp only at h;rw[Ac]at h;obtain⟨r,z,h1,h2,h3⟩:=LN (ul:=some (a.eval p)) (uh:=none) hT (ev x) (ev' p) (by simp) (by simp) (by simp) h
     exact⟨r,z,h1,h2,by simp[ho,h3]⟩
    |some q=>
     simp only at h;rw[Ac,Ac]at h;obtain⟨r,z,h1,h2,h3⟩:=LN (ul:=some (a.eval p)) (uh:=some (a.eval q)) hT (ev x) (ev' p) (by simp) (ev' q) (by simp) h
     exact⟨r,z,h1,h2,by simp[ho,h3]⟩
  ·exact h.elim
 case h_17 c ho=>
  split at h
  ·rename_i hc;split at h
   ·rename_i x hx;split at h
    ·rename_i t ht;rw[Ac]at h;obtain⟨cK,args,Jt⟩:=c;simp only at hc hx ht;subst hc;obtain rfl:args=#[x]:=by cases args;simp_all
     obtain rfl:Jt=#[t]:=by cases Jt;simp_all
     obtain⟨r,z,h1,h2,h3⟩:=Sq (ty:=o.type) hT (ev x) h;exact⟨r,z,h1,h2,by simp[ho,resolve,invoke,builtin,h3]⟩
    ·exact h.elim
   ·exact h.elim
  ·rename_i hc;split at h
   ·rename_i x y hx;rw[Ac,Ac]at h;obtain⟨cK,args,Jt⟩:=c;simp only at hc hx;subst hc;obtain rfl:args=#[x,y]:=by cases args;simp_all
    obtain⟨r,z,h1,h2,h3⟩:=zT (P:=P) (w:=w) (ts:=Jt) (ty:=o.type) (ev x) (ev y) h;exact⟨r,z,h1,h2,by simp[ho,resolve,invoke,builtin,h3]⟩
   ·exact h.elim
  ·exact h.elim
 case h_18 t x i ok ho=>
  rw[Ac,Ac]at h;obtain⟨r,z,h1,h2,h3⟩:=dP hT hh (ev x) (ev i) h;exact⟨r,z,h1,h2,by simp[ho,h3]⟩
 case h_19=>exact h.elim
end
def YB(s:Option Nat)(H:List HO)(ob:HO)(K:List HO->Nat->Prop):Prop:=
 match s with
 |none=>Y0 H ob K
 |some n=>Cm H n λo=>match o with|.dead=>FI H n ob λH'=>K H' n|_=>False
structure Al(H:List HO)(n:Nat)(H':List HO)(ob:HO):Prop where
 len:H.length<=H'.length
 lt:n<H'.length
 get:H'[n]?=some ob
 other:∀i,i≠n->H'[i]?=H[i]?
 free:H[n]?=none\/H[n]?=some .dead
theorem QM{s:Option Nat}{H:List HO}{ob:HO}{K:List HO->Nat->Prop}(h:YB s H ob K):∃H' n,Al H n H' ob/\K H' n:=by
 unfold YB at h;split at h
 ·rw[LK]at h;refine⟨_,_,⟨by simp,by simp,by simp,λi hi=>?_,.inl (by simp)⟩,h⟩
  rw[SG];split;·rfl
  ·rw[MA (by simp;omega),MA (by omega)]
 ·rename_i n;replace h:=AL.1 h;obtain⟨o,ho,h⟩:=h
  split at h
  ·rw[AG]at h;have hl:=(D0.1 ho).1;exact⟨_,n,⟨by simp,by simpa using hl,by simp[hl],λi hi=>C3 (Ne.symm hi),.inr ho⟩,h⟩
  ·exact h.elim
section
variable {G:Cx}{C:Ae}{w:World}{mu:Mu}{H:List HO}{E:List AV}{a:Act}
def Mu.set(mu:Mu)(l:Nat)(g:Option GO):Mu:=λi=>if i=l then g else mu i
theorem Mu.As(mu:Mu)(l:Nat)(g:Option GO):mu.set l g l=g:=by simp[Mu.set]
theorem Mu.Ay(mu:Mu){l i:Nat}(g:Option GO)(h:i≠l):mu.set l g i=mu i:=by simp[Mu.set,h]
theorem OJ{mu:Mu}{l:Nat}(g:Option GO)(h:mu l=none):AI mu (mu.set l g):=λi x e=>by
 by_cases hi:i=l;·subst hi;rw[h]at e;cases e
 ·rw[Mu.Ay _ _ hi];exact e
theorem D2{mu mu':Mu}(h:∀l b,mu l=some (.CS b)->mu' l=some (.CS b)):AI (Bc mu) (Bc mu'):=λl g e=>by
 unfold Bc at*;split at e;·rename_i b hb;rw[h l b hb];exact e
 ·cases e
theorem Jm(AP:∀b o,C b o->b<w.heap.size)(o:Obj):Ext C C w (w.alloc o):=
 ⟨λ_ _ h=>h,λb i hc=>heap_alloc_old _ _ (AP b i hc)⟩
theorem HG:Ext C C w w.drew:=⟨λ_ _ h=>h,λ_ _ _=>rfl⟩
theorem F3{g:Nat}(hg:∀o,¬C g o)(cs:Array Value):Ext C C w (w.setRow g cs):=
 ⟨λ_ _ h=>h,λb i hc=>setRow_other _ _ _ _ (by rintro rfl;exact hg _ hc)⟩
theorem KC.alloc(h:KC G w)(o:Obj):KC G (w.alloc o):=
 ⟨h.os,h.tape,h.output,by simp;have:=h.size;omega,λk hk hm=>(heap_alloc_old w o (by have:=h.size;omega)).trans (h.block k hk hm)⟩
theorem KC.drew(h:KC G w):KC G w.drew:=⟨h.os,h.tape,h.output,h.size,h.block⟩
theorem KC.setRow(h:KC G w){g:Nat}(hg:G.fresh g)(cs:Array Value):KC G (w.setRow g cs):=
 ⟨h.os,h.tape,h.output,by simp;exact h.size,λk hk hm=>by
  rw[setRow_other]
  ·exact h.block k hk hm
  ·intro e;subst e;rcases hg with hg|hg
   ·omega
   ·exact hm hg⟩
@[simp] def HO.real:HO->Bool
 |.cells _|.arr _ _ _|.map _ _=>true
 |_=>false
theorem HO.Wm{ob:HO}(h:ob.real=true):ob≠.dead:=by rintro rfl;cases h
theorem HO.Tq{ob:HO}(h:ob.real=true){cs vs ms}:ob≠.ghost cs vs ms:=by rintro rfl;cases h
theorem HO.Zj{ob:HO}(h:ob.real=true){I}:ob≠.inv I:=by rintro rfl;cases h
theorem CG.step{C C':Ae}{w w':World}{fr:Nat->Prop}{mu mu':Mu}{D:Nat×Obj}(h:CG C w fr mu D)
  (hw:NP (λb=>b<w.heap.size/\∀l g,mu l=some g->g.Aq≠some b) w w')
  (hm:∀l g b,mu' l=some g->g.Aq=some b->(∃l' g',mu l'=some g'/\g'.Aq=some b)\/w.heap.size<=b)
  (hc:∀b o,C' b o->C b o\/w.heap.size<=b\/∃l g,mu l=some g/\g.Aq=some b):CG C' w' fr mu' D:=by
 have AP:=(Kw.1 h.at_).1;refine⟨by rw[hw.block D.1 ⟨AP,h.own⟩];exact h.at_,λo vY=>?_,λl g hl hg=>?_,h.fr⟩
 ·rcases hc D.1 o vY with k|k|⟨l',g',k1,k2⟩;·exact h.KA o k
  ·omega
  ·exact h.own l' g' k1 k2
 ·rcases hm l g D.1 hl hg with⟨l',g',k1,k2⟩|k;·exact h.own l' g' k1 k2
  ·omega
theorem BE.step{C C':Ae}{w w':World}{mu mu':Mu}{H H':List HO}{ds:List (Nat×Obj)}{fr:Nat->Prop}(h:BE C w fr mu H ds)
  (hw:NP (λb=>b<w.heap.size/\∀l g,mu l=some g->g.Aq≠some b) w w')
  (hm:∀l g b,mu' l=some g->g.Aq=some b->(∃l' g',mu l'=some g'/\g'.Aq=some b)\/w.heap.size<=b)
  (hc:∀b o,C' b o->C b o\/w.heap.size<=b\/∃l g,mu l=some g/\g.Aq=some b)
  (hH:∀(l:Nat) cs vs ms,H'[l]?=some (.ghost cs vs ms)->∃Fy,H[l]?=some (.ghost Fy vs ms)/\(Ab C w Fy mu vs->Ab C' w' cs mu' vs))
  (hI:∀(l:Nat) I,H'[l]?=some (.inv I)->H[l]?=some (.inv I)):BE C' w' fr mu' H' ds:=by
 refine⟨λl cs vs ms hl=>?_,λl I hl=>?_,λd hd=>(h.marks d hd).step hw hm hc,h.nd,λl l' cs vs ms cs' BY DE hl Bm Bq=>?_⟩
 ·obtain⟨Fy,h1,h2⟩:=hH l cs vs ms hl;obtain⟨h3,h5,h4⟩:=h.Bl l Fy vs ms h1;exact⟨h2 h3,h5,λd hd=>⟨(h4 d hd).1.step hw hm hc,(h4 d hd).2⟩⟩
 ·obtain⟨h0,Sw,Sr,h1,h2,h3,h4⟩:=h.Hz l I (hI l I hl);refine⟨h0,Sw,Sr,⟨h1.fr,KG h1.base hw.size,λb o vY=>?_,λl g b hl hg=>?_,h1.sub,λb hb=>Nat.lt_of_lt_of_le (h1.lt b hb) hw.size,λb hb l g hl hg=>?_,λb o hb vY=>?_⟩,I.Ta Sw Sr w w' h2 ⟨hw.os,hw.tape,hw.output,hw.size,λb hb=>hw.block b ⟨h1.lt b hb,h1.own b hb⟩⟩,h3,λl cs vs ms hl D hD=>?_⟩
  ·rcases hc b o vY with k|k|⟨l',g',k1,k2⟩;·exact h1.cb b o k
   ·exact .inr (KG h1.base k)
   ·exact .inr (h1.ob l' g' b k1 k2)
  ·rcases hm l g b hl hg with⟨l',g',k1,k2⟩|k;·exact h1.ob l' g' b k1 k2
   ·exact KG h1.base k
  ·rcases hm l g b hl hg with⟨l',g',k1,k2⟩|k;·exact h1.own b hb l' g' k1 k2
   ·exact absurd (h1.lt b hb) (by omega)
  ·rcases hc b o vY with k|k|⟨l',g',k1,k2⟩;·exact h1.KA b o hb k
   ·exact absurd (h1.lt b (h1.sub b hb)) (by omega)
   ·exact h1.own b (h1.sub b hb) l' g' k1 k2
  ·obtain⟨Fy,k1,_⟩:=hH l cs vs ms hl;exact h4 l Fy vs ms k1 D hD
 ·obtain⟨Fy,k1,_⟩:=hH l cs vs ms hl;obtain⟨cs1,k2,_⟩:=hH l' cs' BY DE Bm;exact h.sep l l' Fy vs ms cs1 BY DE k1 k2 Bq
theorem Hk{S:Nat->Prop}(hS:∀b,S b->b<w.heap.size)(o:Obj):NP S w (w.alloc o):=⟨rfl,rfl,rfl,by simp,λb hb=>heap_alloc_old w o (hS b hb)⟩
theorem QU{S:Nat->Prop}{g:Nat}(hS:¬S g)(cs:Array Value):NP S w (w.setRow g cs):=⟨rfl,rfl,rfl,by simp,λb hb=>setRow_other _ _ _ _ (λe=>hS (by subst e;exact hb))⟩
theorem Az.drew(h:Az G C mu E H a w):Az G C mu E H a w.drew:=
 ⟨h.c0,h.c1,h.lt,⟨h.heap.Is,h.heap.fresh,h.heap.sep,h.heap.dead,
  λl cs hl=>let ⟨b,cur,e,h1,h2,h3,h4⟩:=h.heap.Cr l cs hl;⟨b,cur,e,h1,h2,Ab.mono HG _ (AI.refl _) h3,h4⟩,
  λl e sz es hl=>let ⟨h1,h2⟩:=h.heap.BM l e sz es hl
   ⟨h1,h2.imp id λ⟨b,cap,cur,k1,k2,k3,k4,k5,k6,k7⟩=>⟨b,cap,cur,k1,k2,k3,k4,k5,Ab.mono HG _ (AI.refl _) k6,k7⟩⟩,h.heap.maps⟩,
  Ab.mono HG _ (AI.refl _) h.env,
  let ⟨ms,k1,k2⟩:=h.defers
  ⟨ms,k1,k2.step ⟨rfl,rfl,rfl,Qx _,λ_ _=>rfl⟩ (λl g b hm hb=>.inl ⟨l,g,hm,hb⟩) (λ_ _ h=>.inl h) (λl cs vs ms hl=>⟨cs,hl,Ab.mono HG _ (AI.refl _)⟩) (λ_ _ h=>h)⟩,h.Ax.drew,h.Ds⟩
theorem Az.frame(h:Az G C mu E H a w){E':List AV}{a':Act}(he:Ab C w E' mu a'.tmps.toList)(hd:a'.defers=a.defers):Az G C mu E' H a' w:=
 ⟨h.c0,h.c1,h.lt,h.heap,he,by rw[hd];exact h.defers,h.Ax,h.Ds⟩
theorem Az.alloc(h:Az G C mu E H a w)(o:Obj)(ob:HO){n:Nat}{H':List HO}(Eg:Al H n H' ob)(g:GO)(hg:∀b,g.Aq=some b->b=w.heap.size)(hd:ob.real=true)
  (gN:∀cs,ob=.cells cs->∃cur e,g=.CS w.heap.size/\o=.cells cur e (0,0)/\Ab C w cs mu cur.toList/\∀v∈cur.toList,v.oneCell'=true)
  (ME:∀e sz es,ob=.arr e sz es->(∀a∈es,a.cells.length=sz)/\∃cap cur,g=.arr (.slice (some ⟨w.heap.size,0,none⟩) es.length cap)/\
   (∃fz,o=.cells cur e fz/\VN cur fz)/\es.length<=cap/\cap<=9223372036854775807/\cur.size=cap*sz/\Ab C w (flat es) (Bc mu) (cur.toList.take (es.length*sz))/\∀v∈cur.toList,v.oneCell'=true)
  (ZjA:∀ks vs,ob=.map ks vs->∃es clock,g=.CS w.heap.size/\o=.map es clock/\Zei ks vs es.toList clock:=by simp):
  Az G C (mu.set n (some g)) E H' a (w.alloc o):=by
 have Ul:mu n=none:=by
  rcases Eg.free with hf|hf
  ·cases hm:mu n with
   |none=>rfl
   |some x=>exact absurd (h.heap.Is _ _ hm) (by have:=Pz.1 hf;omega)
  ·exact h.heap.dead n hf
 have hle:=OJ (mu:=mu) (l:=n) (some g) Ul;have hx:=Jm (C:=C) (w:=w) h.lt o;have KB:∀{g':GO}{l b},mu l=some g'->g'.Aq=some b->b<w.heap.size:=λhm hb=>(h.heap.fresh _ _ _ hm hb).2.1
 have hblk:AI (Bc mu) (Bc (mu.set n (some g))):=D2 λl b e=>hle l _ e
 refine⟨h.c0,h.c1,λb o hc=>by have:=h.lt b o hc;simp;omega,⟨?_,?_,?_,?_,?_,?_,?_⟩,Ab.mono hx _ hle h.env,?_,h.Ax.alloc o,KG h.Ds.1 Eg.len,λi b hn hi=>hle i _ (h.Ds.2 i b hn hi)⟩
 rotate_right
 ·obtain⟨ms,k1,k2⟩:=h.defers;refine⟨ms,k1,k2.step (Hk (λb hb=>hb.1) o) (λl g' b hm hb=>?_) (λ_ _ h=>.inl h) (λl cs vs ms hl=>?_) (λl I hl=>?_)⟩
  ·by_cases e:l=n
   ·subst e;rw[Mu.As]at hm;simp only[A7.injEq]at hm;subst hm;exact .inr (Nat.le_of_eq (hg b hb).symm)
   ·rw[Mu.Ay _ _ e]at hm;exact .inl ⟨l,g',hm,hb⟩
  ·by_cases e:l=n;·subst e;rw[Eg.get]at hl;simp only[A7.injEq]at hl;exact absurd hl (HO.Tq hd)
   ·rw[Eg.other l e]at hl;exact⟨cs,hl,Ab.mono hx _ hle⟩
  ·by_cases e:l=n;·subst e;rw[Eg.get]at hl;simp only[A7.injEq]at hl;exact absurd hl (HO.Zj hd)
   ·rw[Eg.other l e]at hl;exact hl
 ·intro l x hl;by_cases e:l=n;·subst e;exact Eg.lt
  ·rw[Mu.Ay _ _ e]at hl;have:=h.heap.Is _ _ hl;have:=Eg.len;omega
 ·intro l x b hl hb;by_cases e:l=n
  ·subst e;rw[Mu.As]at hl;simp only[A7.injEq]at hl;subst hl;obtain rfl:=hg b hb;exact⟨.inl h.Ax.size,by simp,λo hc=>absurd (h.lt _ _ hc) (by omega)⟩
  ·rw[Mu.Ay _ _ e]at hl;obtain⟨k1,k2,k3⟩:=h.heap.fresh _ _ _ hl hb;exact⟨k1,by simp;omega,k3⟩
 ·intro l x b l' x' hl hb Bm MC;by_cases e:l=n
  ·by_cases e':l'=n;·omega
   ·exfalso;subst e;rw[Mu.As]at hl;simp only[A7.injEq]at hl;subst hl;obtain rfl:=hg b hb;rw[Mu.Ay _ _ e']at Bm;have:=KB Bm MC;omega
  ·rw[Mu.Ay _ _ e]at hl;by_cases e':l'=n
   ·exfalso;subst e';rw[Mu.As]at Bm;simp only[A7.injEq]at Bm;subst Bm;obtain rfl:=hg b MC;have:=KB hl hb;omega
   ·rw[Mu.Ay _ _ e']at Bm;exact h.heap.sep _ _ _ _ _ hl hb Bm MC
 ·intro l hl;by_cases e:l=n;·subst e;rw[Eg.get]at hl;simp only[A7.injEq]at hl;exact absurd hl (HO.Wm hd)
  ·rw[Eg.other l e]at hl;rw[Mu.Ay _ _ e];exact h.heap.dead l hl
 ·intro l cs hl;by_cases e:l=n
  ·subst e;rw[Eg.get]at hl;simp only[A7.injEq]at hl;obtain⟨cur,e,rfl,rfl,k1,k2⟩:=gN cs hl;exact⟨_,cur,e,Mu.As _ _ _,heap_alloc_new _ _,Ab.mono hx _ hle k1,k2⟩
  ·rw[Eg.other l e]at hl;obtain⟨b,cur,e,h1,h2,h3,h4⟩:=h.heap.Cr l cs hl;exact⟨b,cur,e,hle _ _ h1,by rw[heap_alloc_old _ _ (KB h1 rfl)];exact h2,Ab.mono hx _ hle h3,h4⟩
 ·intro l e sz es hl;by_cases e':l=n
  ·subst e';rw[Eg.get]at hl;simp only[A7.injEq]at hl;obtain⟨k0,cap,cur,rfl,⟨fz,rfl,O3⟩,k3,k4,k5,k6,k7⟩:=ME e sz es hl;exact⟨k0,.inr ⟨_,cap,cur,Mu.As _ _ _,⟨fz,heap_alloc_new _ _,O3⟩,k3,k4,k5,Ab.mono hx _ hblk k6,k7⟩⟩
  ·rw[Eg.other l e']at hl;obtain⟨h1,h2⟩:=h.heap.BM l e sz es hl;refine⟨h1,h2.imp (λ⟨k1,k2⟩=>⟨hle _ _ k1,k2⟩) λ⟨b,cap,cur,k1,k2,k3,k4,k5,k6,k7⟩=>⟨b,cap,cur,hle _ _ k1,?_,k3,k4,k5,Ab.mono hx _ hblk k6,k7⟩⟩
   exact k2.of_eq (heap_alloc_old _ _ (KB k1 rfl))
 ·intro l ks vs hl;by_cases e':l=n
  ·subst e';rw[Eg.get]at hl;simp only[A7.injEq]at hl;obtain⟨es,clock,rfl,rfl,k1⟩:=ZjA ks vs hl;exact⟨_,es,clock,Mu.As _ _ _,heap_alloc_new _ _,k1⟩
  ·rw[Eg.other l e']at hl;obtain⟨b,es,clock,h1,h2,h3⟩:=h.heap.maps l ks vs hl;exact⟨b,es,clock,hle _ _ h1,by rw[heap_alloc_old _ _ (KB h1 rfl)];exact h2,h3⟩
theorem Az.write(h:Az G C mu E H a w){l b:Nat}{g:GO}(hm:mu l=some g)(hb:g.Aq=some b){GW new:Array Value}{e0:TypeId}{fz:Nat×Nat}(hold:w.heap[b]?=some (.cells GW e0 fz))(ob:HO)
  {g':GO} (SD:g'.Aq=some b) (hblk:∀k,g=.CS k->g'=.CS k) (Zg1:∀k,g'=.CS k->g=.CS k) {E':List AV} (hE:Ab C (w.setRow b new) E' (mu.set l (some g')) a.tmps.toList)
  (H':List HO) (oX:ob.real=true) (hH':∀i,i≠l->(H'[i]?=some .dead->H[i]?=some .dead)/\(∀cs,H'[i]?=some (.cells cs)->∃Fy,H[i]?=some (.cells Fy)/\∀vs,Ab C w Fy mu vs->Ab C w cs (mu.set l (some g')) vs)/\(∀e sz es,H'[i]?=some (.arr e sz es)->H[i]?=some (.arr e sz es))/\
   (∀cs vs ms,H'[i]?=some (.ghost cs vs ms)->∃Fy,H[i]?=some (.ghost Fy vs ms)/\∀vs,Ab C w Fy mu vs->Ab C w cs (mu.set l (some g')) vs)/\(∀I,H'[i]?=some (.inv I)->H[i]?=some (.inv I)))
  (hlen:H'.length=H.length) (Bh:H'[l]?=some ob)
  (gN:∀cs,ob=.cells cs->g'=.CS b/\Ab C w cs mu new.toList/\∀v∈new.toList,v.oneCell'=true)
  (ME:∀e sz es,ob=.arr e sz es->(∀a∈es,a.cells.length=sz)/\∃cap,g'=.arr (.slice (some ⟨b,0,none⟩) es.length cap)/\
   e=e0/\es.length<=cap/\cap<=9223372036854775807/\new.size=cap*sz/\Ab C w (flat es) (Bc mu) (new.toList.take (es.length*sz))/\∀v∈new.toList,v.oneCell'=true)
  (ZgA:∀i,i≠l->∀ks vs,H'[i]?=some (.map ks vs)->H[i]?=some (.map ks vs)) (hnm:∀ks vs,ob≠.map ks vs:=by simp)
  (O3:(∀cs,ob=.cells cs->fz=(0,0))/\∀e sz es,ob=.arr e sz es->VN new fz:=by exact⟨λ_ _=>rfl,λ_ _ _ h=>by cases h⟩):
  Az G C (mu.set l (some g')) E' H' a (w.setRow b new):=by
 obtain⟨f1,f2,f3⟩:=h.heap.fresh _ _ _ hm hb;have hx:=F3 (w:=w) f3 new
 have hbm:AI (Bc mu) (Bc (mu.set l (some g'))):=D2 λi k e=>by
  by_cases hi:i=l;·subst hi;rw[hm]at e;simp only[A7.injEq]at e;rw[Mu.As,hblk k e]
  ·rw[Mu.Ay _ _ hi];exact e
 have Bq:∀{i x k},i≠l->mu i=some x->x.Aq=some k->k≠b:=λhi hxx hk e=>by
  subst e;exact hi (h.heap.sep _ _ _ _ _ hm hb hxx hk)
 refine⟨h.c0,h.c1,λb o hc=>by simp;exact h.lt b o hc,⟨?_,?_,?_,?_,?_,?_,?_⟩,hE,?_,h.Ax.setRow f1 new,by rw[hlen];exact h.Ds.1,λi k hn hi=>by
  have hp:=h.Ds.2 i k hn hi;by_cases e:i=l
  ·subst e;rw[hm]at hp;rw[Mu.As,hblk k (A7.inj hp)]
  ·rw[Mu.Ay _ _ e];exact hp⟩
 rotate_right
 ·obtain⟨ms,k1,k2⟩:=h.defers;refine⟨ms,k1,k2.step (QU (λhs=>hs.2 _ _ hm hb) new) (λi x k hi hk=>?_) (λ_ _ h=>.inl h) (λi cs vs ms hi=>?_) (λi I hi=>?_)⟩
  ·by_cases e:i=l
   ·subst e;rw[Mu.As]at hi;simp only[A7.injEq]at hi;subst hi;rw[SD]at hk;exact .inl ⟨_,_,hm,hb.trans hk⟩
   ·rw[Mu.Ay _ _ e]at hi;exact .inl ⟨i,x,hi,hk⟩
  ·by_cases e:i=l;·subst e;rw[Bh]at hi;simp only[A7.injEq]at hi;exact absurd hi (HO.Tq oX)
   ·obtain⟨Fy,k1,k2⟩:=(hH' i e).2.2.2.1 cs vs ms hi;exact⟨Fy,k1,λk=>Ab.mono hx _ (AI.refl _) (k2 vs k)⟩
  ·by_cases e:i=l;·subst e;rw[Bh]at hi;simp only[A7.injEq]at hi;exact absurd hi (HO.Zj oX)
   ·exact(hH' i e).2.2.2.2 I hi
 ·intro i x hi;by_cases e:i=l;·subst e;rw[hlen];exact h.heap.Is _ _ hm
  ·rw[Mu.Ay _ _ e]at hi;rw[hlen];exact h.heap.Is _ _ hi
 ·intro i x k hi hk;by_cases e:i=l
  ·subst e;rw[Mu.As]at hi;simp only[A7.injEq]at hi;subst hi
   rw[SD]at hk;simp only[A7.injEq]at hk;subst hk
   exact⟨f1,by simp;exact f2,f3⟩
  ·rw[Mu.Ay _ _ e]at hi;obtain⟨k1,k2,k3⟩:=h.heap.fresh _ _ _ hi hk;exact⟨k1,by simp;exact k2,k3⟩
 ·intro i x k i' x' hi hk Fk HB;by_cases e:i=l
  ·subst e;rw[Mu.As]at hi;simp only[A7.injEq]at hi;subst hi
   rw[SD]at hk;simp only[A7.injEq]at hk;subst hk
   by_cases e':i'=i;·exact e'
   ·rw[Mu.Ay _ _ e']at Fk;exact absurd rfl (Bq e' Fk HB)
  ·rw[Mu.Ay _ _ e]at hi;by_cases e':i'=l
   ·subst e';rw[Mu.As]at Fk;simp only[A7.injEq]at Fk;subst Fk
    rw[SD]at HB;simp only[A7.injEq]at HB;subst HB
    exact absurd rfl (Bq e hi hk)
   ·rw[Mu.Ay _ _ e']at Fk;exact h.heap.sep _ _ _ _ _ hi hk Fk HB
 ·intro i hi;by_cases e:i=l;·subst e;rw[Bh]at hi;simp only[A7.injEq]at hi;exact absurd hi (HO.Wm oX)
  ·rw[Mu.Ay _ _ e];exact h.heap.dead i ((hH' i e).1 hi)
 ·intro i cs hi;by_cases e:i=l
  ·subst e;rw[Bh]at hi;simp only[A7.injEq]at hi;obtain⟨k1,k2,k3⟩:=gN cs hi;have hf0:=O3.1 cs hi;subst hf0;subst k1;refine⟨b,new,e0,Mu.As _ _ _,setRow_heap _ _ _ _ _ _ hold,Ab.mono hx _ ?_ k2,k3⟩;intro j x hj;by_cases e:j=i
   ·subst e;rw[Mu.As];cases g with
    |CS k=>simp only[GO.Aq,A7.injEq]at hb;subst hb;rw[hm]at hj;exact hj
    |arr v=>
     exact absurd (Zg1 b rfl) (by simp)
   ·rw[Mu.Ay _ _ e];exact hj
  ·obtain⟨Fy,k1,k2⟩:=(hH' i e).2.1 cs hi;obtain⟨b',cur,e',h1,h2,h3,h4⟩:=h.heap.Cr i Fy k1;refine⟨b',cur,e',by rw[Mu.Ay _ _ e];exact h1,?_,Ab.mono hx _ (AI.refl _) (k2 _ h3),h4⟩
   rw[setRow_other _ _ _ _ (Bq e h1 rfl)];exact h2
 ·intro i e' sz es hi;by_cases e:i=l
  ·subst e;rw[Bh]at hi;simp only[A7.injEq]at hi;obtain⟨k0,cap,rfl,rfl,k1,k2,k3,k4,k5⟩:=ME e' sz es hi;exact⟨k0,.inr ⟨b,cap,new,Mu.As _ _ _,⟨fz,setRow_heap _ _ _ _ _ _ hold,O3.2 _ _ _ hi⟩,k1,k2,k3,Ab.mono hx _ hbm k4,k5⟩⟩
  ·obtain⟨h1,h2⟩:=h.heap.BM i e' sz es ((hH' i e).2.2.1 _ _ _ hi);refine⟨h1,h2.imp (λ⟨k1,k2⟩=>⟨by rw[Mu.Ay _ _ e];exact k1,k2⟩) λ⟨b',cap,cur,k1,k2,k3,k4,k5,k6,k7⟩=>⟨b',cap,cur,by rw[Mu.Ay _ _ e];exact k1,?_,k3,k4,k5,Ab.mono hx _ hbm k6,k7⟩⟩
   exact k2.of_eq (setRow_other _ _ _ _ (Bq e k1 rfl))
 ·intro i ks vs hi;by_cases e:i=l
  ·subst e;rw[Bh]at hi;simp only[A7.injEq]at hi;exact absurd hi (hnm ks vs)
  ·obtain⟨b',es,clock,h1,h2,h3⟩:=h.heap.maps i ks vs (ZgA i e ks vs hi);exact⟨b',es,clock,by rw[Mu.Ay _ _ e];exact h1,by rw[setRow_other _ _ _ _ (Bq e h1 rfl)];exact h2,h3⟩
theorem iA{g:Nat}(hg:∀o,¬C g o){rE:Array MapEntry}{c0:Nat}(hold:w.heap[g]?=some (.map rE c0))(es:Array MapEntry)(cl:Nat):Ext C C w (w.putObj g (.map es cl)):=
 ⟨λ_ _ h=>h,λb i hc=>G1 (by rintro rfl;exact hg _ hc)⟩
theorem Y9{S:Nat->Prop}{g:Nat}(hS:¬S g)(o:Obj):NP S w (w.putObj g o):=
 ⟨rfl,rfl,rfl,by simp[World.putObj],λb hb=>G1 (λe=>hS (by subst e;exact hb))⟩
theorem KC.putObj(h:KC G w){g:Nat}(hg:G.fresh g)(o:Obj):KC G (w.putObj g o):=
 ⟨h.os,h.tape,h.output,by simp[World.putObj];exact h.size,λk hk hm=>by
  rw[G1]
  ·exact h.block k hk hm
  ·intro e;subst e;rcases hg with hg|hg
   ·omega
   ·exact hm hg⟩
theorem Az.Tt(h:Az G C mu E H a w){l b:Nat}(hm:mu l=some (.CS b)){rE:Array MapEntry}{c0:Nat}(hold:w.heap[b]?=some (.map rE c0)){ks0 qT:List AV}(hl:H[l]?=some (.map ks0 qT))
  {es:Array MapEntry} {cl:Nat} {ks vs:List AV} (hr:Zei ks vs es.toList cl):Az G C mu E (H.set l (.map ks vs)) a (w.putObj b (.map es cl)):=by
 obtain⟨f1,f2,f3⟩:=h.heap.fresh _ _ _ hm rfl;have hx:=iA f3 hold es cl;have AP:l<H.length:=(D0.1 hl).1
 have Bq:∀{i x k},i≠l->mu i=some x->x.Aq=some k->k≠b:=λhi hxx hk e=>by
  subst e;exact hi (h.heap.sep _ _ _ _ _ hm rfl hxx hk)
 have Qo:∀i,i≠l->(H.set l (.map ks vs))[i]?=H[i]?:=λi hi=>C3 (Ne.symm hi)
 have CM:(H.set l (.map ks vs))[l]?=some (.map ks vs):=by simp[AP]
 refine⟨h.c0,h.c1,λb o hc=>by simp[World.putObj];exact h.lt b o hc,⟨λi x hi=>by simpa using h.heap.Is i x hi,λi x k hi hk=>?_,h.heap.sep,λi hi=>?_,λi cs hi=>?_,λi e sz es hi=>?_,λi ks' BY hi=>?_⟩,
  Ab.mono hx _ (AI.refl _) h.env,?_,h.Ax.putObj f1 _,by simpa using h.Ds.1,h.Ds.2⟩
 rotate_right
 ·obtain⟨ms,k1,k2⟩:=h.defers;refine⟨ms,k1,k2.step (Y9 (λhs=>hs.2 _ _ hm rfl) _) (λi x k hi hk=>.inl ⟨i,x,hi,hk⟩) (λ_ _ h=>.inl h) (λi cs vs ms hi=>?_) (λi I hi=>?_)⟩
  ·by_cases e:i=l;·subst e;rw[CM]at hi;cases hi
   ·rw[Qo i e]at hi;exact⟨cs,hi,Ab.mono hx _ (AI.refl _)⟩
  ·by_cases e:i=l;·subst e;rw[CM]at hi;cases hi
   ·rw[Qo i e]at hi;exact hi
 ·obtain⟨k1,k2,k3⟩:=h.heap.fresh i x k hi hk;exact⟨k1,by simp[World.putObj];exact k2,k3⟩
 ·by_cases e:i=l;·subst e;rw[CM]at hi;cases hi
  ·rw[Qo i e]at hi;exact h.heap.dead i hi
 ·by_cases e:i=l;·subst e;rw[CM]at hi;cases hi
  ·rw[Qo i e]at hi;obtain⟨b',cur,e',h1,h2,h3,h4⟩:=h.heap.Cr i cs hi;exact⟨b',cur,e',h1,by rw[G1 (Bq e h1 rfl)];exact h2,Ab.mono hx _ (AI.refl _) h3,h4⟩
 ·by_cases e':i=l;·subst e';rw[CM]at hi;cases hi
  ·rw[Qo i e']at hi;obtain⟨h1,h2⟩:=h.heap.BM i e sz es hi;refine⟨h1,h2.imp id λ⟨b',cap,cur,k1,k2,k3,k4,k5,k6,k7⟩=>⟨b',cap,cur,k1,?_,k3,k4,k5,Ab.mono hx _ (AI.refl _) k6,k7⟩⟩
   exact k2.of_eq (G1 (Bq e' k1 rfl))
 ·by_cases e:i=l
  ·subst e;rw[CM]at hi;simp only[A7.injEq,HO.map.injEq]at hi;obtain⟨rfl,rfl⟩:=hi;exact⟨b,es,cl,hm,World.putObj_heap_same f2,hr⟩
  ·rw[Qo i e]at hi;obtain⟨b',Cg,cl',h1,h2,h3⟩:=h.heap.maps i ks' BY hi;exact⟨b',Cg,cl',h1,by rw[G1 (Bq e h1 rfl)];exact h2,h3⟩
end
def Dr:AV->Bool
 |.any=>false
 |.raw v=>v.oneCell'
 |.agg _|.tuple _=>false
 |_=>true
mutual
def Fe:AV->Bool
 |.own _ _ _ _|.el _ _ _ _=>false
 |.fn _ cap|.mv _ cap=>Lc cap
 |.iface _ x=>Fe x
 |.agg cs=>Lc cs
 |.tuple vs=>Lc vs
 |_=>true
def Lc:List AV->Bool
 |[]=>true
 |a::as=>Fe a&&Lc as
end
mutual
def closed:AV->Bool
 |.own _ _ _ _|.el _ _ _ _|.ptr _ _|.om _=>false
 |.fn _ cap|.mv _ cap=>An cap
 |.iface _ x=>closed x
 |.agg cs=>An cs
 |.tuple vs=>An vs
 |_=>true
def An:List AV->Bool
 |[]=>true
 |a::as=>closed a&&An as
end
mutual
def BN:AV->Bool
 |.int _ _|.bool _|.lit _|.str _|.raw _|.any=>true
 |.fn _ cap|.mv _ cap=>CJ cap
 |.iface _ x=>BN x
 |.agg cs=>CJ cs
 |.tuple vs=>CJ vs
 |_=>false
def CJ:List AV->Bool
 |[]=>true
 |a::as=>BN a&&CJ as
end
mutual
def Co(l:Nat):AV->AV
 |.own k sz lo n=>match E2 k l with|true=>.any|false=>.own k sz lo n
 |.el k sz i o=>match E2 k l with|true=>.any|false=>.el k sz i o
 |.fn f cap=>.fn f (BK l cap)
 |.mv f cap=>.mv f (BK l cap)
 |.iface t x=>.iface t (Co l x)
 |.agg cs=>.agg (BK l cs)
 |.tuple vs=>.tuple (BK l vs)
 |a=>a
def BK(l:Nat):List AV->List AV
 |[]=>[]
 |a::as=>Co l a::BK l as
end
def JB(l:Nat):List AV->(List AV->Prop)->Prop
 |[],K=>K []
 |a::as,K=>(Co l a).force λb=>JB l as λbs=>K (b::bs)
def Di(l:Nat):List HO->(List HO->Prop)->Prop
 |[],K=>K []
 |.cells cs::r,K=>JB l cs λcs=>Di l r λr=>K (.cells cs::r)
 |.arr e sz es::r,K=>Di l r λr=>K (.arr e sz es::r)
 |.dead::r,K=>Di l r λr=>K (.dead::r)
 |.ghost cs vs ms::r,K=>JB l cs λcs=>Di l r λr=>K (.ghost cs vs ms::r)
 |.inv I::r,K=>Di l r λr=>K (.inv I::r)
 |.map ks vs::r,K=>Di l r λr=>K (.map ks vs::r)
def Bd(l:Nat):HO->HO
 |.cells cs=>.cells (BK l cs)
 |.ghost cs vs ms=>.ghost (BK l cs) vs ms
 |o=>o
theorem FO(l:Nat):∀(as:List AV)(K:List AV->Prop),JB l as K↔K (BK l as)
 |[],_=>by simp[JB,BK]
 |a::as,K=>by simp[JB,BK,AV.AJ,FO l as]
theorem DP(l:Nat):∀(os:List HO)(K:List HO->Prop),Di l os K↔K (os.map (Bd l))
 |[],_=>by simp[Di]
 |.cells cs::r,K=>by simp[Di,Bd,FO,DP l r]
 |.arr e sz es::r,K|.dead::r,K=>by simp[Di,Bd,DP l r]
 |.ghost cs vs ms::r,K=>by simp[Di,Bd,FO,DP l r]
 |.inv I::r,K|.map ks vs::r,K=>by simp[Di,Bd,DP l r]
abbrev KK:=List AV->List HO->Prop
def Gc(T:List TY)(e:TypeId)(K:AV->Prop):Prop:=
 Cm T e λy=>match y.agg with
  |true=>K (.agg y.zero)
  |false=>match y.zero with|[z]=>z.force K|_=>False
def Yk(E:List AV)(x:Operand)(K:HO->(Nat->AV)->Prop):Prop:=
 De E x λv=>DB v λcs=>match cs.all Dr with
  |true=>K (.cells cs) λl=>.ptr l 0
  |false=>False
def J4(T:List TY)(t:TypeId)(K:HO->(Nat->AV)->Prop):Prop:=
 Cm T t λy=>match y.zero.all Dr&&E2 y.zero.length y.size&&HM 1 y.size with
  |true=>K (.cells y.zero) λl=>.ptr l 0
  |false=>False
def Zef(s:Option Nat)(E:List AV)(H:List HO)(x:Operand)(K:AV->KK):Prop:=Yk E x λob f=>YB s H ob λH' l=>K (f l) E H'
def NN(s:Option Nat)(T:List TY)(E:List AV)(H:List HO)(t:TypeId)(K:AV->KK):Prop:=J4 T t λob f=>YB s H ob λH' l=>K (f l) E H'
def Cj(T:List TY)(E:List AV)(H:List HO)(t:TypeId)(ad x:Operand)(K:AV->KK):Prop:=
 Cm T t λy=>De E ad λp=>De E x λv=>DB v λcs=>match cs.all Dr&&E2 cs.length y.size with
  |true=>(match p with
   |.ptr l o=>Cm H l λob=>(match ob with
    |.cells GW=>(match HM (o+cs.length) GW.length with
     |true=>Q1 GW o cs λnew=>FI H l (.cells new) λH'=>K (.raw undef) E H'
     |false=>False)
    |_=>False)
   |.el l sz i o=>Cm H l λob=>(match ob with
    |.arr e BI es=>(match E2 sz BI&&cs.all Fe with
     |true=>∃GW,es[i]?=some GW/\DB GW λoc=>(match HM (o+cs.length) oc.length with
      |true=>(match E2 cs.length sz with
       |true=>FI H l (.arr e sz (es.set i v)) λH'=>K (.raw undef) E H'
       |false=>Q1 oc o cs λnc=>FI H l (.arr e sz (es.set i (.agg nc))) λH'=>K (.raw undef) E H')
      |false=>False)
     |false=>False)
    |_=>False)
   |_=>False)
  |false=>False
def Pa(E:List AV)(fs:List (Nat×Nat×Bool)):List (Nat×Operand)->List AV->(List AV->Prop)->Prop
 |[],cells,K=>K cells
 |(i,x)::r,cells,K=>Cm fs i λ(off,size,_)=>De E x λv=>DB v λcs=>match E2 cs.length size&&HM (off+size) cells.length&&cs.all Dr with
  |true=>Q1 cells off cs λcells=>Pa E fs r cells K
  |false=>False
def plA(n sz:Nat)(ag:Bool):Nat->List (Nat×Nat×Bool)
 |i=>match n with|0=>[]|n+1=>(i,sz,ag)::plA n sz ag (i+sz)
def HI(T:List TY)(E:List AV)(t:TypeId)(parts:List (Nat×Operand))(K:AV->Prop):Prop:=
 Cm T t λy=>match y.k with
  |.struct fs=>(match fs.all (λf=>HM 1 f.2.1)&&E2 y.zero.length y.size&&HM 1 y.size with
   |true=>Pa E fs parts y.zero λcells=>K (.agg cells)
   |false=>False)
  |.array n sz ag=>(match HM 1 sz&&E2 y.zero.length y.size&&HM 1 y.size with
   |true=>Pa E (plA n sz ag 0) parts y.zero λcells=>K (.agg cells)
   |false=>False)
  |_=>False
def Ir(E:List AV)(sz:Nat):List (Nat×Operand)->List AV->(List AV->Prop)->Prop
 |[],es,K=>K es
 |(i,x)::r,es,K=>De E x λv=>DB v λcs=>match E2 cs.length sz&&cs.all Dr&&cs.all Fe&&Nat.blt i es.length with
  |true=>FI es i v λes=>Ir E sz r es K
  |false=>False
def nO{α:Type}(v:α):Nat->(List α->Prop)->Prop
 |0,K=>K []
 |n+1,K=>nO v n λl=>K (v::l)
theorem DS{α:Type}(v:α):∀(n:Nat)(K:List α->Prop),nO v n K↔K (Ef n v)
 |0,_=>by simp[nO]
 |n+1,K=>by simp[nO,DS v n,Ui]
def BH(T:List TY)(E:List AV)(t:TypeId)(n:Nat)(parts:List (Nat×Operand))(K:HO->(Nat->AV)->Prop):Prop:=
 Cm T t λy=>match y.k with
  |.slice e Bv _ _=>Gc T e λz=>DB z λzc=>(match E2 zc.length Bv&&zc.all Dr&&zc.all Fe&&HM 1 Bv&&HM (n*Bv) 16777216 with
   |true=>nO z n λes=>Ir E Bv parts es λes=>K (.arr e Bv es) λl=>.own l Bv 0 n
   |false=>False)
  |_=>False
def Gx(s:Option Nat)(T:List TY)(E:List AV)(H:List HO)(t:TypeId)(n:Nat)(parts:List (Nat×Operand))(K:AV->KK):Prop:=
 BH T E t n parts λob f=>YB s H ob λH' l=>K (f l) E H'
def Dm(T:List TY)(E:List AV)(t:TypeId)(ln cp:Operand)(K:HO->(Nat->AV)->Prop):Prop:=
 Cm T t λy=>match y.k with
  |.slice e Bv by' _=>Gc T e λz=>DB z λzc=>(match E2 zc.length Bv&&zc.all Dr&&zc.all Fe&&HM 1 Bv with
   |true=>De E ln λln=>De E cp λcp=>(match ln,cp with
    |.int .i64 n,.int .i64 c=>(0<=n/\n<=c/\by'*c<=281474976710656)/\K (.arr e Bv (Ef n.toNat z)) λl=>.own l Bv 0 n.toNat
    |_,_=>False)
   |false=>False)
  |_=>False
def Ny(s:Option Nat)(T:List TY)(E:List AV)(H:List HO)(t:TypeId)(ln cp:Operand)(K:AV->KK):Prop:=
 Dm T E t ln cp λob f=>YB s H ob λH' l=>K (f l) E H'
def Fo(H:List HO)(x:AV)(K:Nat->List AV->Prop):Prop:=
 match x with
 |.sl sz es=>K sz es
 |.own l sz lo n=>Cm H l λob=>match ob with
  |.arr _ BI es=>(match E2 sz BI&&E2 lo 0 with
   |true=>n=es.length/\K sz es
   |false=>False)
  |_=>False
 |_=>False
def Ft(al:Option Nat)(T:List TY)(E:List AV)(H:List HO)(t t':TypeId)(s x:Operand)(K:AV->KK):Prop:=
 match E2 t t' with
 |true=>Cm T t λy=>(match y.k with
  |.slice e Bv by' _=>(match HM 1 Bv&&HM 1 by' with
   |true=>De E s λsv=>De E x λxv=>(match xv with
    |.raw (.slice none 0 0)=>(match sv with
     |.own l sz lo n=>Cm H l λob=>(match ob with|.arr _ _ _=>K (.own l sz lo n) E H|_=>False)
     |.raw (.slice none 0 0)=>K (.raw (.slice none 0 0)) E H
     |_=>False)
    |_=>Fo H xv λsz xs=>(match E2 sz Bv with
     |true=>(match sv with
      |.raw (.slice none 0 0)=>(xs.length*by'<=140737488355328)/\Gc T e λz=>DB z λzc=>(match E2 zc.length Bv&&zc.all Dr with
       |true=>YB al H (.arr e Bv xs) λH' l=>K (.own l Bv 0 xs.length) E H'
       |false=>False)
      |.own l BI lo n=>Cm H l λob=>(match ob with
       |.arr e' dE es=>(match E2 BI Bv&&E2 dE Bv&&E2 lo 0&&E2 e' e with
        |true=>(n=es.length/\(es++xs).length*by'<=140737488355328)/\Gc T e λz=>DB z λzc=>(match E2 zc.length Bv&&zc.all Dr with
         |true=>JB l E λE'=>Di l H λH=>FI H l (.arr e Bv (es++xs)) λH'=>K (.own l Bv 0 (es++xs).length) E' H'
         |false=>False)
        |false=>False)
       |_=>False)
      |_=>False)
     |false=>False))
   |false=>False)
  |_=>False)
 |false=>False
def HH(es:List AV)(lo n:Nat)(z:AV):List AV:=es.take lo++(Ef n z++es.drop (lo+n))
def iS(T:List TY)(E:List AV)(H:List HO)(t:TypeId)(x:Operand)(K:AV->KK):Prop:=
 Cm T t λy=>match y.k with
  |.slice e Bv _ _=>Gc T e λz=>DB z λzc=>(match E2 zc.length Bv&&zc.all Dr&&zc.all Fe&&HM 1 Bv with
   |true=>De E x λv=>(match v with
    |.own l sz lo n=>Cm H l λob=>(match ob with
     |.arr e' BI es=>(match E2 sz Bv&&E2 BI Bv&&E2 e' e with
      |true=>FI H l (.arr e Bv (HH es lo n z)) λH'=>K (.tuple []) E H'
      |false=>False)
     |_=>False)
    |_=>False)
   |false=>False)
  |_=>False
def TZ(al:Option Nat)(E:List AV)(H:List HO)(K:AV->KK):Prop:=YB al H (.map [] []) λH' l=>K (.om l) E H'
def XI(T:List TY)(E:List AV)(H:List HO)(t:TypeId)(m k x:Operand)(K:AV->KK):Prop:=
 Cm T t λy=>match y.k with
  |.map kt _=>Cm T kt λyk=>De E m λmv=>De E k λkv=>De E x λv=>(match kZ yk.k kv&&BN v with
   |true=>(match mv with
    |.om l=>Cm H l λob=>(match ob with
     |.map ks vs=>(∀a∈ks,JT kv a=true)/\FI H l (.map (uH kv ks) (uE kv v ks vs)) λH'=>K (.raw undef) E H'
     |_=>False)
    |_=>False)
   |false=>False)
  |_=>False
def UT(T:List TY)(E:List AV)(H:List HO)(s d:TypeId)(x:Operand)(K:AV->KK):Prop:=
 Cm T s λys=>Cm T d λyd=>De E x λv=>match ys.k,yd.k with
  |.string,.slice e Bv _ _=>(match v with
   |.str l=>(match E2 Bv 1 with
    |true=>Cm T e λye=>(match ye.k with
     |.int .u8=>K (.sl 1 (l.map λb=>.int .u8 b.toNat)) E H
     |_=>False)
    |false=>False)
   |_=>False)
  |.slice e Bv _ _,.string=>Fo H v λsz es=>(match E2 sz 1&&E2 Bv 1 with
   |true=>Cm T e λye=>(match ye.k with
    |.int .u8=>∃l:List UInt8,((es=l.map λb=>.int .u8 b.toNat)/\l.length<=9223372036854775807)/\K (.str l) E H
    |_=>False)
   |false=>False)
  |_,_=>False
end Go.Av
namespace Go.Av
section
variable {C C':Ae}{w w':World}{mu mu':Mu}
mutual
theorem Bb:∀(x:AV){v:Value},BN x=true->Ah C w x mu v->Ah C' w' x mu' v
 |.any,_,_,_=>by unfold Ah;trivial
 |.int _ _,_,_,h|.bool _,_,_,h|.lit _,_,_,h|.str _,_,_,h|.raw _,_,_,h=>by unfold Ah at*;exact h
 |.sl _ _,_,hn,_|.at_ _,_,hn,_|.ptr _ _,_,hn,_|.el _ _ _ _,_,hn,_|.own _ _ _ _,_,hn,_|.mp _ _,_,hn,_|.om _,_,hn,_=>by unfold BN at hn;cases hn
 |.fn f cap,_,hn,h=>by
  unfold BN at hn;unfold Ah at*;obtain⟨vs,h1,h2⟩:=h;exact⟨vs,h1,Ck cap hn h2⟩
 |.mv f cap,_,hn,h=>by
  unfold BN at hn;unfold Ah at*;obtain⟨vs,h1,h2⟩:=h;exact⟨vs,h1,Ck cap hn h2⟩
 |.iface t x,_,hn,h=>by
  unfold BN at hn;unfold Ah at*;obtain⟨y,h1,h2⟩:=h;exact⟨y,h1,Bb x hn h2⟩
 |.agg cs,_,hn,h=>by
  unfold BN at hn;unfold Ah at*;obtain⟨vs,h1,h2⟩:=h;exact⟨vs,h1,Ck cs hn h2⟩
 |.tuple cs,_,hn,h=>by
  unfold BN at hn;unfold Ah at*;obtain⟨vs,h1,h2⟩:=h;exact⟨vs,h1,Ck cs hn h2⟩
theorem Ck:∀(xs:List AV){vs:List Value},CJ xs=true->Ab C w xs mu vs->Ab C' w' xs mu' vs
 |[],_,_,h=>by unfold Ab at*;exact h
 |x::xs,_,hn,h=>by
  unfold CJ at hn;simp only[CL]at hn;unfold Ab at*;obtain⟨v,BY,h1,h2,h3⟩:=h;exact⟨v,BY,h1,Bb x hn.1 h2,Ck xs hn.2 h3⟩
end
end
section
variable {G:Cx}{C:Ae}{w:World}{mu:Mu}{H:List HO}{E:List AV}{a:Act}{T:List TY}
def GM(G:Cx)(a:Act)(w:World)(K:AV->KK)(s:Sem Value):Prop:=
 ∃r v E' H' C' mu' w',K r E' H'/\s.run G.P w=.ok v w'/\Az G C' mu' E' H' a w'/\Ah C' w' r mu' v
theorem Y8{x:AV}{v:Value}(h:Ah C w x mu v)(hs:Dr x=true):v.oneCell'=true:=by
 cases x<;>simp[Dr]at hs<;>unfold Ah at h
 case int=>rw[h.1];rfl
 case bool=>rw[h];rfl
 case lit=>rw[h];rfl
 case str=>rw[h.1];rfl
 case sl=>rcases h with⟨⟨_,rfl⟩,_⟩|⟨_,_,_,rfl,_⟩<;>rfl
 case at_=>obtain⟨_,_,rfl,_⟩:=h;rfl
 case fn=>obtain⟨_,rfl,_⟩:=h;rfl
 case mv=>obtain⟨_,rfl,_⟩:=h;rfl
 case iface=>obtain⟨_,rfl,_⟩:=h;rfl
 case raw=>rw[h];exact hs
 case ptr=>obtain⟨_,_,rfl⟩:=h;rfl
 case el=>obtain⟨_,_,_,_,rfl⟩:=h;rfl
 case own=>obtain⟨_,_,_,_,rfl⟩:=h;unfold BO;split<;>rfl
 case mp=>rcases h with⟨rfl,_⟩|⟨_,_,_,rfl,_⟩<;>rfl
 case om=>obtain⟨_,_,rfl⟩:=h;rfl
theorem Gn{cs:List AV}{vs:List Value}(h:Ab C w cs mu vs)(hs:cs.all Dr=true):∀v∈vs,v.oneCell'=true:=by
 induction cs generalizing vs with
 |nil=>unfold Ab at h;subst h;simp
 |cons c cs ih=>
  unfold Ab at h;obtain⟨v,BY,rfl,h2,h3⟩:=h;simp only[ZX,CL]at hs;intro u hu;simp only[List.mem_cons]at hu;rcases hu with rfl|hu;·exact Y8 h2 hs.1
  ·exact ih h3 hs.2 u hu
theorem Mb{x:AV}{v:Value}(h:Ah C w x mu v)(hs:x.cells.all Dr=true):∃vs:List Value,v.cells=vs.toArray/\Ab C w x.cells mu vs:=by
 by_cases hx:∃cs,x=.agg cs
 ·obtain⟨cs,rfl⟩:=hx;unfold Ah at h;obtain⟨vs,rfl,h⟩:=h;exact⟨vs,rfl,h⟩
 ·have hc:x.cells=[x]:=by cases x<;>first|rfl|exact absurd ⟨_,rfl⟩ hx
  rw[hc]at hs ⊢;simp only[ZX,List.all_nil,Qu]at hs;have h1:=Y8 h hs;have hv:v.cells=#[v]:=by cases v<;>first|rfl|simp[Value.oneCell']at h1
  exact⟨[v],by rw[hv],by unfold Ab;exact⟨v,[],rfl,h,by unfold Ab;rfl⟩⟩
mutual
theorem Wv:∀(x:AV){v:Value},Fe x=true->Ah C w x mu v->Ah C w x (Bc mu) v
 |.any,_,_,_=>by unfold Ah;trivial
 |.int _ _,_,_,h|.bool _,_,_,h|.lit _,_,_,h|.str _,_,_,h|.sl _ _,_,_,h|.at_ _,_,_,h|.raw _,_,_,h=>by unfold Ah at*;exact h
 |.ptr l o,_,_,h=>by
  unfold Ah at*;obtain⟨b,h1,h2⟩:=h;exact⟨b,by simp[Bc,h1],h2⟩
 |.fn f cap,_,hn,h=>by
  unfold Fe at hn;unfold Ah at*;obtain⟨vs,h1,h2⟩:=h;exact⟨vs,h1,EG cap hn h2⟩
 |.mv f cap,_,hn,h=>by
  unfold Fe at hn;unfold Ah at*;obtain⟨vs,h1,h2⟩:=h;exact⟨vs,h1,EG cap hn h2⟩
 |.iface t x,_,hn,h=>by
  unfold Fe at hn;unfold Ah at*;obtain⟨y,h1,h2⟩:=h;exact⟨y,h1,Wv x hn h2⟩
 |.agg cs,_,hn,h=>by
  unfold Fe at hn;unfold Ah at*;obtain⟨vs,h1,h2⟩:=h;exact⟨vs,h1,EG cs hn h2⟩
 |.tuple cs,_,hn,h=>by
  unfold Fe at hn;unfold Ah at*;obtain⟨vs,h1,h2⟩:=h;exact⟨vs,h1,EG cs hn h2⟩
 |.el _ _ _ _,_,hn,_|.own _ _ _ _,_,hn,_=>by unfold Fe at hn;cases hn
 |.mp _ _,_,_,h=>by unfold Ah at*;exact h
 |.om l,_,_,h=>by
  unfold Ah at*;obtain⟨b,h1,h2⟩:=h;exact⟨b,by simp[Bc,h1],h2⟩
theorem EG:∀(xs:List AV){vs:List Value},Lc xs=true->Ab C w xs mu vs->Ab C w xs (Bc mu) vs
 |[],_,_,h=>by unfold Ab at*;exact h
 |x::xs,_,hn,h=>by
  unfold Lc at hn;simp only[CL]at hn;unfold Ab at*;obtain⟨v,BY,h1,h2,h3⟩:=h;exact⟨v,BY,h1,Wv x hn.1 h2,EG xs hn.2 h3⟩
end
mutual
theorem Bk:∀(x:AV){v:Value},closed x=true->Ah C w x mu v->Ah C w x Mu.none v
 |.any,_,_,_=>by unfold Ah;trivial
 |.int _ _,_,_,h|.bool _,_,_,h|.lit _,_,_,h|.str _,_,_,h|.sl _ _,_,_,h|.at_ _,_,_,h|.raw _,_,_,h=>by unfold Ah at*;exact h
 |.ptr l o,_,hn,h=>by unfold closed at hn;cases hn
 |.fn f cap,_,hn,h=>by
  unfold closed at hn;unfold Ah at*;obtain⟨vs,h1,h2⟩:=h;exact⟨vs,h1,A8 cap hn h2⟩
 |.mv f cap,_,hn,h=>by
  unfold closed at hn;unfold Ah at*;obtain⟨vs,h1,h2⟩:=h;exact⟨vs,h1,A8 cap hn h2⟩
 |.iface t x,_,hn,h=>by
  unfold closed at hn;unfold Ah at*;obtain⟨y,h1,h2⟩:=h;exact⟨y,h1,Bk x hn h2⟩
 |.agg cs,_,hn,h=>by
  unfold closed at hn;unfold Ah at*;obtain⟨vs,h1,h2⟩:=h;exact⟨vs,h1,A8 cs hn h2⟩
 |.tuple cs,_,hn,h=>by
  unfold closed at hn;unfold Ah at*;obtain⟨vs,h1,h2⟩:=h;exact⟨vs,h1,A8 cs hn h2⟩
 |.el _ _ _ _,_,hn,_|.own _ _ _ _,_,hn,_=>by unfold closed at hn;cases hn
 |.mp _ _,_,_,h=>by unfold Ah at*;exact h
 |.om _,_,hn,_=>by unfold closed at hn;cases hn
theorem A8:∀(xs:List AV){vs:List Value},An xs=true->Ab C w xs mu vs->Ab C w xs Mu.none vs
 |[],_,_,h=>by unfold Ab at*;exact h
 |x::xs,_,hn,h=>by
  unfold An at hn;simp only[CL]at hn;unfold Ab at*;obtain⟨v,BY,h1,h2,h3⟩:=h;exact⟨v,BY,h1,Bk x hn.1 h2,A8 xs hn.2 h3⟩
end
mutual
theorem V6{l:Nat}{g:Option GO}:∀(x:AV){v:Value},(∀b,mu l=some (.CS b)->g=some (.CS b))->Ah C w x mu v->Ah C w (Co l x) (mu.set l g) v
 |.any,_,_,_=>by unfold Co Ah;trivial
 |.int _ _,_,_,h|.bool _,_,_,h|.lit _,_,_,h|.str _,_,_,h|.sl _ _,_,_,h|.at_ _,_,_,h|.raw _,_,_,h=>by unfold Co;unfold Ah at*;exact h
 |.ptr k o,_,hg,h=>by
  unfold Co;unfold Ah at*
  obtain⟨b,h1,h2⟩:=h;refine⟨b,?_,h2⟩;by_cases e:k=l;·subst e;rw[Mu.As];exact hg b h1
  ·rw[Mu.Ay _ _ e];exact h1
 |.fn f cap,_,hg,h=>by
  unfold Co;unfold Ah at*
  obtain⟨vs,h1,h2⟩:=h;exact⟨vs,h1,CO cap hg h2⟩
 |.mv f cap,_,hg,h=>by
  unfold Co;unfold Ah at*
  obtain⟨vs,h1,h2⟩:=h;exact⟨vs,h1,CO cap hg h2⟩
 |.iface t x,_,hg,h=>by
  unfold Co;unfold Ah at*
  obtain⟨y,h1,h2⟩:=h;exact⟨y,h1,V6 x hg h2⟩
 |.agg cs,_,hg,h=>by
  unfold Co;unfold Ah at*
  obtain⟨vs,h1,h2⟩:=h;exact⟨vs,h1,CO cs hg h2⟩
 |.tuple cs,_,hg,h=>by
  unfold Co;unfold Ah at*
  obtain⟨vs,h1,h2⟩:=h;exact⟨vs,h1,CO cs hg h2⟩
 |.mp _ _,_,_,h=>by unfold Co;unfold Ah at*;exact h
 |.om k,_,hg,h=>by
  unfold Co;unfold Ah at*
  obtain⟨b,h1,h2⟩:=h;refine⟨b,?_,h2⟩;by_cases e:k=l;·subst e;rw[Mu.As];exact hg b h1
  ·rw[Mu.Ay _ _ e];exact h1
 |.el k sz i o,_,_,h=>by
  unfold Co;split;·unfold Ah;trivial
  ·rename_i hb;have e:k≠l:=Jg hb;unfold Ah at*;obtain⟨b,n,c,h1,h2⟩:=h;exact⟨b,n,c,by rw[Mu.Ay _ _ e];exact h1,h2⟩
 |.own k sz lo n,_,_,h=>by
  unfold Co;split;·unfold Ah;trivial
  ·rename_i hb;have e:k≠l:=Jg hb;unfold Ah at*;obtain⟨x,h1,h2⟩:=h;exact⟨x,by rw[Mu.Ay _ _ e];exact h1,h2⟩
theorem CO{l:Nat}{g:Option GO}:∀(xs:List AV){vs:List Value},(∀b,mu l=some (.CS b)->g=some (.CS b))->Ab C w xs mu vs->Ab C w (BK l xs) (mu.set l g) vs
 |[],_,_,h=>by unfold BK;unfold Ab at*;exact h
 |x::xs,_,hg,h=>by
  unfold BK;unfold Ab at*
  obtain⟨v,BY,h1,h2,h3⟩:=h;exact⟨v,BY,h1,V6 x hg h2,CO xs hg h3⟩
end
theorem Wx(h:Az G C mu E H a w){n:Nat}{H':List HO}{cs:List AV}{vs:List Value}(hr:Ab C w cs mu vs)(Eg:Al H n H' (.cells cs))(hs:cs.all Dr=true)(e:TypeId):
  Az G C (mu.set n (some (.CS w.heap.size))) E H' a (w.alloc (.cells vs.toArray e))/\
  Ah C (w.alloc (.cells vs.toArray e)) (.ptr n 0) (mu.set n (some (.CS w.heap.size))) (.pointer (some ⟨w.heap.size,0,none⟩)):=by
 refine⟨h.alloc _ (.cells cs) Eg (.CS w.heap.size) (by simp[GO.Aq]) (by simp) ?_ (by simp),?_⟩
 ·intro cs' hc;simp only[HO.cells.injEq]at hc;subst hc;exact⟨vs.toArray,e,rfl,rfl,by simpa using hr,by simpa using Gn hr hs⟩
 ·unfold Ah;exact⟨_,Mu.As _ _ _,rfl⟩
theorem Zee{al:Option Nat}(h:Az G C mu E H a w){t:TypeId}{x:Operand}{K:AV->KK}(hk:Zef al E H x K):GM G a w K (Instr.box t (a.eval x)):=by
 unfold Zef Yk at hk;rw[Ac,Am]at hk;split at hk
 ·rename_i hs;obtain⟨H',n,Eg,hk⟩:=QM hk;obtain⟨vs,hv,hr⟩:=Mb (AX h.env x) hs;obtain⟨h1,h2⟩:=Wx h hr Eg hs t;exact⟨_,_,_,_,_,_,_,hk,by simp[Instr.box,newVar,newRow,hv],h1,h2⟩
 ·exact hk.elim
theorem EM(hT:BG G.P T){t:TypeId}{y:TY}(hy:T[t]?=some y)(hl:y.zero.length=y.size)(hp:1<=y.size):∃z,(zeroValue t).run G.P w=.ok z w/\Ab C w y.zero mu z.cells.toList:=by
 obtain⟨i,d,h1,h2,rfl⟩:=hT.facts hy;simp only at hl hp⊢;rcases Ju (AT G.P t) i.zero with hz|⟨z,hz,e,_⟩;·rw[hz]at hl;simp at hl;omega
 ·refine⟨z,by simp[zeroValue,typeInfo,h1,hz],?_⟩
  rw[e];refine(AH _).2 ⟨by simp,λj h3 h4=>?_⟩
  simp only[Rn];exact Su _
theorem xN{al:Option Nat}(hT:BG G.P T)(h:Az G C mu E H a w){t:TypeId}{K:AV->KK}(hk:NN al T E H t K):GM G a w K (Instr.alloc t true (.tuple #[])):=by
 unfold NN J4 at hk;replace hk:=AL.1 hk;obtain⟨y,hy,hk⟩:=hk
 split at hk
 ·rename_i hs;simp only[CL]at hs;obtain⟨H',n,Eg,hk⟩:=QM hk;obtain⟨z,h1,h2⟩:=EM (C:=C) (w:=w) (mu:=mu) hT hy (Ak hs.1.2) (C1 hs.2);obtain⟨h3,h4⟩:=Wx h h2 Eg hs.1.1 t;refine⟨_,_,_,_,_,_,_,hk,?_,h3,h4⟩;simp[Instr.alloc,h1,newVar,newRow]
 ·exact hk.elim
end
end Go.Av
namespace Go.Av
section
variable {G:Cx}{C:Ae}{w:World}{mu:Mu}{H:List HO}{E:List AV}{a:Act}{T:List TY}
theorem Ns:∀(cs:List AV),Lc cs=cs.all Fe
 |[]=>rfl
 |c::cs=>by simp[Lc,Ns cs]
theorem Q0:∀(vs l:List AV)(o:Nat),(I3 l o vs).length=l.length
 |[],_,_=>rfl
 |v::vs,l,o=>by simp[I3,Q0 vs]
theorem P7{cs:List AV}{us:List Value}(hc:Ab C w cs mu us):∀{GW:List AV}{vs:List Value}{o:Nat},Ab C w GW mu vs->o+cs.length<=GW.length->
  Ab C w (I3 GW o cs) mu (vs.take o++us++vs.drop (o+us.length)):=by
 induction cs generalizing us with
 |nil=>intro GW vs o h hl;unfold Ab at hc;subst hc;simpa[I3]using h
 |cons c cs ih=>
  intro GW vs o h hl;unfold Ab at hc;obtain⟨u,Xc,rfl,h2,h3⟩:=hc;simp only[I3];have hlen:=Ap _ h;simp only[It]at hl
  have h':Ab C w (GW.set o c) mu (vs.set o u):=by
   have:=Ab.put (vs:=vs.toArray) (by simpa using h) o h2
   simpa using this
  have:=ih h3 (o:=o+1) h' (by simp;omega)
  have e:(vs.set o u).take (o+1)++Xc++(vs.set o u).drop (o+1+Xc.length)=vs.take o++(u::Xc)++vs.drop (o+(u::Xc).length):=by
   have ho:o<vs.length:=by omega
   rw[Uk (by omega),Qs,O1 (by omega)]
   simp[ho,Vf,U3]
  rw[e]at this;exact this
theorem YS(h:Az G C mu E H a w){l:Nat}{GW:List AV}(hl:H[l]?=some (.cells GW)){b:Nat}(hm:mu l=some (.CS b)){o:Nat}{cs:List AV}{us:List Value}
  (hu:Ab C w cs mu us) (hs:cs.all Dr=true) (hle:o+cs.length<=GW.length) (t:TypeId) (v:Value) (hv:v.cells=us.toArray) (EI:(sizeOf t).run G.P w=.ok us.length w):
  ∃w',(Instr.storeAt t (.pointer (some ⟨b,o,none⟩)) v).run G.P w=.ok () w'/\Az G C mu E (H.set l (.cells (I3 GW o cs))) a w':=by
 obtain⟨b',cur,e,VD,hb,hr,h1⟩:=h.heap.Cr l GW hl;rw[hm]at VD;simp only[A7.injEq,GO.CS.injEq]at VD;subst VD;have hlc:us.length=cs.length:=Ap _ hu;have hlo:=Ap _ hr
 have Af:=run_storeCells_at G.P b o e us 0 cur w hb (by have:cur.size=cur.toList.length:=by simp
                                                        omega) (Gn hu hs)
 simp only[Kf]at Af
 have My:mu.set l (some (.CS b))=mu:=by
  funext i;by_cases e:i=l
  ·subst e;rw[Mu.As,hm]
  ·rw[Mu.Ay _ _ e]
 refine⟨w.setRow b (cur.toList.take o++us++cur.toList.drop (o+us.length)).toArray,?_,?_⟩;·simp only[Instr.storeAt,Instr.sureAddr,storeVar,Fj,KF,E8,EI,hv,GK,ne_eq,not_true_eq_false,if_false,Af]
 ·have hx:=F3 (w:=w) (h.heap.fresh _ _ _ hm rfl).2.2 ((cur.toList.take o++us++cur.toList.drop (o+us.length)).toArray);have AP:l<H.length:=(D0.1 hl).1
  have:=Az.write (g:=.CS b) (g':=.CS b) h hm rfl (new:=(cur.toList.take o++us++cur.toList.drop (o+us.length)).toArray) hb (.cells (I3 GW o cs)) rfl (λ_ h=>h) (λ_ h=>h) (E':=E)
   (by rw[My];exact Ab.mono hx _ (AI.refl _) h.env) (H.set l (.cells (I3 GW o cs))) (by simp)
   (λi hi=>by
    rw[C3 (Ne.symm hi),My]
    exact⟨λh=>h,λcs h=>⟨cs,h,λ_ h=>h⟩,λ_ _ _ h=>h,λcs _ _ h=>⟨cs,h,λ_ h=>h⟩,λ_ h=>h⟩)
   (by simp) (by simp[AP])
   (λcs' hc=>by
    simp only[HO.cells.injEq]at hc
    subst hc
    refine⟨rfl,by simpa using P7 hu hr hle,?_⟩
    intro x hx
    simp only[Gs]at hx
    rcases hx with (hx|hx)|hx
    ·exact h1 x (FX hx)
    ·exact Gn hu hs x hx
    ·exact h1 x (Hx hx))
   (by simp)
   (λi hi ks vs h=>by rw[C3 (Ne.symm hi)]at h;exact h)
  rw[My]at this;exact this
theorem UD{sz:Nat}:∀(es:List AV)(i:Nat)(e:AV),(∀a∈es,a.cells.length=sz)->i<es.length->e.cells.length=sz->
  flat (es.set i e)=(flat es).take (i*sz)++e.cells++(flat es).drop (i*sz+sz)
 |[],i,e,_,h,_=>by simp at h
 |a::es,0,e,hs,_,he=>by
  have e1:flat (a::es)=a.cells++flat es:=by simp[flat]
  have e2:flat (e::es)=e.cells++flat es:=by simp[flat]
  simp only[List.set_cons_zero,Nat.zero_mul,List.take_zero,N0,JV];rw[e1,e2,Ro,II (by rw[hs a (by simp)];omega),hs a (by simp)]
  simp
 |a::es,i+1,e,hs,h,he=>by
  have e1:flat (a::es)=a.cells++flat es:=by simp[flat]
  have e2:flat (a::es.set i e)=a.cells++flat (es.set i e):=by simp[flat]
  have ha:=hs a (by simp)
  simp only[List.set_cons_succ]
  have t1:(a.cells++flat es).take ((i+1)*sz)=a.cells++(flat es).take (i*sz):=by
   rw[VB,Li (l:=a.cells) (by rw[ha,E1];omega),ha]
   congr 2;rw[E1];omega
  have t2:(a.cells++flat es).drop ((i+1)*sz+sz)=(flat es).drop (i*sz+sz):=by
   rw[Ro,II (as:=a.cells) (by rw[ha,E1];omega),ha,N0]
   congr 1;rw[E1];omega
  rw[e1,e2,UD es i e (λb hb=>hs b (by simp[hb])) (by simpa using h) he,t1,t2]
  simp
theorem ZcE(M us:List Value)(p o sz:Nat)(h1:o+us.length<=sz)(h2:p+sz<=M.length):
  M.take p++(((M.drop p).take sz).take o++us++((M.drop p).take sz).drop (o+us.length))++M.drop (p+sz)=M.take (p+o)++us++M.drop (p+o+us.length):=by
 have e1:M.take (p+o)=M.take p++(M.drop p).take o:=List.take_add
 have e2:M.drop (p+o+us.length)=((M.drop p).take sz).drop (o+us.length)++M.drop (p+sz):=by
  rw[show p+o+us.length=p+(o+us.length) by omega,<-Py,<-Py (i:=sz) (j:=p)]
  conv=>lhs;rw[<-MQ sz (M.drop p)]
  rw[List.drop_append_of_le_length (by simp only[E0,Gt];omega)]
 rw[e1,e2,Yg,K0 (by omega)]
 simp
theorem jP(cur us:List Value)(N q:Nat)(h1:q+us.length<=N)(h2:N<=cur.length):
  (cur.take N).take q++us++(cur.take N).drop (q+us.length)=List.take N (cur.take q++us++cur.drop (q+us.length)):=by
 rw[VB,Yg,K0 (by omega),X8,Li (l:=cur.take q++us) (by simp only[C4,E0];omega)]
 congr 1;simp only[C4,E0];congr 1;omega
theorem VN.size{GW new:Array Value}{fz:Nat×Nat}(h:VN GW fz)(hs:new.size=GW.size):VN new fz:=by
 unfold VN at*;rw[hs];exact h
theorem Rq{w:World}{g off:Nat}{cur:Array Value}{t:TypeId}{fz:Nat×Nat}(hg:w.heap[g]?=some (.cells cur t fz))(hf:VN cur fz)(h:off<cur.size):w.frozen? ⟨g,off,none⟩=false:=by
 simp only[World.frozen?,hg];rcases hf with rfl|rfl;·simp
 ·simp;omega
theorem CW(P:Program)(g o:Nat)(t:TypeId)(fz:Nat×Nat):∀(vs:List Value)(i:Nat)(cur:Array Value)(w:World),w.heap[g]?=some (.cells cur t fz)->VN cur fz->o+i+vs.length<=cur.size->(∀v∈vs,v.oneCell'=true)->
  (storeCells ⟨g,o,none⟩ vs i).run P w=.ok () (w.setRow g (cur.toList.take (o+i)++vs++cur.toList.drop (o+i+vs.length)).toArray)
 |[],i,cur,w,hg,_,_,_=>by
  simp only[storeCells,Sk,KT,Kf,MQ,ND];rw[setRow_self w g cur t fz hg];rfl
 |v::rest,i,cur,w,hg,O3,hl,h1=>by
  have hi:o+i<cur.size:=by simp at hl;omega
  have ZdU:(⟨g,o,none⟩:Addr).add i=⟨g,o+i,none⟩:=by unfold Addr.add;split<;>simp_all
  have Eu:w.cell? ⟨g,o+i,none⟩=some cur[o+i]:=by simp[World.cell?,hg,hi]
  have ZjU:w.frozen? ⟨g,o+i,none⟩=false:=Rq hg O3 hi
  have Af:(store ((⟨g,o,none⟩:Addr).add i) v).run P w=.ok () (w.setRow g (cur.setIfInBounds (o+i) v)):=by
   rw[ZdU,run_store P w _ v _ (h1 v (by simp)),Eu]
   simp[ZjU,setCell_eq_setRow w g (o+i) cur t fz v hg]
  have ih:=CW P g o t fz rest (i+1) (cur.setIfInBounds (o+i) v) (w.setRow g (cur.setIfInBounds (o+i) v)) (setRow_heap w g cur _ t _ hg) (O3.size (by simp)) (by simp at hl⊢;omega) (λx hx=>h1 x (by simp[hx]))
  simp only[storeCells,Fj,Af,E8,ih,setRow_setRow];congr 3;have e:=list_seg_step cur.toList (o+i) v rest (by simp at hl⊢;omega)
  simpa[Kx,Us]using e
theorem YR(h:Az G C mu E H a w){l:Nat}{e:TypeId}{sz:Nat}{es:List AV}(hl:H[l]?=some (.arr e sz es)){b n c:Nat}(hm:mu l=some (.arr (.slice (some ⟨b,0,none⟩) n c)))
  {i o:Nat} {GW new:AV} (hi:es[i]?=some GW) {cs:List AV} {us:List Value} (hu:Ab C w cs mu us) (hs:cs.all Dr=true) (hna:cs.all Fe=true) (hle:o+cs.length<=GW.cells.length)
  (FZ:new.cells=I3 GW.cells o cs) (t:TypeId) (v:Value) (hv:v.cells=us.toArray) (EI:(sizeOf t).run G.P w=.ok us.length w):
  ∃w',(Instr.storeAt t (.pointer (some ⟨b,i*sz+o,none⟩)) v).run G.P w=.ok () w'/\Az G C mu E (H.set l (.arr e sz (es.set i new))) a w':=by
 obtain⟨hz,h2⟩:=h.heap.BM l e sz es hl;have aF:i<es.length:=(D0.1 hi).1;have hold:GW∈es:=Ts hi;have Zdo:=hz GW hold;rcases h2 with⟨h2,rfl⟩|⟨b',cap,cur,h3,⟨fz,hb,O3⟩,h5,h6,h7,h8,h9⟩;·simp at aF
 ·rw[hm]at h3;simp only[A7.injEq,GO.arr.injEq,Value.slice.injEq,Addr.mk.injEq]at h3;obtain⟨⟨rfl,_⟩,rfl,rfl⟩:=h3;have hlc:us.length=cs.length:=Ap _ hu;have Zb8:new.cells.length=sz:=by rw[FZ,Q0,Zdo]
  have hmul:(i+1)*sz<=es.length*sz:=E4 _ aF;have WI:es.length*sz<=c*sz:=E4 _ h5;rw[E1]at hmul;have Fl:i*sz+o+us.length<=cur.size:=by omega
  have Af:=CW G.P b (i*sz+o) e fz us 0 cur w hb O3 (by omega) (Gn hu hs)
  simp only[Kf]at Af
  have My:mu.set l (some (.arr (.slice (some ⟨b,0,none⟩) es.length c)))=mu:=by
   funext j;by_cases e:j=l
   ·subst e;rw[Mu.As,hm]
   ·rw[Mu.Ay _ _ e]
  refine⟨w.setRow b (cur.toList.take (i*sz+o)++us++cur.toList.drop (i*sz+o+us.length)).toArray,?_,?_⟩;·simp only[Instr.storeAt,Instr.sureAddr,storeVar,Fj,KF,E8,EI,hv,GK,ne_eq,not_true_eq_false,if_false,Af]
  ·have hx:=F3 (w:=w) (h.heap.fresh _ _ _ hm rfl).2.2 ((cur.toList.take (i*sz+o)++us++cur.toList.drop (i*sz+o+us.length)).toArray);have AP:l<H.length:=(D0.1 hl).1;have hub:Ab C w cs (Bc mu) us:=EG cs (by rw[Ns];exact hna) hu
   have:=Az.write (g:=.arr (.slice (some ⟨b,0,none⟩) es.length c)) (g':=.arr (.slice (some ⟨b,0,none⟩) es.length c)) h hm rfl
    (new:=(cur.toList.take (i*sz+o)++us++cur.toList.drop (i*sz+o+us.length)).toArray) hb (.arr e sz (es.set i new)) rfl (by simp) (by simp) (E':=E)
    (by rw[My];exact Ab.mono hx _ (AI.refl _) h.env) (H.set l (.arr e sz (es.set i new))) (by simp)
    (λj hj=>by
     rw[C3 (Ne.symm hj),My]
     exact⟨λh=>h,λcs h=>⟨cs,h,λ_ h=>h⟩,λ_ _ _ h=>h,λcs _ _ h=>⟨cs,h,λ_ h=>h⟩,λ_ h=>h⟩)
    (by simp) (by simp[AP])
    (by simp)
    (λe' BI Cg hc=>by
     simp only[HO.arr.injEq]at hc
     obtain⟨rfl,rfl,rfl⟩:=hc
     refine⟨λx hx=>?_,c,by simp,rfl,by simpa using h5,h6,?_,?_,?_⟩
     ·rcases PR hx with hx|rfl
      ·exact hz x hx
      ·exact Zb8
     ·simp only[GK,C4,E0,Gt,Ky];omega
     ·simp only[XZ]
      rw[UD es i new hz aF Zb8];have hf:=Bx es hz
      -- the values: Zbz before,Zbz of the element,Zbz behind
      obtain⟨r,hr⟩:=Ha es hz i GW hi;have Qt:((flat es).drop (i*sz)).take sz=GW.cells:=by rw[hr,<-Zdo];simp
      have hA:=h8.take (i*sz);have hB:=(h8.drop (i*sz)).take sz;rw[Qt]at hB;have hC:=h8.drop (i*sz+sz);have hB':=P7 hub hB hle;rw[<-FZ]at hB';have BW:=AF (AF hA hB') hC
      have e1:(((cur.toList.take (es.length*sz)).take (i*sz)++((((cur.toList.take (es.length*sz)).drop (i*sz)).take sz).take o++us++(((cur.toList.take (es.length*sz)).drop (i*sz)).take sz).drop (o+us.length)))++(cur.toList.take (es.length*sz)).drop (i*sz+sz))=
        List.take (es.length*sz) (cur.toList.take (i*sz+o)++us++cur.toList.drop (i*sz+o+us.length)):=by
       have HC:cur.toList.length=c*sz:=by simpa using h7
       rw[ZcE _ us _ _ _ (by omega) (by simp only[E0];omega),jP _ us _ _ (by omega) (by omega)]
      rw[e1]at BW
      simpa using BW
     ·intro x hx
      simp only[Gs]at hx;rcases hx with (hx|hx)|hx;·exact h9 x (FX hx)
      ·exact Gn hu hs x hx
      ·exact h9 x (Hx hx))
    (λi hi ks vs h=>by rw[C3 (Ne.symm hi)]at h;exact h) (by simp)
    ⟨λ_ h=>(by cases h),λ_ _ _ _=>O3.size (by simp only[GK,C4,E0,Gt,Ky];omega)⟩
   rw[My]at this;exact this
end
open Go.MapKept
section
variable {G:Cx}{C:Ae}{w:World}{mu:Mu}{H:List HO}{E:List AV}{a:Act}{T:List TY}
theorem sC(hT:BG G.P T)(h:Az G C mu E H a w){t:TypeId}{ad x:Operand}{K:AV->KK}(hk:Cj T E H t ad x K):
  ∃E' H' C' mu' w',K (.raw undef) E' H'/\(Instr.storeAt t (a.eval ad) (a.eval x)).run G.P w=.ok () w'/\Az G C' mu' E' H' a w':=by
 unfold Cj at hk;replace hk:=AL.1 hk;obtain⟨y,hy,hk⟩:=hk
 rw[Ac,Ac,Am]at hk;split at hk
 ·rename_i hs;simp only[CL]at hs;have hp:=AX h.env ad;obtain⟨us,hv,hu⟩:=Mb (AX h.env x) hs.1;have hul:=Ap _ hu;have hys:=Ak hs.2;obtain⟨i,d,hi,hd,Vw⟩:=hT.facts hy
  have EI:(sizeOf t).run G.P w=.ok us.length w:=by
   have:i.size=us.length:=by rw[hul,hys,Vw]
   simp[sizeOf,typeInfo,hi,this]
  generalize pC:AM E ad=p at hk hp;cases p with
  |ptr l o=>
   simp only at hk;replace hk:=AL.1 hk;obtain⟨ob,Bh,hk⟩:=hk
   cases ob with
   |arr _ _ _|dead|ghost _ _ _|inv _|map _ _=>exact hk.elim
   |cells GW=>
    simp only at hk;split at hk
    ·rename_i hle;rw[Cs,AG]at hk;unfold Ah at hp;obtain⟨b,hm,hp⟩:=hp;obtain⟨w',h1,h2⟩:=YS h Bh hm hu hs.1 (C1 hle) t (a.eval x) hv EI;exact⟨_,_,_,_,w',hk,by rw[hp];exact h1,h2⟩
    ·exact hk.elim
  |el l sz i o=>
   simp only at hk;replace hk:=AL.1 hk;obtain⟨ob,Bh,hk⟩:=hk
   cases ob with
   |cells _|dead|ghost _ _ _|inv _|map _ _=>exact hk.elim
   |arr e BI es=>
    simp only at hk;split at hk
    ·rename_i hz;simp only[CL]at hz;obtain rfl:=Ak hz.1;obtain⟨GW,hold,hk⟩:=hk;rw[Am]at hk;split at hk
     ·rename_i hle;have hle:=C1 hle;have Zdo:=(h.heap.BM l e sz es Bh).1 GW (Ts hold);unfold Ah at hp;obtain⟨b,n,c,hm,hp⟩:=hp;split at hk
      ·rename_i vD
       have vD:=Ak vD
       rw[AG]at hk
       obtain rfl:o=0:=by omega
       have hpu:(AM E x).cells=I3 GW.cells 0 (AM E x).cells:=by
        have key:∀(cs l:List AV)(o:Nat),o+cs.length=l.length->I3 l o cs=l.take o++cs:=by
         intro cs;induction cs with
         |nil=>intro l o ho;simp only[I3,Sk];rw[Li (by simp at ho;omega)]
         |cons c cs ih=>
          intro l o ho;simp only[I3,It]at ho ⊢;rw[ih _ _ (by simp;omega),Qs,O1 (by omega)]
          simp[show o<l.length by omega]
        rw[key _ _ _ (by omega)];simp
       obtain⟨w',h1,h2⟩:=YR h Bh hm hold hu hs.1 hz.2 hle hpu t (a.eval x) hv EI
       exact⟨_,_,_,_,w',hk,by rw[hp];exact h1,h2⟩
      ·rw[Cs,AG]at hk
       obtain⟨w',h1,h2⟩:=YR (new:=.agg (I3 GW.cells o (AM E x).cells)) h Bh hm hold hu hs.1 hz.2 hle rfl t (a.eval x) hv EI
       exact⟨_,_,_,_,w',hk,by rw[hp];exact h1,h2⟩
     ·exact hk.elim
    ·exact hk.elim
  |_=>exact hk.elim
 ·exact hk.elim
theorem SB(h:Az G C mu E H a w){n:Nat}{H':List HO}{e:TypeId}{sz cap:Nat}{es:List AV}{vs:List Value}(Eg:Al H n H' (.arr e sz es))(hz:∀a∈es,a.cells.length=sz)(hr:Ab C w (flat es) (Bc mu) (vs.take (es.length*sz)))
  (h1:∀v∈vs,v.oneCell'=true) (hc:es.length<=cap) (hm:cap<=9223372036854775807) (hl:vs.length=cap*sz):
  ∃mu',Az G C mu' E H' a (w.alloc (.cells vs.toArray e))/\
  Ah C (w.alloc (.cells vs.toArray e)) (.own n sz 0 es.length) mu' (.slice (some ⟨w.heap.size,0,none⟩) es.length cap):=by
 refine⟨mu.set n (some (.arr (.slice (some ⟨w.heap.size,0,none⟩) es.length cap))),h.alloc _ (.arr e sz es) Eg (.arr (.slice (some ⟨w.heap.size,0,none⟩) es.length cap)) (by simp[GO.Aq]) (by simp) (by simp) ?_,?_⟩
 ·intro e' BI Cg hc';simp only[HO.arr.injEq]at hc';obtain⟨rfl,rfl,rfl⟩:=hc';exact⟨hz,cap,vs.toArray,rfl,⟨_,rfl,.inl rfl⟩,hc,hm,by simpa using hl,by simpa using hr,by simpa using h1⟩
 ·unfold Ah;exact⟨_,Mu.As _ _ _,by simp[C8],by simp only[C8,Kk];exact⟨hc,hm⟩,by simp[BO]⟩
theorem UB:∀(us:List Value)(off k:Nat)(vs:Array Value),off+k+us.length<=vs.size->
  ((us.zipIdx k).foldl (λcs (x:Value×Nat)=>cs.setIfInBounds (off+x.2) x.1) vs).toList=vs.toList.take (off+k)++us++vs.toList.drop (off+k+us.length)
 |[],off,k,vs,_=>by simp
 |u::us,off,k,vs,h=>by
  simp only[It]at h;simp only[List.zipIdx_cons,List.foldl_cons];rw[UB us off (k+1) _ (by simp;omega)]
  have ho:off+k<vs.toList.length:=by simp;omega
  simp only[Kx];rw[show off+(k+1)=(off+k)+1 by omega,Uk (by omega),Qs,O1 (by omega)]
  have ho':off+k<vs.size:=by simpa using ho
  simp[ho',Vf,U3]
theorem QC{fs:List (Nat×Nat×Bool)}{place:Nat->Option (Nat×Nat)}(hp:∀i f,fs[i]?=some f->place i=some (f.1,f.2.1))(he:Ab C w E mu a.tmps.toList):
  ∀(parts:List (Nat×Operand)) (cells:List AV) (vs:List Value) {K:List AV->Prop},Ab C w cells mu vs->Pa E fs parts cells K->
  ∃QJ us,K QJ/\Ab C w QJ mu us/\Instr.fill place vs.toArray (parts.map λp=>(p.1,a.eval p.2))=some us.toArray
 |[],cells,vs,K,hr,hk=>⟨cells,vs,hk,hr,rfl⟩
 |(i,x)::r,cells,vs,K,hr,hk=>by
  unfold Pa at hk;replace hk:=AL.1 hk;obtain⟨⟨off,size,ag⟩,hf,hk⟩:=hk
  simp only at hk;rw[Ac,Am]at hk;split at hk
  ·rename_i hb;simp only[CL]at hb;have h1:=Ak hb.1.1;have h2:=C1 hb.1.2;rw[Cs]at hk;have hx:=AX he x;have hlen:=Ap _ hr;obtain⟨us,hv,hu⟩:=Mb hx hb.2;have hul:=Ap _ hu;have Lj:place i=some (off,size):=hp i _ hf;have OZ:=P7 hu hr (o:=off) (by omega)
   obtain⟨QJ,Xc,k1,k2,k3⟩:=QC hp he r _ _ OZ hk;refine⟨QJ,Xc,k1,k2,?_⟩;simp only[H0,Instr.fill,Lj,hv,GK];rw[if_neg (by simp;omega)]
   have vS:(us.toArray.zipIdx.foldl (λcs (x:Value×Nat)=>cs.setIfInBounds (off+x.2) x.1) vs.toArray)=(vs.take off++us++vs.drop (off+us.length)).toArray:=by
    rw[<-Rm,TI];simp only[Um];have:=UB us off 0 vs.toArray (by simp;omega)
    simpa using this
   rw[vS];exact k3
  ·exact hk.elim
theorem Ws{P:Program}:∀(fs:List Field),(∀f∈fs,1<=FL P f.type)->fs.mapM (λf=>(P.info? f.type).map λi=>(f.offset,i.size))=some (fs.map λf=>(f.offset,FL P f.type))
 |[],_=>rfl
 |f::fs,h=>by
  obtain⟨n,hn⟩:∃n,FL P f.type=n+1:=⟨FL P f.type-1,by have:=h f (by simp);omega⟩
  obtain⟨i,d,h1,_,h2⟩:=KO hn;have:=Ws fs (λg hg=>h g (by simp[hg]))
  simp[List.mapM_cons,h1,h2,hn,this]
theorem xG(hT:BG G.P T)(he:Ab C w E mu a.tmps.toList){t:TypeId}{parts:Array (Nat×Operand)}{K:AV->Prop}(hk:HI T E t parts.toList K):
  ∃r v,K r/\Ah C w r mu v/\(Instr.build t (parts.map λp=>(p.1,a.eval p.2))).run G.P w=.ok v w:=by
 unfold HI at hk;replace hk:=AL.1 hk;obtain⟨y,hy,hk⟩:=hk
 split at hk
 ·rename_i fs hf;split at hk
  ·rename_i hb;simp only[CL]at hb;obtain⟨fields,hu,hfs⟩:=hT.struct hy hf;obtain⟨z,Vv,Sd⟩:=EM (C:=C) (w:=w) (mu:=mu) hT hy (Ak hb.1.2) (C1 hb.2);obtain⟨i,d,hi,hd,Vw⟩:=hT.facts hy
   have BW:∀f∈fields.toList,1<=FL G.P f.type:=λf hf'=>by
    have:=List.all_eq_true.1 hb.1.1 (f.offset,FL G.P f.type,AT G.P f.type) (by rw[hfs];exact Kz.2 ⟨f,hf',rfl⟩)
    exact C1 this
   have Lj:=Ws fields.toList BW
   obtain⟨QJ,us,k1,k2,k3⟩:=QC (place:=((fields.toList.map λf=>(f.offset,FL G.P f.type)).toArray[·]?)) (λi f hif=>by
    rw[hfs,El]at hif;simp only[List.getElem?_toArray,El];cases lK:fields.toList[i]? with
    |none=>rw[lK]at hif;simp at hif
    |some fd=>rw[lK]at hif;simp only[FB,A7.injEq]at hif ⊢;subst hif;rfl) he parts.toList y.zero z.cells.toList (by simpa using Sd) hk
   refine⟨_,.agg us.toArray,k1,by unfold Ah;exact⟨us,rfl,k2⟩,run_build w t _ us.toArray ?_⟩
   have hiz:i.zero=some z:=by
    cases hz:i.zero with
    |none=>simp[zeroValue,typeInfo,hi,hz]at Vv
    |some z'=>simp[zeroValue,typeInfo,hi,hz]at Vv;rw[Vv]
   unfold Z3;simp only[hi,hu,hiz,Lj,HU];simpa using k3
  ·exact hk.elim
 ·rename_i n sz ag hf;split at hk
  ·rename_i hb;simp only[CL]at hb;have EI:=C1 hb.1.1;obtain⟨z,Vv,Sd⟩:=EM (C:=C) (w:=w) (mu:=mu) hT hy (Ak hb.1.2) (C1 hb.2);obtain⟨i,d,hi,hd,Vw⟩:=hT.facts hy
   obtain⟨e,rfl,WK,_⟩:∃e,d=.array n e/\FL G.P e=sz/\AT G.P e=ag:=by
    rw[Vw]at hf;cases d<;>simp[kindOf]at hf
    rename_i m' e;exact⟨e,by rw[hf.1],hf.2.1,hf.2.2⟩
   obtain⟨m,rfl⟩:∃m,sz=m+1:=⟨sz-1,by omega⟩
   obtain⟨ie,de,h1,_,h2⟩:=KO WK
   have Lj:∀(n k j:Nat) f,(plA n (m+1) ag k)[j]?=some f->f=(k+j*(m+1),m+1,ag):=by
    intro n;induction n with
    |zero=>intro k j f h;unfold plA at h;simp at h
    |succ n ih=>
     intro k j f h;unfold plA at h;cases j with
     |zero=>simp at h;rw[<-h];simp
     |succ j=>
      simp only[List.getElem?_cons_succ]at h;rw[ih _ _ _ h];congr 1;rw[E1];omega
   obtain⟨QJ,us,k1,k2,k3⟩:=QC (place:=λj=>some (j*(m+1),m+1)) (λj f hjf=>by
    have:=Lj n 0 j f hjf;rw[this];simp) he parts.toList y.zero z.cells.toList (by simpa using Sd) hk
   refine⟨_,.agg us.toArray,k1,by unfold Ah;exact⟨us,rfl,k2⟩,run_build w t _ us.toArray ?_⟩
   have hiz:i.zero=some z:=by
    cases hz:i.zero with
    |none=>simp[zeroValue,typeInfo,hi,hz]at Vv
    |some z'=>simp[zeroValue,typeInfo,hi,hz]at Vv;rw[Vv]
   unfold Z3;simp only[hi,hd,hiz,h1,h2,HU];simpa using k3
  ·exact hk.elim
 ·exact hk.elim
theorem fM{al:Option Nat}(h:Az G C mu E H a w){t:TypeId}{K:AV->KK}(hk:TZ al E H K):GM G a w K (Instr.makeMap t none):=by
 unfold TZ at hk;obtain⟨H',n,Eg,hk⟩:=QM hk;refine⟨_,.map (some w.heap.size),_,_,_,mu.set n (some (.CS w.heap.size)),w.alloc (.map #[] 0),hk,?_,h.alloc _ (.map [] []) Eg (.CS w.heap.size) (by simp[GO.Aq]) (by simp) (by simp) (by simp) ?_,?_⟩
 ·simp[Instr.makeMap]
 ·intro ks vs hc;simp only[HO.map.injEq]at hc;obtain⟨rfl,rfl⟩:=hc;exact⟨#[],0,rfl,rfl,Fx.nil 0,λ_ _=>⟨by unfold Ab;rfl,by unfold Ab;rfl⟩⟩
 ·unfold Ah;exact⟨_,Mu.As _ _ _,rfl⟩
theorem Zg{C:Ae}{w:World}{mu:Mu}{vs:List AV}{us:List Value}(h:Ab C w vs mu us){v:AV}{u:Value}(hv:Ah C w v mu u)(j:Nat):Ab C w (vs.set j v) mu (us.set j u):=by
 have:=Ab.put (vs:=us.toArray) (by simpa using h) j hv
 simpa using this
theorem Wz(hT:BG G.P T)(h:Az G C mu E H a w){t:TypeId}{m k x:Operand}{K:AV->KK}(hk:XI T E H t m k x K):
  ∃E' H' C' mu' w',K (.raw undef) E' H'/\(Instr.mapUpdate t (a.eval m) (a.eval k) (a.eval x)).run G.P w=.ok () w'/\Az G C' mu' E' H' a w':=by
 unfold XI at hk;replace hk:=AL.1 hk;obtain⟨y,hy,hk⟩:=hk
 split at hk
 ·rename_i kt vt XU;have hu:=hT.map hy XU;replace hk:=AL.1 hk;obtain⟨yk,Zdg,hk⟩:=hk
  rw[Ac,Ac,Ac]at hk;split at hk
  ·rename_i hko;simp only[CL]at hko;obtain⟨d,hd,rB⟩:=kY hT Zdg hko.1;have hm:=AX h.env m;have yO:=AX h.env k;have Vx:=AX h.env x;split at hk
   ·rename_i l hme;rw[hme]at hm;replace hk:=AL.1 hk;obtain⟨ob,Bh,hk⟩:=hk
    cases ob<;>first|exact hk.elim|skip
    rename_i ks vs;simp only at hk;obtain⟨hl,hk⟩:=hk;rw[AG]at hk;obtain⟨b,es,clock,h1,h2,h3⟩:=h.heap.maps l ks vs Bh;unfold Ah at hm;obtain⟨b',h4,h5⟩:=hm;rw[h1]at h4;simp only[A7.injEq,GO.CS.injEq]at h4;subst h4;obtain⟨f1,f2⟩:=O9 rB yO ks es.toList 0 hl (h3.2 C w).1;have hik:=rB.isKey yO;have vX:(Instr.checkKey false 10000 kt (a.eval k)).run G.P w=.ok () w:=run_checkKey (P:=G.P) (w:=w) hd hik false 9999;have Sh:=run_findKey (w:=w) hd f1
    have hkm:BN (AM E k)=true:=by
     rcases rB with⟨_,s,e⟩|⟨_,_,_,e⟩<;>rw[e]<;>rfl
    have NU:=Ap _ (h3.2 C w).1;have XW:=Ap _ (h3.2 C w).2;simp only[O0,Ky]at NU XW;cases PA:Qf (AM E k) ks with
    |none=>
     rw[PA]at Sh;refine⟨_,_,C,mu,w.putObj b (.map (es.push {key:=a.eval k,val:=a.eval x,born:=clock}) (clock+1)),hk,?_,h.Tt h1 h2 Bh ?_⟩
     ·simp only[Instr.mapUpdate,Fj,run_underlying hu,E8,h5,Go.MapKept.run_getObj_map h2,vX,Sh,Vz];exact Go.MapKept.run_setObj_map _ h2
     ·refine⟨by rw[U8];exact h3.1.push _ _,λC' w'=>?_⟩
      unfold uH uE;rw[PA];simp only[U8,WC,H0,Rr]
      exact⟨AF (h3.2 C' w').1 (by unfold Ab;exact⟨_,_,rfl,Bb _ hkm yO,by unfold Ab;rfl⟩),
       AF (h3.2 C' w').2 (by unfold Ab;exact⟨_,_,rfl,Bb _ hko.2 Vx,by unfold Ab;rfl⟩)⟩
    |some j=>
     rw[PA]at Sh;obtain⟨e,g1,g2,g3⟩:=f2 j PA;have g1':es[j]?=some e:=by simpa using g1
     simp only[VA,g1,FB,JV]at Sh;refine⟨_,_,C,mu,w.putObj b (.map (es.modify j λe=>{e with key:=a.eval k,val:=a.eval x}) clock),hk,?_,h.Tt h1 h2 Bh ?_⟩
     ·simp only[Instr.mapUpdate,Fj,run_underlying hu,E8,h5,Go.MapKept.run_getObj_map h2,vX,Sh,g1',FB,Option.getD_some,g2,run_keyThatStays hik];exact Go.MapKept.run_setObj_map _ h2
     ·refine⟨h3.1.of_map ?_,λC' w'=>?_⟩
      ·apply Kr
       intro i
       simp only[El,SE,Kj]
       by_cases PB:j=i
       ·subst PB;rw[g1'];simp
       ·simp[PB]
      unfold uH uE;rw[PA]
      have e1:(es.modify j λe=>{e with key:=a.eval k,val:=a.eval x}).toList.map MapEntry.key=es.toList.map MapEntry.key:=modify_keys j _ (λe' he=>by
       rw[g1']at he;simp only[A7.injEq]at he;subst he;exact g2.symm)
      have e2:(es.modify j λe=>{e with key:=a.eval k,val:=a.eval x}).toList.map MapEntry.val=(es.toList.map MapEntry.val).set j (a.eval x):=by
       apply Kr;intro i;simp only[El,SE,Kj,List.getElem?_set,O0,Ky];by_cases PB:j=i
       ·subst PB
        have AP:j<es.size:=by have:=(D0.1 g1).1;simpa using this
        simp[g1',AP]
       ·simp[PB]
      rw[e1,e2];exact⟨(h3.2 C' w').1,Zg (h3.2 C' w').2 (Bb _ hko.2 Vx) j⟩
   ·exact hk.elim
  ·exact hk.elim
 ·exact hk.elim
end
section
variable {G:Cx}{C:Ae}{w:World}{mu:Mu}{H:List HO}{E:List AV}{a:Act}{T:List TY}
theorem oA(u:Value):(qW u).cells=[qW u]:=by
 unfold qW;split;·rename_i k n;cases (decide (k.min<=n)&&decide (n<=k.max))<;>rfl
 ·rfl
 ·rename_i s;cases HM s.data.toList.length 9223372036854775807<;>rfl
 ·rfl
theorem IS(hT:BG G.P T){e:TypeId}{K:AV->Prop}(h:Gc T e K):∃z y,T[e]?=some y/\K z/\z.cells=y.zero:=by
 unfold Gc at h;replace h:=AL.1 h;obtain⟨y,hy,h⟩:=h
 split at h;·exact⟨_,y,hy,h,rfl⟩
 ·split at h
  ·rename_i z hz;rw[AV.AJ]at h;refine⟨z,y,hy,h,?_⟩;rw[hz];obtain⟨i,d,_,_,rfl⟩:=hT.facts hy;simp only at hz;rcases Ju (AT G.P e) i.zero with h0|⟨v,_,e1,_⟩;·rw[h0]at hz;cases hz
   ·have hm:z∈v.cells.toList.map qW:=by rw[<-e1,hz];simp
    obtain⟨u,_,rfl⟩:=Kz.1 hm;exact oA u
  ·exact h.elim
theorem HF(z:AV):∀(n i:Nat),i<n*z.cells.length->(flat (Ef n z))[i]?=z.cells[i%z.cells.length]?
 |0,i,h=>by simp at h
 |n+1,i,h=>by
  have e1:flat (Ef (n+1) z)=z.cells++flat (Ef n z):=by simp[flat,Ui]
  rw[e1,SG];split;·rename_i AP;rw[Nat.mod_eq_of_lt AP]
  ·rename_i lI;rw[E1,Nat.one_mul]at h;rw[HF z n (i-z.cells.length) (by omega)]
   congr 1;exact(Nat.mod_eq_sub_mod (by omega)).symm
theorem MV{z:AV}{zv:Value}{sz:Nat}(hz:Ab C w z.cells mu zv.cells.toList)(hs:z.cells.length=sz)(hp:1<=sz)(n:Nat):
  Ab C w (flat (Ef n z)) mu ((H4 (n*sz)).map (zv.cells[·%zv.cells.size]!)).toList:=by
 have hl:=Ap _ hz
 have hlf:(flat (Ef n z)).length=n*sz:=by
  have:=Bx (sz:=sz) (Ef n z) (λa ha=>by rw[Hs ha,hs])
  simpa using this
 obtain⟨h1,h2⟩:=(AH _).1 hz;refine(AH _).2 ⟨by simp[hlf],λi h3 h4=>?_⟩
 have hzs:zv.cells.size=sz:=by simpa[hs]using h1
 have him:i%sz<sz:=Yu _ (by omega)
 have e1:(flat (Ef n z))[i]=z.cells[i%sz]'(by omega):=by
  have:=HF z n i (by rw[hs];omega)
  rw[F0 h3,hs,F0 (by omega)]at this
  simpa using this
 rw[e1]
 have e2:((H4 (n*sz)).map (zv.cells[·%zv.cells.size]!)).toList[i]=zv.cells.toList[i%sz]'(by simp;omega):=by
  simp[hzs,him]
 rw[e2];exact h2 _ _ _
theorem cells_one{z:AV}{zv:Value}(hz:Ab C w z.cells mu zv.cells.toList)(hs:z.cells.all Dr=true)(n:Nat):∀v∈((H4 n).map (zv.cells[·%zv.cells.size]!)).toList,0<zv.cells.size->v.oneCell'=true:=by
 intro v hv hp;simp only[HU,Kz]at hv;obtain⟨i,_,rfl⟩:=hv;have him:i%zv.cells.size<zv.cells.size:=Yu _ hp;rw[getElem!_pos zv.cells _ him];exact Gn hz hs _ (by simp)
theorem Rw{sz:Nat}(he:Ab C w E mu a.tmps.toList):
  ∀(parts:List (Nat×Operand)) (es:List AV) (vs:List Value) {K:List AV->Prop},(∀x∈es,x.cells.length=sz)->Ab C w (flat es) (Bc mu) vs->(∀v∈vs,v.oneCell'=true)->Ir E sz parts es K->
  ∃Cg us,K Cg/\Cg.length=es.length/\(∀x∈Cg,x.cells.length=sz)/\Ab C w (flat Cg) (Bc mu) us/\(∀v∈us,v.oneCell'=true)/\Instr.fill (λi=>some (i*sz,sz)) vs.toArray (parts.map λp=>(p.1,a.eval p.2))=some us.toArray
 |[],es,vs,K,hz,hr,h1,hk=>⟨es,vs,hk,rfl,hz,hr,h1,rfl⟩
 |(i,x)::r,es,vs,K,hz,hr,h1,hk=>by
  unfold Ir at hk;rw[Ac,Am]at hk;split at hk
  ·rename_i hb;simp only[CL]at hb;obtain⟨⟨⟨b1,b2⟩,b3⟩,b4⟩:=hb;have b1:=Ak b1;have b4:i<es.length:=by have:=b4;simp[Nat.blt]at this;omega
   rw[AG]at hk;obtain⟨us,hv,hu⟩:=Mb (AX he x) b2;have hul:=Ap _ hu;have hub:Ab C w (AM E x).cells (Bc mu) us:=EG _ (by rw[Ns];exact b3) hu
   have hlen:=Ap _ hr;have KB:=Bx es hz;have hmul:(i+1)*sz<=es.length*sz:=E4 _ b4;rw[E1]at hmul
   have OZ:Ab C w (flat (es.set i (AM E x))) (Bc mu) (vs.take (i*sz)++us++vs.drop (i*sz+us.length)):=by
    rw[UD es i _ hz b4 b1,show us.length=sz by omega]
    exact AF (AF (hr.take _) hub) (hr.drop _)
   have h1':∀v∈vs.take (i*sz)++us++vs.drop (i*sz+us.length),v.oneCell'=true:=by
    intro x hx;simp only[Gs]at hx;rcases hx with (hx|hx)|hx;·exact h1 x (FX hx)
    ·exact Gn hu b2 x hx
    ·exact h1 x (Hx hx)
   obtain⟨Cg,Xc,k1,k2,k3,k4,k5,k6⟩:=Rw he r _ _ (λy hy=>by
    rcases PR hy with hy|rfl;·exact hz y hy
    ·exact b1) OZ h1' hk
   refine⟨Cg,Xc,k1,by simpa using k2,k3,k4,k5,?_⟩
   simp only[H0,Instr.fill,hv,GK];rw[if_neg (by simp;omega)]
   have vS:(us.toArray.zipIdx.foldl (λcs (x:Value×Nat)=>cs.setIfInBounds (i*sz+x.2) x.1) vs.toArray)=(vs.take (i*sz)++us++vs.drop (i*sz+us.length)).toArray:=by
    rw[<-Rm,TI];simp only[Um];have:=UB us (i*sz) 0 vs.toArray (by simp;omega)
    simpa using this
   rw[vS];exact k6
  ·exact hk.elim
theorem Lz(hT:BG G.P T)(h:Az G C mu E H a w){t:TypeId}{n:Nat}{parts:Array (Nat×Operand)}{K:HO->(Nat->AV)->Prop}(hk:BH T E t n parts.toList K):
  ∃e Bv es us,K (.arr e Bv es) (λl=>.own l Bv 0 n)/\es.length=n/\(∀x∈es,x.cells.length=Bv)/\Ab C w (flat es) (Bc mu) us/\(∀v∈us,v.oneCell'=true)/\us.length=n*Bv/\n<=16777216/\
   (Instr.buildSlice t n (parts.map λp=>(p.1,a.eval p.2))).run G.P w=.ok (.slice (some ⟨w.heap.size,0,none⟩) n n) (w.alloc (.cells us.toArray e)):=by
 unfold BH at hk;replace hk:=AL.1 hk;obtain⟨y,hy,hk⟩:=hk
 split at hk
 ·rename_i e Bv by' ag hs
  obtain⟨hu,EI,_⟩:=hT.slice hy hs;obtain⟨z,ye,Rj,hk,Z4⟩:=IS hT hk;rw[Am]at hk;split at hk
  ·rename_i hb;simp only[CL]at hb;obtain⟨⟨⟨⟨b1,b2⟩,b3⟩,b4⟩,b5⟩:=hb;have b1:=Ak b1;have b4:=C1 b4;have b5:=C1 b5;rw[DS]at hk;have Jh:=run_sizeOf (P:=G.P) (w:=w) EI b4;obtain⟨i,d,hi,hd,Vw⟩:=hT.facts Rj
   have NF:i.size=Bv:=by
    simp[sizeOf,typeInfo,hi]at Jh;exact Jh
   obtain⟨zv,Vv,Sd⟩:=EM (C:=C) (w:=w) (mu:=Bc mu) hT Rj (by rw[<-Z4,b1,Vw];exact NF.symm) (by rw[Vw];simp only[NF];exact b4)
   rw[<-Z4]at Sd;have hz3:=MV Sd b1 b4 n;have hzl:zv.cells.size=Bv:=by have:=Ap _ Sd;simpa[b1]using this
   have h1:=cells_one Sd b2 (n*Bv);obtain⟨Cg,us,k1,k2,k3,k4,k5,k6⟩:=Rw h.env parts.toList (Ef n z) _ (λx hx=>by rw[Hs hx,b1]) hz3 (λv hv=>h1 v hv (by omega)) hk
   have hul:=Ap _ k4;have KB:=Bx Cg k3;simp only[Kn]at k2;have ZmE:n<=n*Bv:=Rk _ (by omega)
   refine⟨e,Bv,Cg,us,k1,k2,k3,k4,k5,by rw[hul,KB,k2],by omega,?_⟩
   have lJ:Instr.fill (λi=>some (i*Bv,Bv)) ((H4 (n*Bv)).map (zv.cells[·%zv.cells.size]!)) (parts.map λp=>(p.1,a.eval p.2)).toList=some us.toArray:=by
    rw[ND]at k6;rw[HU];exact k6
   by_cases hn:n*Bv=0
   ·obtain rfl:n=0:=by rcases X1.1 hn with h|h<;>omega
    have ZjY:(H4 (0*Bv)).map (zv.cells[·%zv.cells.size]!)=#[]:=by simp
    rw[ZjY,HU]at lJ;have MP:H4 0=#[]:=rfl;simp[Instr.buildSlice,run_underlying hu,Jh,MP,lJ,newRow]
   ·simp only[HU]at lJ;simp[Instr.buildSlice,run_underlying hu,Jh,hn,Vv,newRow,show ¬(16777216<n*Bv) by omega,lJ]
  ·exact hk.elim
 ·exact hk.elim
theorem VK{al:Option Nat}(hT:BG G.P T)(h:Az G C mu E H a w){t:TypeId}{n:Nat}{parts:Array (Nat×Operand)}{K:AV->KK}(hk:Gx al T E H t n parts.toList K):
  GM G a w K (Instr.buildSlice t n (parts.map λp=>(p.1,a.eval p.2))):=by
 unfold Gx at hk;obtain⟨e,Bv,es,us,k1,k2,k3,k4,k5,k6,k7,k8⟩:=Lz hT h hk;obtain⟨H',nn,Eg,k1⟩:=QM k1;obtain⟨mu',m1,m2⟩:=SB (cap:=n) h Eg k3 (e:=e) (vs:=us) (by rw[k2,<-k6,List.take_length];exact k4) k5 (by omega) (by omega) k6
 rw[k2]at m2;exact⟨_,_,_,_,_,_,_,k1,k8,m1,m2⟩
theorem XJ{al:Option Nat}(hT:BG G.P T)(h:Az G C mu E H a w){t:TypeId}{ln cp:Operand}{K:AV->KK}(hk:Ny al T E H t ln cp K):
  GM G a w K (Instr.makeSlice t (a.eval ln) (a.eval cp)):=by
 unfold Ny Dm at hk;replace hk:=AL.1 hk;obtain⟨y,hy,hk⟩:=hk
 split at hk
 ·rename_i e Bv by' ag hs
  obtain⟨hu,EI,hby,_⟩:=hT.slice hy hs;obtain⟨z,ye,Rj,hk,Z4⟩:=IS hT hk;rw[Am]at hk;split at hk
  ·rename_i hb;simp only[CL]at hb;obtain⟨⟨⟨b1,b2⟩,b3⟩,b4⟩:=hb;have b1:=Ak b1;have b4:=C1 b4;rw[Ac,Ac]at hk;have hln:=AX h.env ln;have hcp:=AX h.env cp;split at hk
   ·rename_i n c e1 e2;rw[e1]at hln;rw[e2]at hcp;obtain⟨⟨hn0,hnc,hcb⟩,hk⟩:=hk;obtain⟨H',nn,Eg,hk⟩:=QM hk;obtain⟨v1,r1⟩:=AA hln;obtain⟨v2,r2⟩:=AA hcp;have w1:Xaa.wrap n=n:=by have:=DI _ _ r1;unfold Wr at this;exact this
    have w2:Xaa.wrap c=c:=by have:=DI _ _ r2;unfold Wr at this;exact this
    have r2':=Ri.1 r2;have Jh:=run_sizeOf (P:=G.P) (w:=w) EI b4;obtain⟨i,d,hi,hd,Vw⟩:=hT.facts Rj;have NF:i.size=Bv:=by simp[sizeOf,typeInfo,hi]at Jh;exact Jh
    have ZdE:i.bytes=by':=by unfold X2 at hby;simpa[hi]using hby
    obtain⟨zv,Vv,Sd⟩:=EM (C:=C) (w:=w) (mu:=Bc mu) hT Rj (by rw[<-Z4,b1,Vw];exact NF.symm) (by rw[Vw];simp only[NF];exact b4)
    rw[<-Z4]at Sd;have hz3:=MV Sd b1 b4 c.toNat;have hzl:zv.cells.size=Bv:=by have:=Ap _ Sd;simpa[b1]using this
    have h1:=cells_one Sd b2 (c.toNat*Bv)
    have hz4:Ab C w (flat (Ef n.toNat z)) (Bc mu) (((H4 (c.toNat*Bv)).map (zv.cells[·%zv.cells.size]!)).toList.take (n.toNat*Bv)):=by
     have:=hz3.take (n.toNat*Bv)
     have e:(flat (Ef c.toNat z)).take (n.toNat*Bv)=flat (Ef n.toNat z):=by
      have:Ef c.toNat z=Ef n.toNat z++Ef (c.toNat-n.toNat) z:=by rw[List.replicate_append_replicate];congr 1;omega
      rw[this];have hf:flat (Ef n.toNat z++Ef (c.toNat-n.toNat) z)=flat (Ef n.toNat z)++flat (Ef (c.toNat-n.toNat) z):=by unfold flat;rw[O5]
      have KB:(flat (Ef n.toNat z)).length=n.toNat*Bv:=by
       have:=Bx (sz:=Bv) (Ef n.toNat z) (λa ha=>by rw[Hs ha,b1])
       simpa using this
      rw[hf,<-KB,Mz]
     rw[e]at this;exact this
    obtain⟨mu',m1,m2⟩:=SB (cap:=c.toNat) (es:=Ef n.toNat z) h Eg (λx hx=>by rw[Hs hx,b1]) (e:=e) (vs:=((H4 (c.toNat*Bv)).map (zv.cells[·%zv.cells.size]!)).toList)
     (by rw[Kn];exact hz4) (λv hv=>h1 v hv (by omega)) (by simp;omega) (by omega) (by simp)
    rw[Kn]at m2;rw[ND]at m1 m2;refine⟨_,_,_,_,_,_,_,hk,?_,m1,m2⟩;have gO:¬c<0:=by omega
    have Zgx:¬n<0:=by omega
    have Zjv:¬c<n:=by omega
    have Zj8:¬((281474976710656:Int)<(by':Int)*c):=by omega
    rw[v1,v2];by_cases hn:c.toNat*Bv=0
    ·have hc:c=0:=by
      rcases X1.1 hn with h|h;·omega
      ·omega
     subst hc;have MP:H4 0=#[]:=rfl;simp[Instr.makeSlice,run_underlying hu,Jh,asInt,asIntOf,typeInfo,hi,w1,w2,Zgx,newRow,show ¬(0<n) by omega,show n=0 by omega,MP]
    ·simp[Instr.makeSlice,run_underlying hu,Jh,asInt,asIntOf,typeInfo,hi,ZdE,w1,w2,gO,Zgx,Zjv,Zj8,newRow,hn,Vv]
   ·exact hk.elim
  ·exact hk.elim
 ·exact hk.elim
theorem xB(hT:BG G.P T)(h:Az G C mu E H a w){t ty:TypeId}{x:Operand}{K:AV->KK}(hk:iS T E H t x K):
  GM G a w K (Ql #[t] ty #[a.eval x]):=by
 unfold iS at hk;replace hk:=AL.1 hk;obtain⟨y,hy,hk⟩:=hk
 split at hk
 ·rename_i e Bv by' ag hs
  obtain⟨hu,EI,_⟩:=hT.slice hy hs;obtain⟨z,ye,Rj,hk,Z4⟩:=IS hT hk;rw[Am]at hk;split at hk
  ·rename_i hb;simp only[CL]at hb;obtain⟨⟨⟨b1,b2⟩,b3⟩,b4⟩:=hb;have b1:=Ak b1;have b4:=C1 b4;rw[Ac]at hk;have hx:=AX h.env x;split at hk
   ·rename_i l sz lo n Z5;rw[Z5]at hx;replace hk:=AL.1 hk;obtain⟨ob,Bh,hk⟩:=hk
    cases ob<;>first|exact hk.elim|skip
    rename_i e' BI es;simp only at hk;split at hk
    ·rename_i hc;simp only[CL]at hc;obtain⟨⟨c1,c2⟩,c3⟩:=hc;obtain rfl:=Ak c1;obtain rfl:=Ak c2;obtain rfl:=Ak c3;rw[AG]at hk;have Zge:Ah C w (.tuple []) mu (.tuple #[]):=by unfold Ah;exact⟨[],rfl,by unfold Ab;rfl⟩
     obtain⟨hz,h2⟩:=h.heap.BM l e' BI es Bh;unfold Ah at hx;obtain⟨xv,hm,hle,NT,yC⟩:=hx;have AP:l<H.length:=(D0.1 Bh).1;rcases h2 with⟨h2,rfl⟩|⟨b,cap,cur,h3,⟨fz,h4,O3⟩,h5,h6,h7,h8,h9⟩
     ·rw[hm]at h2;simp only[A7.injEq,GO.arr.injEq]at h2;subst h2;simp only[C8]at hle;obtain rfl:n=0:=by omega
      obtain rfl:lo=0:=by omega
      have gB:H.set l (.arr e' BI (HH [] 0 0 z))=H:=by
       apply Kr;intro i;by_cases hi:i=l;·subst hi;rw[G2 AP,Bh];rfl
       ·rw[C3 (Ne.symm hi)]
      rw[gB]at hk;exact⟨_,.tuple #[],_,_,C,mu,w,hk,by rw[yC];simp[Ql,BO,run_underlying hu],h,Zge⟩
     ·rw[hm]at h3;simp only[A7.injEq,GO.arr.injEq]at h3;subst h3;simp only[C8]at hle;have Jh:=run_sizeOf (P:=G.P) (w:=w) EI b4;obtain⟨i,d,hi,hd,Vw⟩:=hT.facts Rj;have NF:i.size=BI:=by simp[sizeOf,typeInfo,hi]at Jh;exact Jh
      obtain⟨zv,Vv,Sd⟩:=EM (C:=C) (w:=w) (mu:=Bc mu) hT Rj (by rw[<-Z4,b1,Vw];exact NF.symm) (by rw[Vw];simp only[NF];exact b4)
      rw[<-Z4]at Sd;have hz3:=MV Sd b1 b4 n;have hzl:zv.cells.size=BI:=by have:=Ap _ Sd;simpa[b1]using this
      have lC:(Ff zv.cells n).toList=((H4 (n*BI)).map (zv.cells[·%zv.cells.size]!)).toList:=by
       simp only[Ff,hzl]
      have VC:∀v∈(Ff zv.cells n).toList,v.oneCell'=true:=by
       rw[lC];exact λv hv=>cells_one Sd b2 (n*BI) v hv (by omega)
      have hul:(Ff zv.cells n).toList.length=n*BI:=by rw[lC];simp
      have HC:cur.toList.length=cap*BI:=by simpa using h7
      have m1:(lo+n)*BI<=es.length*BI:=E4 _ hle;have m2:es.length*BI<=cap*BI:=E4 _ h5;rw[E1]at m1;have KB:=Bx es hz;generalize hU:(Ff zv.cells n).toList=us at lC VC hul;rw[<-lC]at hz3;by_cases hn:n=0
      ·subst hn
       have gB:H.set l (.arr e' BI (HH es lo 0 z))=H:=by
        apply Kr;intro i;by_cases hi:i=l;·subst hi;rw[G2 AP,Bh];simp[HH]
        ·rw[C3 (Ne.symm hi)]
       rw[gB]at hk
       refine⟨_,.tuple #[],_,_,C,mu,w,hk,?_,h,Zge⟩
       rw[yC]
       simp[Ql,BO,run_underlying hu]
      ·have gM:cur.size=cur.toList.length:=by simp
       have Af:=CW G.P b (lo*BI) e' fz us 0 cur w h4 O3 (by omega) VC
       simp only[Kf]at Af
       have My:mu.set l (some (.arr (.slice (some ⟨b,0,none⟩) es.length cap)))=mu:=by
        funext j;by_cases e:j=l
        ·subst e;rw[Mu.As,hm]
        ·rw[Mu.Ay _ _ e]
       have hx:=F3 (w:=w) (h.heap.fresh _ _ _ hm rfl).2.2 ((cur.toList.take (lo*BI)++us++cur.toList.drop (lo*BI+us.length)).toArray)
       have ZdO:(HH es lo n z).length=es.length:=by
        unfold HH;simp only[C4,E0,Kn,Gt];omega
       have:=Az.write (g:=.arr (.slice (some ⟨b,0,none⟩) es.length cap)) (g':=.arr (.slice (some ⟨b,0,none⟩) es.length cap)) h hm rfl
        (new:=(cur.toList.take (lo*BI)++us++cur.toList.drop (lo*BI+us.length)).toArray) h4 (.arr e' BI (HH es lo n z)) rfl (by simp) (by simp) (E':=E)
        (by rw[My];exact Ab.mono hx _ (AI.refl _) h.env) (H.set l (.arr e' BI (HH es lo n z))) (by simp)
        (λj hj=>by
         rw[C3 (Ne.symm hj),My]
         exact⟨λh=>h,λcs h=>⟨cs,h,λ_ h=>h⟩,λ_ _ _ h=>h,λcs _ _ h=>⟨cs,h,λ_ h=>h⟩,λ_ h=>h⟩)
        (by simp) (by simp[AP])
        (by simp)
        (λe2 sz2 es2 hc=>by
         simp only[HO.arr.injEq]at hc
         obtain⟨rfl,rfl,rfl⟩:=hc
         refine⟨λx hx=>?_,cap,by rw[ZdO],rfl,by rw[ZdO];exact h5,h6,?_,?_,?_⟩
         ·unfold HH at hx
          rcases Gs.1 hx with hx|hx
          ·exact hz x (FX hx)
          ·rcases Gs.1 hx with hx|hx
           ·rw[Hs hx,b1]
           ·exact hz x (Hx hx)
         ·simp only[GK,C4,E0,Gt];omega
         ·have Yx:flat (HH es lo n z)=(flat es).take (lo*BI)++flat (Ef n z)++(flat es).drop (lo*BI+n*BI):=by
           have fa:∀(xs ys:List AV),flat (xs++ys)=flat xs++flat ys:=λxs ys=>by unfold flat;rw[O5]
           have ft:∀(k:Nat)(xs:List AV),(∀a∈xs,a.cells.length=BI)->k<=xs.length->flat (xs.take k)=(flat xs).take (k*BI)/\flat (xs.drop k)=(flat xs).drop (k*BI):=λk xs hxs hk=>by
            have e0:flat xs=flat (xs.take k)++flat (xs.drop k):=by rw[<-fa,MQ]
            have e1:(flat (xs.take k)).length=k*BI:=by
             rw[Bx (sz:=BI) _ λa ha=>hxs a (FX ha),E0,K0 hk]
            constructor;·rw[e0,XV e1]
            ·rw[e0,List.drop_left' e1]
           unfold HH
           rw[fa,fa,(ft lo es hz (by omega)).1,(ft (lo+n) es hz (by omega)).2,E1,List.append_assoc]
          rw[Yx,ZdO]
          have hA:=h8.take (lo*BI)
          have hC:=h8.drop (lo*BI+n*BI)
          have BW:=AF (AF hA hz3) hC
          have e1:(cur.toList.take (es.length*BI)).take (lo*BI)++us++(cur.toList.take (es.length*BI)).drop (lo*BI+n*BI)=List.take (es.length*BI) (cur.toList.take (lo*BI)++us++cur.toList.drop (lo*BI+us.length)):=by
           have:=jP cur.toList us (es.length*BI) (lo*BI) (by omega) (by omega)
           rw[hul]at this ⊢
           exact this
          rw[e1]at BW
          simpa using BW
         ·intro x hx
          simp only[Gs]at hx
          rcases hx with (hx|hx)|hx
          ·exact h9 x (FX hx)
          ·exact VC x hx
          ·exact h9 x (Hx hx))
        (λi hi ks vs h=>by rw[C3 (Ne.symm hi)]at h;exact h) (by simp)
        ⟨λ_ h=>(by cases h),λ_ _ _ _=>O3.size (by simp only[GK,C4,E0,Gt];omega)⟩
       rw[My]at this
       refine⟨_,.tuple #[],_,_,C,mu,_,hk,?_,this,by unfold Ah;exact⟨[],rfl,by unfold Ab;rfl⟩⟩
       rw[yC];obtain⟨n',rfl⟩:∃n',n=n'+1:=⟨n-1,by omega⟩
       simp[Ql,BO,run_underlying hu,Vv,hU,Af]
    ·exact hk.elim
   ·exact hk.elim
  ·exact hk.elim
 ·exact hk.elim
end
section
variable {G:Cx}{C:Ae}{w:World}{mu:Mu}{H:List HO}{E:List AV}{a:Act}{T:List TY}
theorem Pj{b:Nat}:∀(xs ys:List AV){o:Nat},Cells C w xs b o->Cells C w ys b (o+xs.length)->Cells C w (xs++ys) b o
 |[],ys,o,_,h=>by simpa using h
 |x::xs,ys,o,h,k=>by
  simp only[Vy];unfold Cells at h⊢;exact⟨h.1,Pj xs ys h.2 (by rw[show o+1+xs.length=o+(x::xs).length by simp;omega];exact k)⟩
theorem Oa{H:List HO}{l i:Nat}{cs:List AV}{vs:List Value}{ms:List Nat}(hi:(H.map (Bd l))[i]?=some (.ghost cs vs ms)):∃Fy,H[i]?=some (.ghost Fy vs ms)/\cs=BK l Fy:=by
 rw[El]at hi;cases ho:H[i]? with
 |none=>rw[ho]at hi;simp at hi
 |some ob=>
  rw[ho]at hi;cases ob<;>simp[Bd]at hi
  obtain⟨rfl,rfl,rfl⟩:=hi;exact⟨_,rfl,rfl⟩
theorem M5{H:List HO}{l i:Nat}{ks vs:List AV}(hi:(H.map (Bd l))[i]?=some (.map ks vs)):H[i]?=some (.map ks vs):=by
 rw[El]at hi;cases ho:H[i]? with
 |none=>rw[ho]at hi;simp at hi
 |some ob=>
  rw[ho]at hi;cases ob<;>simp[Bd]at hi
  obtain⟨rfl,rfl⟩:=hi;rfl
theorem Te{H:List HO}{l i:Nat}{I:Inv}(hi:(H.map (Bd l))[i]?=some (.inv I)):H[i]?=some (.inv I):=by
 rw[El]at hi;cases ho:H[i]? with
 |none=>rw[ho]at hi;simp at hi
 |some ob=>
  rw[ho]at hi;cases ob<;>simp[Bd]at hi
  subst hi;rfl
theorem Az.renew(h:Az G C mu E H a w){l:Nat}{e:TypeId}{sz:Nat}{rE:List AV}(hl:H[l]?=some (.arr e sz rE)){es:List AV}{vs:List Value}{cap:Nat}
  (hz:∀a∈es,a.cells.length=sz) (hr:Ab C w (flat es) (Bc mu) (vs.take (es.length*sz))) (h1:∀v∈vs,v.oneCell'=true) (hc:es.length<=cap) (hm:cap<=9223372036854775807) (hv:vs.length=cap*sz):
  Az G C (mu.set l (some (.arr (.slice (some ⟨w.heap.size,0,none⟩) es.length cap)))) (BK l E) ((H.map (Bd l)).set l (.arr e sz es)) a (w.alloc (.cells vs.toArray e)):=by
 have AP:l<H.length:=(D0.1 hl).1
 have yI:∀b,mu l≠some (.CS b):=λb hb=>by
  obtain⟨_,h2⟩:=h.heap.BM l e sz rE hl;rcases h2 with⟨h2,_⟩|⟨_,_,_,h2,_⟩<;>(rw[hb]at h2;cases h2)
 have hx:=Jm (C:=C) (w:=w) h.lt (.cells vs.toArray e);have KB:∀{g':GO}{i b},mu i=some g'->g'.Aq=some b->b<w.heap.size:=λhm hb=>(h.heap.fresh _ _ _ hm hb).2.1
 have hblk:AI (Bc mu) (Bc (mu.set l (some (.arr (.slice (some ⟨w.heap.size,0,none⟩) es.length cap))))):=D2 λi b hb=>by
  rw[Mu.Ay _ _ (λee=>by subst ee;exact yI b hb)];exact hb
 have vG:∀{cs:List AV}{us:List Value},Ab C w cs mu us->Ab C (w.alloc (.cells vs.toArray e)) (BK l cs) (mu.set l (some (.arr (.slice (some ⟨w.heap.size,0,none⟩) es.length cap)))) us:=λk=>
  Ab.mono hx _ (AI.refl _) (CO _ (λb hb=>absurd hb (yI b)) k)
 refine⟨h.c0,h.c1,λb o hc=>by have:=h.lt b o hc;simp;omega,⟨?_,?_,?_,?_,?_,?_,?_⟩,vG h.env,?_,h.Ax.alloc _,by simpa using h.Ds.1,λi k hn hi=>by
  have hp:=h.Ds.2 i k hn hi;by_cases e:i=l
  ·subst e;obtain⟨_,q⟩:=h.heap.BM _ _ _ _ hl;rcases q with⟨q,_⟩|⟨_,_,_,q,_⟩;·rw[hp]at q;cases q
   ·rw[hp]at q;cases q
  ·rw[Mu.Ay _ _ e];exact hp⟩
 rotate_right
 ·obtain⟨ms,k1,k2⟩:=h.defers;refine⟨ms,k1,k2.step (Hk (λb hb=>hb.1) _) (λi x b hi hb=>?_) (λ_ _ h=>.inl h) (λi cs us ms hi=>?_) (λi I hi=>?_)⟩
  ·by_cases ei:i=l
   ·subst ei;rw[Mu.As]at hi;simp only[A7.injEq]at hi;subst hi;simp only[GO.Aq,A7.injEq]at hb;exact .inr (Nat.le_of_eq hb)
   ·rw[Mu.Ay _ _ ei]at hi;exact .inl ⟨i,x,hi,hb⟩
  ·by_cases ei:i=l;·subst ei;simp[AP]at hi
   ·rw[C3 (Ne.symm ei)]at hi;obtain⟨Fy,k1,rfl⟩:=Oa hi;exact⟨Fy,k1,vG⟩
  ·by_cases ei:i=l;·subst ei;simp[AP]at hi
   ·rw[C3 (Ne.symm ei)]at hi;exact Te hi
 ·intro i x hi;simp only[XZ,O0];by_cases ei:i=l;·subst ei;exact AP
  ·rw[Mu.Ay _ _ ei]at hi;exact h.heap.Is _ _ hi
 ·intro i x b hi hb;by_cases ei:i=l
  ·subst ei;rw[Mu.As]at hi;simp only[A7.injEq]at hi;subst hi;simp only[GO.Aq,A7.injEq]at hb;subst hb;exact⟨.inl h.Ax.size,by simp,λo hc=>absurd (h.lt _ _ hc) (by omega)⟩
  ·rw[Mu.Ay _ _ ei]at hi;obtain⟨k1,k2,k3⟩:=h.heap.fresh _ _ _ hi hb;exact⟨k1,by simp;omega,k3⟩
 ·intro i x b i' x' hi hb Fk MC;by_cases ei:i=l
  ·subst ei;rw[Mu.As]at hi;simp only[A7.injEq]at hi;subst hi;simp only[GO.Aq,A7.injEq]at hb;subst hb;by_cases ei':i'=i;·exact ei'
   ·rw[Mu.Ay _ _ ei']at Fk;exact absurd (KB Fk MC) (by omega)
  ·rw[Mu.Ay _ _ ei]at hi;by_cases ei':i'=l
   ·subst ei';rw[Mu.As]at Fk;simp only[A7.injEq]at Fk;subst Fk;simp only[GO.Aq,A7.injEq]at MC;subst MC;exact absurd (KB hi hb) (by omega)
   ·rw[Mu.Ay _ _ ei']at Fk;exact h.heap.sep _ _ _ _ _ hi hb Fk MC
 ·intro i hi;by_cases ei:i=l;·subst ei;simp[AP]at hi
  ·rw[C3 (Ne.symm ei),El]at hi;rw[Mu.Ay _ _ ei];cases ho:H[i]? with
   |none=>rw[ho]at hi;simp at hi
   |some ob=>
    rw[ho]at hi;cases ob with
    |dead=>exact h.heap.dead i ho
    |arr _ _ _|cells _|ghost _ _ _|inv _|map _ _=>simp[Bd]at hi
 ·intro i cs hi;by_cases ei:i=l;·subst ei;simp[AP]at hi
  ·rw[C3 (Ne.symm ei),El]at hi;cases ho:H[i]? with
   |none=>rw[ho]at hi;simp at hi
   |some ob=>
    rw[ho]at hi;cases ob with
    |arr _ _ _|dead|ghost _ _ _|inv _|map _ _=>simp[Bd]at hi
    |cells Fy=>
     simp only[FB,Bd,A7.injEq,HO.cells.injEq]at hi;subst hi;obtain⟨b,cur,e',k1,k2,k3,k4⟩:=h.heap.Cr i Fy ho;exact⟨b,cur,e',by rw[Mu.Ay _ _ ei];exact k1,by rw[heap_alloc_old _ _ (KB k1 rfl)];exact k2,vG k3,k4⟩
 ·intro i e' BI Cg hi;by_cases ei:i=l
  ·subst ei;simp only[G2 (show i<(H.map (Bd i)).length by simpa using AP),A7.injEq,HO.arr.injEq]at hi
   obtain⟨rfl,rfl,rfl⟩:=hi;exact⟨hz,.inr ⟨w.heap.size,cap,vs.toArray,Mu.As _ _ _,⟨_,heap_alloc_new _ _,.inl rfl⟩,hc,hm,by simpa using hv,by simpa using Ab.mono hx _ hblk hr,by simpa using h1⟩⟩
  ·rw[C3 (Ne.symm ei),El]at hi;cases ho:H[i]? with
   |none=>rw[ho]at hi;simp at hi
   |some ob=>
    rw[ho]at hi;cases ob with
    |cells _|dead|ghost _ _ _|inv _|map _ _=>simp[Bd]at hi
    |arr e0 sz0 ZkM=>
     simp only[FB,Bd,A7.injEq,HO.arr.injEq]at hi;obtain⟨rfl,rfl,rfl⟩:=hi;obtain⟨k0,k⟩:=h.heap.BM i _ _ _ ho;refine⟨k0,k.imp (λ⟨k1,k2⟩=>⟨by rw[Mu.Ay _ _ ei];exact k1,k2⟩) λ⟨b,bK,cur,k1,k2,k3,k4,k5,k6,k7⟩=>⟨b,bK,cur,by rw[Mu.Ay _ _ ei];exact k1,?_,k3,k4,k5,Ab.mono hx _ hblk k6,k7⟩⟩
     exact k2.of_eq (heap_alloc_old _ _ (KB k1 rfl))
 ·intro i ks us hi;by_cases ei:i=l;·subst ei;simp[AP]at hi
  ·rw[C3 (Ne.symm ei)]at hi;obtain⟨b,es,cl,h1,h2,h3⟩:=h.heap.maps i ks us (M5 hi);exact⟨b,es,cl,by rw[Mu.Ay _ _ ei];exact h1,by rw[heap_alloc_old _ _ (KB h1 rfl)];exact h2,h3⟩
theorem Az.Co(h:Az G C mu E H a w)(l:Nat):Az G C mu (BK l E) (H.map (Bd l)) a w:=by
 have My:mu.set l (mu l)=mu:=by
  funext i;by_cases e:i=l
  ·subst e;rw[Mu.As]
  ·rw[Mu.Ay _ _ e]
 have vG:∀{cs:List AV}{us:List Value},Ab C w cs mu us->Ab C w (BK l cs) mu us:=λk=>by
  have:=CO (l:=l) (g:=mu l) _ (λb hb=>hb) k
  rwa [My]at this
 refine⟨h.c0,h.c1,h.lt,⟨λi x hi=>by simpa using h.heap.Is i x hi,h.heap.fresh,h.heap.sep,?_,?_,?_,λi ks us hi=>h.heap.maps i ks us (M5 hi)⟩,vG h.env,?_,h.Ax,by simpa using h.Ds.1,h.Ds.2⟩
 rotate_right
 ·obtain⟨ms,k1,k2⟩:=h.defers;refine⟨ms,k1,k2.step ⟨rfl,rfl,rfl,Qx _,λ_ _=>rfl⟩ (λi x b hi hb=>.inl ⟨i,x,hi,hb⟩) (λ_ _ h=>.inl h) (λi cs us ms hi=>?_) (λi I hi=>Te hi)⟩
  obtain⟨Fy,k1,rfl⟩:=Oa hi;exact⟨Fy,k1,vG⟩
 ·intro i hi;rw[El]at hi;cases ho:H[i]? with
  |none=>rw[ho]at hi;simp at hi
  |some ob=>
   rw[ho]at hi;cases ob with
   |dead=>exact h.heap.dead i ho
   |arr _ _ _|cells _|ghost _ _ _|inv _|map _ _=>simp[Bd]at hi
 ·intro i cs hi;rw[El]at hi;cases ho:H[i]? with
  |none=>rw[ho]at hi;simp at hi
  |some ob=>
   rw[ho]at hi;cases ob with
   |arr _ _ _|dead|ghost _ _ _|inv _|map _ _=>simp[Bd]at hi
   |cells Fy=>
    simp only[FB,Bd,A7.injEq,HO.cells.injEq]at hi;subst hi;obtain⟨b,cur,e',k1,k2,k3,k4⟩:=h.heap.Cr i Fy ho;exact⟨b,cur,e',k1,k2,vG k3,k4⟩
 ·intro i e' BI Cg hi;rw[El]at hi;cases ho:H[i]? with
  |none=>rw[ho]at hi;simp at hi
  |some ob=>
   rw[ho]at hi;cases ob with
   |cells _|dead|ghost _ _ _|inv _|map _ _=>simp[Bd]at hi
   |arr e0 sz0 ZkM=>
    simp only[FB,Bd,A7.injEq,HO.arr.injEq]at hi;obtain⟨rfl,rfl,rfl⟩:=hi;exact h.heap.BM i _ _ _ ho
theorem Az.Qc(h:Az G C mu E H a w){n:Nat}{H':List HO}{e:TypeId}{sz:Nat}(Eg:Al H n H' (.arr e sz [])):Az G C (mu.set n (some (.arr (.slice none 0 0)))) E H' a w/\
  Ah C w (.own n sz 0 0) (mu.set n (some (.arr (.slice none 0 0)))) (.slice none 0 0):=by
 have Ul:mu n=none:=by
  rcases Eg.free with hf|hf
  ·cases hm:mu n with
   |none=>rfl
   |some x=>exact absurd (h.heap.Is _ _ hm) (by have:=Pz.1 hf;omega)
  ·exact h.heap.dead n hf
 have hle:=OJ (mu:=mu) (l:=n) (some (.arr (.slice none 0 0))) Ul;have hblk:AI (Bc mu) (Bc (mu.set n (some (.arr (.slice none 0 0))))):=D2 λl b e=>hle l _ e
 refine⟨⟨h.c0,h.c1,h.lt,⟨?_,?_,?_,?_,?_,?_,?_⟩,Ab.mono (Ext.refl _ _) _ hle h.env,?_,h.Ax,KG h.Ds.1 Eg.len,λi b hn hi=>hle i _ (h.Ds.2 i b hn hi)⟩,?_⟩
 rotate_right 2
 ·obtain⟨ms,k1,k2⟩:=h.defers;refine⟨ms,k1,k2.step ⟨rfl,rfl,rfl,Qx _,λ_ _=>rfl⟩ (λi x b hi hb=>?_) (λ_ _ h=>.inl h) (λi cs us ms hi=>?_) (λi I hi=>?_)⟩
  ·by_cases ei:i=n
   ·subst ei;rw[Mu.As]at hi;simp only[A7.injEq]at hi;subst hi;cases hb
   ·rw[Mu.Ay _ _ ei]at hi;exact .inl ⟨i,x,hi,hb⟩
  ·by_cases ei:i=n;·subst ei;rw[Eg.get]at hi;cases hi
   ·rw[Eg.other i ei]at hi;exact⟨cs,hi,Ab.mono (Ext.refl _ _) _ hle⟩
  ·by_cases ei:i=n;·subst ei;rw[Eg.get]at hi;cases hi
   ·rw[Eg.other i ei]at hi;exact hi
 rotate_left
 ·intro l x hl;by_cases e:l=n;·subst e;exact Eg.lt
  ·rw[Mu.Ay _ _ e]at hl;have:=h.heap.Is _ _ hl;have:=Eg.len;omega
 ·intro l x b hl hb;by_cases e:l=n
  ·subst e;rw[Mu.As]at hl;simp only[A7.injEq]at hl;subst hl;simp[GO.Aq]at hb
  ·rw[Mu.Ay _ _ e]at hl;exact h.heap.fresh _ _ _ hl hb
 ·intro l x b l' x' hl hb Bm MC
  have aux:∀{i x},mu.set n (some (.arr (.slice none 0 0))) i=some x->x.Aq=some b->mu i=some x:=λ{i x} hi hb=>by
   by_cases e:i=n
   ·subst e;rw[Mu.As]at hi;simp only[A7.injEq]at hi;subst hi;simp[GO.Aq]at hb
   ·rw[Mu.Ay _ _ e]at hi;exact hi
  exact h.heap.sep _ _ _ _ _ (aux hl hb) hb (aux Bm MC) MC
 ·intro l hl;by_cases e:l=n;·subst e;rw[Eg.get]at hl;simp at hl
  ·rw[Eg.other l e]at hl;rw[Mu.Ay _ _ e];exact h.heap.dead l hl
 ·intro l cs hl;by_cases e:l=n;·subst e;rw[Eg.get]at hl;simp at hl
  ·rw[Eg.other l e]at hl;obtain⟨b,cur,e,h1,h2,h3,h4⟩:=h.heap.Cr l cs hl;exact⟨b,cur,e,hle _ _ h1,h2,Ab.mono (Ext.refl _ _) _ hle h3,h4⟩
 ·intro l e' BI es hl;by_cases e:l=n
  ·subst e;rw[Eg.get]at hl;simp only[A7.injEq,HO.arr.injEq]at hl;obtain⟨_,_,rfl⟩:=hl;exact⟨by simp,.inl ⟨Mu.As _ _ _,rfl⟩⟩
  ·rw[Eg.other l e]at hl;obtain⟨h1,h2⟩:=h.heap.BM l e' BI es hl;exact⟨h1,h2.imp (λ⟨k1,k2⟩=>⟨hle _ _ k1,k2⟩) λ⟨b,cap,cur,k1,k2,k3,k4,k5,k6,k7⟩=>⟨b,cap,cur,hle _ _ k1,k2,k3,k4,k5,Ab.mono (Ext.refl _ _) _ hblk k6,k7⟩⟩
 ·intro l ks us hl;by_cases e:l=n;·subst e;rw[Eg.get]at hl;simp at hl
  ·rw[Eg.other l e]at hl;obtain⟨b,es,cl,h1,h2,h3⟩:=h.heap.maps l ks us hl;exact⟨b,es,cl,hle _ _ h1,h2,h3⟩
 ·unfold Ah;exact⟨_,Mu.As _ _ _,by simp[C8],by simp[C8,Kk],by simp[BO]⟩
theorem UL(h:Az G C mu E H a w){x:AV}{u:Value}(hx:Ah C w x mu u){K:Nat->List AV->Prop}(hk:Fo H x K):
  ∃sz xs,K sz xs/\(∀a∈xs,a.cells.length=sz)/\((u=.slice none 0 0/\xs=[])\/∃ad c vs,u=.slice (some ad) xs.length c/\vs.length=xs.length*sz/\Ab C w (flat xs) (Bc mu) vs/\
   (∀j v,vs[j]?=some v->w.cell? (ad.add j)=some v)/\∀v∈vs,v.oneCell'=true):=by
 cases x with
 |sl sz es=>
  simp only[Fo]at hk;unfold Ah at hx;rcases hx with⟨⟨ad,rfl⟩,rfl⟩|⟨b,o,cap,rfl,h1,h2,h3⟩
  ·cases ad with
   |none=>exact⟨sz,[],hk,by simp,.inl ⟨rfl,rfl⟩⟩
   |some ad=>exact⟨sz,[],hk,by simp,.inr ⟨ad,0,[],rfl,by simp,by simp[flat,Ab],by simp,by simp⟩⟩
  ·have hz:∀a∈es,a.cells.length=sz:=λx hx=>by
    obtain⟨i,hi,rfl⟩:=List.getElem_of_mem hx;exact((DQ es o).1 h3 i hi).1
   have hc:Cells C w (flat es) b o:=by
    clear hk h1;induction es generalizing o with
    |nil=>simp[flat,Cells]
    |cons e es ih=>
     rw[Wd]at h3;have e1:flat (e::es)=e.cells++flat es:=by simp[flat]
     rw[e1];exact Pj _ _ h3.1.2 (by rw[h3.1.1];exact ih _ h3.2 (λx hx=>hz x (by simp[hx])))
   obtain⟨vs,k1,k2,k3⟩:=hc.mS;refine⟨sz,es,hk,hz,.inr ⟨_,cap,vs,rfl,by rw[Ap _ k2,Bx es hz],k2.up,λj v hv=>?_,k3⟩⟩
   rw[add_lit];exact k1 j v hv
 |own l sz lo n=>
  simp only[Fo]at hk;replace hk:=AL.1 hk;obtain⟨ob,Bh,hk⟩:=hk
  cases ob with
  |cells _|dead|ghost _ _ _|inv _|map _ _=>exact hk.elim
  |arr e BI es=>
   simp only at hk;split at hk
   ·rename_i hb;simp only[CL]at hb;obtain rfl:=Ak hb.1;obtain rfl:=Ak hb.2;obtain⟨rfl,hk⟩:=hk;unfold Ah at hx;obtain⟨x,hm,hle,NT,rfl⟩:=hx;obtain⟨hz,h2⟩:=h.heap.BM l e sz es Bh;rcases h2 with⟨h2,rfl⟩|⟨b,cap,cur,h3,⟨fz,h4,O3⟩,h5,h6,h7,h8,h9⟩
    ·rw[hm]at h2;simp only[A7.injEq,GO.arr.injEq]at h2;subst h2;exact⟨sz,[],hk,by simp,.inl ⟨rfl,rfl⟩⟩
    ·rw[hm]at h3;simp only[A7.injEq,GO.arr.injEq]at h3;subst h3;have HC:cur.toList.length=cap*sz:=by simpa using h7
     have hmul:es.length*sz<=cap*sz:=E4 _ h5;refine⟨sz,es,hk,hz,.inr ⟨⟨b,0,none⟩,cap,cur.toList.take (es.length*sz),by simp[BO],by rw[E0];omega,h8,λj v hv=>?_,λv hv=>h9 v (FX hv)⟩⟩
     rw[add_lit];have:=(I2 h4) j v;rw[Ji]at hv;split at hv;·exact this hv
     ·cases hv
   ·exact hk.elim
 |_=>exact hk.elim
end
section
variable {G:Cx}{C:Ae}{w:World}{mu:Mu}{H:List HO}{E:List AV}{a:Act}{T:List TY}
theorem Vg{z:Value}{zc:List AV}(hz:Ab C w zc mu z.cells.toList)(hs:zc.all Dr=true)(n:Nat)(hp:0<z.cells.size):∀v∈(Ff z.cells n).toList,v.oneCell'=true:=by
 intro v hv;simp only[Ff,HU,Kz]at hv;obtain⟨i,_,rfl⟩:=hv;have him:i%z.cells.size<z.cells.size:=Yu _ hp;rw[getElem!_pos z.cells _ him];exact Gn hz hs _ (by simp)
theorem Me(vs:List Value)(Z:Array Value):vs.toArray++Z=(vs++Z.toList).toArray:=by cases Z;simp
theorem aW(xs ys:List AV):flat (xs++ys)=flat xs++flat ys:=by unfold flat;rw[O5]
structure bX(P:Program)(t e:TypeId)(sz by':Nat)(z:Value)(i:TypeInfo):Prop where
 ht:P.underlying t=some (.slice e)
 hi:P.info? e=some i
 hz:i.zero=some z
 hs:i.size=sz
 hb:i.bytes=by'
 hzs:z.cells.size=sz
 hp:1<=sz
 one:∀n,∀v∈(Ff z.cells n).toList,v.oneCell'=true
theorem IX{P:Program}{t e:TypeId}{sz by':Nat}{z:Value}{i:TypeInfo}(A:bX P t e sz by' z i)(n:Nat):(Ff z.cells n).toList.length=n*sz:=by
 simp[Ff,A.hzs]
theorem Zbr(h:Az G C mu E H a w){n:Nat}{H':List HO}{t ty e:TypeId}{sz by':Nat}{z:Value}{i:TypeInfo}(A:bX G.P t e sz by' z i){xs:List AV}(Eg:Al H n H' (.arr e sz xs)){u:Value}(oU:∀a∈xs,a.cells.length=sz)
  (hu:(u=.slice none 0 0/\xs=[])\/∃ad c vs,u=.slice (some ad) xs.length c/\vs.length=xs.length*sz/\Ab C w (flat xs) (Bc mu) vs/\(∀j v,vs[j]?=some v->w.cell? (ad.add j)=some v)/\∀v∈vs,v.oneCell'=true)
  (hb:xs.length*by'<=140737488355328) (hm:xs.length<=9223372036854775807):
  ∃mu' w' v,(GZ #[t,t] ty #[.slice none 0 0,u]).run G.P w=.ok v w'/\Az G C mu' E H' a w'/\Ah C w' (.own n sz 0 xs.length) mu' v:=by
 have Zds:xs.length=0->∀u',(∃ad,u'=.slice ad 0 0\/∃c,u'=.slice ad 0 c)->(GZ #[t,t] ty #[.slice none 0 0,u']).run G.P w=.ok (.slice none 0 0) w:=by
  rintro _ u' ⟨ad,rfl|⟨c,rfl⟩⟩<;>cases ad<;>simp[GZ,run_underlying A.ht,sizeOf,typeInfo,A.hi,NR,K2,loadCells,loadCellsFrom]
 by_cases hx:xs.length=0
 ·have Mw:xs=[]:=Nw hx;subst Mw;obtain⟨h1,h2⟩:=h.Qc Eg;refine⟨_,w,_,Zds hx u ?_,h1,h2⟩;rcases hu with⟨rfl,_⟩|⟨ad,c,vs,rfl,_⟩;·exact⟨none,.inl rfl⟩
  ·exact⟨some ad,.inr ⟨c,rfl⟩⟩
 ·rcases hu with⟨_,rfl⟩|⟨ad,c,vs,rfl,hl,hr,Eu,h1⟩;·simp at hx
  ·have MP:=run_append_nil (P:=G.P) w t ty e i z A.ht A.hi A.hz ad xs.length c vs (by rw[hl,A.hs]) Eu (by omega) (by omega) (by rw[A.hb];omega)
   have lI:=grownCap_ge w xs.length 0 e;have hle:=grownCap_le_maxLen w xs.length 0 e (by simp only[maxLen];omega)
   simp only[maxLen]at hle
   obtain⟨mu',m1,m2⟩:=SB (e:=e) (cap:=grownCap w xs.length 0 e) (vs:=vs++(Ff z.cells (grownCap w xs.length 0 e-xs.length)).toList) h.drew Eg oU
    (by rw[<-hl,Mz];exact Ab.mono HG _ (AI.refl _) hr)
    (λv hv=>by
     rcases Gs.1 hv with hv|hv
     ·exact h1 v hv
     ·exact A.one _ v hv)
    lI (by omega) (by rw[C4,hl,IX A,<-E1];congr 1;omega)
   refine⟨mu',_,_,?_,m1,m2⟩;rw[MP,Me];rfl
theorem RT{P:Program}(w:World)(t ty e:TypeId)(i:TypeInfo)(ht:P.underlying t=some (.slice e))(hi:P.info? e=some i)
  (g dL ZcN:Nat) (cur:Array Value) {fz:Nat×Nat} (hg:w.heap[g]?=some (.cells cur e fz)) (O3:VN cur fz)
  (a:Addr) (m c:Nat) (news:List Value) (hl:news.length=m*i.size) (Zgw:∀j u,news[j]?=some u->w.cell? (a.add j)=some u) (h1:∀u∈news,u.oneCell'=true)
  (Uj:dL+m<=ZcN) (Fl:dL*i.size+news.length<=cur.size):
  (GZ #[t,t] ty #[.slice (some ⟨g,0,none⟩) dL ZcN,.slice (some a) m c]).run P w=
   .ok (.slice (some ⟨g,0,none⟩) (dL+m) ZcN) (w.setRow g (cur.toList.take (dL*i.size)++news++cur.toList.drop (dL*i.size+news.length)).toArray):=by
 have hf:=run_firstCells_some (P:=P) w i.size m a m c news hl Zgw;have Af:=CW P g (dL*i.size) e fz news 0 cur w hg O3 (by simpa using Fl) h1
 simp only[Kf]at Af;simp[GZ,run_underlying ht,sizeOf,typeInfo,hi,NR,Uj,hf,add_lit,Af]
theorem Zbq(h:Az G C mu E H a w){t ty e:TypeId}{sz by':Nat}{z:Value}{i:TypeInfo}(A:bX G.P t e sz by' z i){l:Nat}{es:List AV}(hl:H[l]?=some (.arr e sz es)){s:Value}
  (hs:Ah C w (.own l sz 0 es.length) mu s) {xs:List AV} {u:Value} (oU:∀a∈xs,a.cells.length=sz)
  (hu:(u=.slice none 0 0/\xs=[])\/∃ad c vs,u=.slice (some ad) xs.length c/\vs.length=xs.length*sz/\Ab C w (flat xs) (Bc mu) vs/\(∀j v,vs[j]?=some v->w.cell? (ad.add j)=some v)/\∀v∈vs,v.oneCell'=true)
  (hb:(es++xs).length*by'<=140737488355328) (hm:(es++xs).length<=9223372036854775807):
  ∃mu' w' v,(GZ #[t,t] ty #[s,u]).run G.P w=.ok v w'/\Az G C mu' (BK l E) ((H.map (Bd l)).set l (.arr e sz (es++xs))) a w'/\Ah C w' (.own l sz 0 (es++xs).length) mu' v:=by
 obtain⟨hz,h2⟩:=h.heap.BM l e sz es hl;have AP:l<H.length:=(D0.1 hl).1;have Zf7:∀a∈es++xs,a.cells.length=sz:=λx hx=>(Gs.1 hx).elim (hz x) (oU x)
 have gA:∀{ob:HO},H[l]?=some ob->Bd l ob=ob->(H.map (Bd l)).set l ob=H.map (Bd l):=λ{ob} ho vG=>by
  apply Kr;intro j;by_cases e:j=l;·subst e;rw[G2 (by simpa using AP),El,ho];simp[vG]
  ·rw[C3 (Ne.symm e)]
 unfold Ah at hs;obtain⟨x,NT,hle,Zjw,rfl⟩:=hs
 -- nothing is appended
 by_cases hx:xs.length=0
 ·have Mw:xs=[]:=Nw hx;subst Mw;simp only[Sk];rw[gA hl rfl];refine⟨mu,w,BO x sz 0 es.length,?_,h.Co l,by unfold Ah;exact⟨x,NT,hle,Zjw,rfl⟩⟩
  have hu':∃ad c,u=.slice ad 0 c:=by
   rcases hu with⟨rfl,_⟩|⟨ad,c,vs,rfl,_⟩;·exact⟨none,0,rfl⟩
   ·exact⟨some ad,c,rfl⟩
  obtain⟨ad,c,rfl⟩:=hu';rcases h2 with⟨h2,rfl⟩|⟨b,cap,cur,h3,h4,h5,h6,h7,h8,h9⟩
  ·rw[NT]at h2;simp only[A7.injEq,GO.arr.injEq]at h2;subst h2;cases ad<;>simp[BO,GZ,run_underlying A.ht,sizeOf,typeInfo,A.hi,NR,K2,loadCells,loadCellsFrom]
  ·rw[NT]at h3;simp only[A7.injEq,GO.arr.injEq]at h3;subst h3;cases ad<;>simp[BO,GZ,run_underlying A.ht,sizeOf,typeInfo,A.hi,NR,K2,loadCells,loadCellsFrom,h5,storeCells]
 ·rcases hu with⟨_,rfl⟩|⟨ad,c,vs,rfl,XW,hr,Eu,h1⟩;·simp at hx
  rw[C4]at hb hm;rcases h2 with⟨h2,rfl⟩|⟨b,cap,cur,h3,⟨fz,h4,O3⟩,h5,h6,h7,h8,h9⟩
  · -- it was nil
   rw[NT]at h2;simp only[A7.injEq,GO.arr.injEq]at h2;subst h2;simp only[KT,JV]at hb hm;have MP:=run_append_nil (P:=G.P) w t ty e i z A.ht A.hi A.hz ad xs.length c vs (by rw[XW,A.hs]) Eu (by omega) (by omega) (by rw[A.hb];omega)
   have lI:=grownCap_ge w xs.length 0 e;have hle:=grownCap_le_maxLen w xs.length 0 e (by simp only[maxLen];omega)
   simp only[maxLen]at hle
   have m1:=h.drew.renew hl (es:=xs) (cap:=grownCap w xs.length 0 e) (vs:=vs++(Ff z.cells (grownCap w xs.length 0 e-xs.length)).toList) oU
    (by rw[<-XW,Mz];exact Ab.mono HG _ (AI.refl _) hr)
    (λv hv=>by
     rcases Gs.1 hv with hv|hv
     ·exact h1 v hv
     ·exact A.one _ v hv)
    lI (by omega) (by rw[C4,XW,IX A,<-E1];congr 1;omega)
   refine⟨_,_,.slice (some ⟨w.heap.size,0,none⟩) xs.length (grownCap w xs.length 0 e),?_,m1,?_⟩;·simp only[BO,KT];rw[MP,Me]
   ·simp only[N0];unfold Ah;exact⟨_,Mu.As _ _ _,by simp[C8],by simp only[C8,Kk];omega,by simp[BO]⟩
  ·rw[NT]at h3;simp only[A7.injEq,GO.arr.injEq]at h3;subst h3;have HC:cur.toList.length=cap*sz:=by simpa using h7
   have hmul:es.length*sz<=cap*sz:=E4 _ h5;have XY:BO (.slice (some ⟨b,0,none⟩) es.length cap) sz 0 es.length=.slice (some ⟨b,0,none⟩) es.length cap:=by simp[BO]
   rw[XY];have ZgY:Ab C w (flat (es++xs)) (Bc mu) (cur.toList.take (es.length*sz)++vs):=by rw[aW];exact AF h8 hr
   by_cases Uj:es.length+xs.length<=cap
   · -- there is room
    have WI:(es.length+xs.length)*sz<=cap*sz:=E4 _ Uj;rw[E1]at WI;have MP:=RT (P:=G.P) w t ty e i A.ht A.hi b es.length cap cur h4 O3 ad xs.length c vs (by rw[XW,A.hs]) Eu h1 Uj (by rw[A.hs,XW];omega)
    rw[A.hs]at MP;have hx:=F3 (w:=w) (h.heap.fresh _ _ _ NT rfl).2.2 ((cur.toList.take (es.length*sz)++vs++cur.toList.drop (es.length*sz+vs.length)).toArray)
    have m1:=Az.write (g:=.arr (.slice (some ⟨b,0,none⟩) es.length cap)) (g':=.arr (.slice (some ⟨b,0,none⟩) (es.length+xs.length) cap)) h NT rfl
     (new:=(cur.toList.take (es.length*sz)++vs++cur.toList.drop (es.length*sz+vs.length)).toArray) h4 (.arr e sz (es++xs)) rfl (by simp) (by simp) (E':=BK l E)
     (Ab.mono hx _ (AI.refl _) (CO _ (λb hb=>by rw[NT]at hb;cases hb) h.env)) ((H.map (Bd l)).set l (.arr e sz (es++xs))) (by simp)
     (λj hj=>by
      rw[C3 (Ne.symm hj),El]
      cases ho:H[j]? with
      |none=>simp
      |some ob=>
       cases ob with
       |cells Fy=>
        simp only[FB,Bd,A7.injEq,HO.cells.injEq,reduceCtorEq,false_implies,implies_true,and_true];refine⟨trivial,?_⟩;rintro cs rfl;exact⟨Fy,rfl,λus k=>CO _ (λb hb=>by rw[NT]at hb;cases hb) k⟩
       |dead|inv I|map ks0 qT=>simp[Bd]
       |ghost Fy qT ms0=>
        simp only[FB,Bd,A7.injEq,HO.ghost.injEq,reduceCtorEq,false_implies,implies_true,and_true,true_and];rintro cs vs ms ⟨rfl,rfl,rfl⟩;exact⟨Fy,⟨rfl,rfl,rfl⟩,λus k=>CO _ (λb hb=>by rw[NT]at hb;cases hb) k⟩
       |arr e0 sz0 rE=>simp[Bd])
     (by simp) (by rw[G2 (by simpa using AP)])
     (by simp)
     (λe' BI Cg hc=>by
      simp only[HO.arr.injEq]at hc
      obtain⟨rfl,rfl,rfl⟩:=hc
      refine⟨Zf7,cap,by simp,rfl,by simpa using Uj,h6,?_,?_,?_⟩
      ·simp only[GK,C4,E0,Gt];omega
      ·have e1:(es++xs).length*sz=(cur.toList.take (es.length*sz)++vs).length:=by
        rw[C4,C4,E0,E1];omega
       rw[e1]
       simp only[Mz]
       exact ZgY
      ·intro v hv
       simp only[Gs]at hv
       rcases hv with (hv|hv)|hv
       ·exact h9 v (FX hv)
       ·exact h1 v hv
       ·exact h9 v (Hx hv))
     (λi hi ks vs hh=>by rw[C3 (Ne.symm hi)]at hh;exact M5 hh) (by simp)
     ⟨λ_ h=>(by cases h),λ_ _ _ _=>O3.size (by simp only[GK,C4,E0,Gt];omega)⟩
    refine⟨_,_,_,MP,m1,?_⟩;unfold Ah;exact⟨_,Mu.As _ _ _,by simp[C8],by simp only[C8,Kk];omega,by simp[BO]⟩
   · -- a new array
    have MP:=run_append_grow (P:=G.P) w t ty e i z A.ht A.hi A.hz ⟨b,0,none⟩ es.length cap (cur.toList.take (es.length*sz)) (by rw[E0,A.hs];omega)
     (λj v hv=>by
      rw[add_lit]
      have:=(I2 h4) j v
      rw[Ji]at hv
      split at hv
      ·exact this hv
      ·cases hv)
     ad xs.length c vs (by rw[XW,A.hs]) Eu (by omega) (by omega) (growslice_fits (by omega) (by rw[A.hb];exact hb))
    have lI:=grownCap_ge w (es.length+xs.length) cap e;have hle:=grownCap_le_maxLen w (es.length+xs.length) cap e (by simp only[maxLen];omega)
    simp only[maxLen]at hle
    have m1:=h.drew.renew hl (es:=es++xs) (cap:=grownCap w (es.length+xs.length) cap e)
     (vs:=cur.toList.take (es.length*sz)++vs++(Ff z.cells (grownCap w (es.length+xs.length) cap e-(es.length+xs.length))).toList) Zf7
     (by
      have e1:(es++xs).length*sz=(cur.toList.take (es.length*sz)++vs).length:=by
       rw[C4,C4,E0,E1];omega
      rw[e1,Mz];exact Ab.mono HG _ (AI.refl _) ZgY)
     (λv hv=>by
      simp only[Gs]at hv
      rcases hv with (hv|hv)|hv
      ·exact h9 v (FX hv)
      ·exact h1 v hv
      ·exact A.one _ v hv)
     (by rw[C4];exact lI) (by omega)
     (by rw[C4,C4,E0,XW,IX A,K0 (by omega),<-E1,<-E1];congr 1;omega)
    refine⟨_,_,.slice (some ⟨w.heap.size,0,none⟩) (es.length+xs.length) (grownCap w (es.length+xs.length) cap e),?_,m1,?_⟩;·rw[MP,Me,List.append_toArray,<-Me]
    ·unfold Ah;exact⟨_,Mu.As _ _ _,by simp[C8],by simp only[C8,Kk,C4];omega,by simp[BO]⟩
end
section
variable {G:Cx}{C:Ae}{w:World}{mu:Mu}{H:List HO}{E:List AV}{a:Act}{T:List TY}
theorem xL(C:Ae)(w:World)(hT:BG G.P T){t e:TypeId}{y:TY}{Bv by':Nat}{ag:Bool}(hy:T[t]?=some y)(hs:y.k=.slice e Bv by' ag)(hp:1<=Bv){z:AV}{ye:TY}(Rj:T[e]?=some ye)(Z4:z.cells=ye.zero)
  (hl:z.cells.length=Bv) (vG:z.cells.all Dr=true):∃zv i,bX G.P t e Bv by' zv i:=by
 obtain⟨hu,EI,hby,_⟩:=hT.slice hy hs;have Jh:=run_sizeOf (P:=G.P) (w:=w) EI hp;obtain⟨i,d,hi,hd,Vw⟩:=hT.facts Rj;have NF:i.size=Bv:=by simp[sizeOf,typeInfo,hi]at Jh;exact Jh
 have ZdE:i.bytes=by':=by unfold X2 at hby;simpa[hi]using hby
 obtain⟨zv,Vv,Sd⟩:=EM (C:=C) (w:=w) (mu:=Mu.none) hT Rj (by rw[<-Z4,hl,Vw];exact NF.symm) (by rw[Vw];simp only[NF];exact hp)
 rw[<-Z4]at Sd;have hzl:zv.cells.size=Bv:=by have:=Ap _ Sd;simpa[hl]using this
 have hiz:i.zero=some zv:=by
  cases hz:i.zero with
  |none=>simp[zeroValue,typeInfo,hi,hz]at Vv
  |some z'=>simp[zeroValue,typeInfo,hi,hz]at Vv;rw[Vv]
 exact⟨zv,i,hu,hi,hiz,NF,ZdE,hzl,hp,λn=>Vg Sd vG n (by omega)⟩
theorem QK{t ty e:TypeId}{by':Nat}{i:TypeInfo}(hu:G.P.underlying t=some (.slice e))(hi:G.P.info? e=some i)(b:Option Addr)(n c:Nat)(hn:n<=c):
  (GZ #[t,t] ty #[.slice b n c,.slice none 0 0]).run G.P w=.ok (.slice b n c) w:=by
 cases b<;>simp[GZ,run_underlying hu,sizeOf,typeInfo,hi,NR,K2,loadCells,loadCellsFrom,hn,storeCells]
theorem qO{al:Option Nat}(hT:BG G.P T)(h:Az G C mu E H a w){t t' ty:TypeId}{s x:Operand}{K:AV->KK}(hk:Ft al T E H t t' s x K):
  GM G a w K (GZ #[t,t'] ty #[a.eval s,a.eval x]):=by
 unfold Ft at hk;split at hk
 ·rename_i htt;obtain rfl:=Ak htt;replace hk:=AL.1 hk;obtain⟨y,hy,hk⟩:=hk
  split at hk
  ·rename_i e Bv by' ag hs
   split at hk
   ·rename_i hp;simp only[CL]at hp;have Zkd:=C1 hp.2;have hp:=C1 hp.1
    have Fl:∀n,n*by'<=140737488355328->n<=9223372036854775807:=λn hn=>by
     have:=Rk n (show 0<by' by omega)
     omega
    rw[Ac,Ac]at hk;have DG:=AX h.env s;have Vx:=AX h.env x;obtain⟨hu,EI,hby,_⟩:=hT.slice hy hs
    obtain⟨i,d,hi,hd,NF⟩:∃i d,G.P.info? e=some i/\G.P.underlying e=some d/\i.size=Bv:=by
     obtain⟨n,rfl⟩:∃n,Bv=n+1:=⟨Bv-1,by omega⟩
     exact KO EI
    split at hk
    ·rename_i Z5;rw[Z5]at Vx;have yC:a.eval x=.slice none 0 0:=by unfold Ah at Vx;exact Vx
     split at hk
     ·rename_i l sz lo n gB;have ZaK:=DG;rw[gB]at ZaK;have Zgj:=ZaK;replace hk:=AL.1 hk;obtain⟨ob,Bh,hk⟩:=hk
      cases ob with
      |cells _|dead|ghost _ _ _|inv _|map _ _=>exact hk.elim
      |arr e0 sz0 rE=>
       simp only at hk;unfold Ah at ZaK;obtain⟨v,hm,hle,NT,hv⟩:=ZaK;refine⟨_,a.eval s,_,_,C,mu,w,hk,?_,h,Zgj⟩;rw[yC,hv];obtain⟨_,h2⟩:=h.heap.BM l _ _ _ Bh;rcases h2 with⟨h2,_⟩|⟨b,cap,cur,h3,h4,h5,_⟩
       ·rw[hm]at h2
        simp only[A7.injEq,GO.arr.injEq]at h2
        subst h2
        exact QK (by':=by') hu hi none 0 0 (Qx _)
       ·rw[hm]at h3
        simp only[A7.injEq,GO.arr.injEq]at h3
        subst h3
        simp only[C8]at hle
        exact QK (by':=by') hu hi _ n (cap-lo) (by omega)
     ·rename_i gB;rw[gB]at DG;have hsv:a.eval s=.slice none 0 0:=by unfold Ah at DG;exact DG
      refine⟨_,.slice none 0 0,_,_,C,mu,w,hk,?_,h,by unfold Ah;rfl⟩
      rw[yC,hsv];exact QK (by':=by') hu hi none 0 0 (Qx _)
     ·exact hk.elim
    ·obtain⟨sz,xs,hk,oU,hxs⟩:=UL h Vx hk;split at hk
     ·rename_i gB;obtain rfl:=Ak gB;split at hk
      ·rename_i gB
       rw[gB]at DG
       have hsv:a.eval s=.slice none 0 0:=by unfold Ah at DG;exact DG
       obtain⟨hb,hk⟩:=hk
       obtain⟨z,ye,Rj,hk,Z4⟩:=IS hT hk
       rw[Am]at hk
       split at hk
       ·rename_i G0
        simp only[CL]at G0
        obtain⟨zv,i',A⟩:=xL C w hT hy hs hp Rj Z4 (Ak G0.1) G0.2
        obtain⟨H',nn,Eg,hk⟩:=QM hk
        obtain⟨mu',w',v,h1,h2,h3⟩:=Zbr (ty:=ty) h A Eg oU hxs hb (Fl _ hb)
        exact⟨_,v,_,_,C,mu',w',hk,by rw[hsv];exact h1,h2,h3⟩
       ·exact hk.elim
      ·rename_i l BI lo n gB
       replace hk:=AL.1 hk;obtain⟨ob,Bh,hk⟩:=hk
       cases ob with
       |cells _|dead|ghost _ _ _|inv _|map _ _=>exact hk.elim
       |arr e' dE es=>
        simp only at hk;split at hk
        ·rename_i PC
         simp only[CL]at PC
         obtain⟨⟨⟨q1,q2⟩,q3⟩,q4⟩:=PC
         obtain rfl:=Ak q1
         obtain rfl:=Ak q2
         obtain rfl:=Ak q3
         obtain rfl:=Ak q4
         obtain⟨⟨rfl,hb⟩,hk⟩:=hk
         rw[gB]at DG
         obtain⟨z,ye,Rj,hk,Z4⟩:=IS hT hk
         rw[Am]at hk
         split at hk
         ·rename_i G0
          simp only[CL]at G0
          obtain⟨zv,i',A⟩:=xL C w hT hy hs hp Rj Z4 (Ak G0.1) G0.2
          rw[FO,DP,AG]at hk
          obtain⟨mu',w',v,h1,h2,h3⟩:=Zbq (ty:=ty) h A Bh DG oU hxs hb (Fl _ hb)
          exact⟨_,v,_,_,C,mu',w',hk,h1,h2,h3⟩
         ·exact hk.elim
        ·exact hk.elim
      ·exact hk.elim
     ·exact hk.elim
   ·exact hk.elim
  ·exact hk.elim
 ·exact hk.elim
end
open Go.RowKit (Below)
section
variable {G:Cx}{C:Ae}{w w':World}{mu:Mu}{H:List HO}{E:List AV}{a:Act}{T:List TY}
def Ld(C:Ae)(n m:Nat):Ae:=λb o=>C b o\/(n<=b/\b<m)
theorem qC(AP:∀b o,C b o->b<w.heap.size)(hb:Below w.heap.size w w'):Ext C (Ld C w.heap.size w'.heap.size) w w':=
 Ext.of_block (λ_ _ h=>.inl h) λb o hc=>hb.block b (AP b o hc)
theorem KC.below(h:KC G w)(hb:Below w.heap.size w w'):KC G w':=
 ⟨hb.os.trans h.os,hb.tape.trans h.tape,hb.output.trans h.output,KG h.size hb.size,λk hk hm=>(hb.block k (by have:=h.size;omega)).trans (h.block k hk hm)⟩
theorem Az.below(h:Az G C mu E H a w)(hb:Below w.heap.size w w'):Az G (Ld C w.heap.size w'.heap.size) mu E H a w':=by
 have hx:=qC h.lt hb;have hs:=hb.size;refine⟨λb o hc=>.inl (h.c0 b o hc),λb o hc=>?_,λb o hc=>?_,⟨h.heap.Is,λl g b hm hg=>?_,h.heap.sep,h.heap.dead,λl cs hl=>?_,λl e sz es hl=>?_,λl ks vs hl=>?_⟩,Ab.mono hx _ (AI.refl _) h.env,?_,h.Ax.below hb,h.Ds⟩
 rotate_right
 ·obtain⟨ms,k1,k2⟩:=h.defers
  exact⟨ms,k1,k2.step ⟨hb.os,hb.tape,hb.output,hb.size,λb Yy=>hb.block b Yy.1⟩ (λl g b hm hg=>.inl ⟨l,g,hm,hg⟩)
   (λb o hc=>hc.imp id λk=>.inl k.1) (λl cs vs ms hl=>⟨cs,hl,Ab.mono hx _ (AI.refl _)⟩) (λ_ _ h=>h)⟩
 ·rcases hc with hc|hc;·exact h.c1 b o hc
  ·exact .inr (.inl (by have:=h.Ax.size;omega))
 ·rcases hc with hc|hc;·have:=h.lt b o hc;omega
  ·exact hc.2
 ·obtain⟨k1,k2,k3⟩:=h.heap.fresh l g b hm hg;exact⟨k1,by omega,λo hc=>hc.elim (k3 o) (λhc=>by omega)⟩
 ·obtain⟨b,cur,e,h1,h2,h3,h4⟩:=h.heap.Cr l cs hl;exact⟨b,cur,e,h1,(hb.block b (h.heap.fresh _ _ _ h1 rfl).2.1).trans h2,Ab.mono hx _ (AI.refl _) h3,h4⟩
 ·obtain⟨h1,h2⟩:=h.heap.BM l e sz es hl;exact⟨h1,h2.imp id λ⟨b,cap,cur,k1,k2,k3,k4,k5,k6,k7⟩=>⟨b,cap,cur,k1,k2.of_eq (hb.block b (h.heap.fresh _ _ _ k1 rfl).2.1),k3,k4,k5,Ab.mono hx _ (AI.refl _) k6,k7⟩⟩
 ·obtain⟨b,es,cl,h1,h2,h3⟩:=h.heap.maps l ks vs hl;exact⟨b,es,cl,h1,(hb.block b (h.heap.fresh _ _ _ h1 rfl).2.1).trans h2,h3⟩
theorem UG(l:List UInt8):flat (l.map λb=>AV.int .u8 b.toNat)=l.map λb=>AV.int .u8 b.toNat:=by
 induction l with
 |nil=>rfl
 |cons b l ih=>
  have e1:flat ((b::l).map λb=>AV.int .u8 b.toNat)=AV.int .u8 b.toNat::flat (l.map λb=>AV.int .u8 b.toNat):=by simp[flat,AV.cells]
  rw[e1,ih];rfl
theorem Ti{sz:Nat}(EI:sz=1){cells:List Value}:∀(l:List UInt8)(b o:Nat),(∀i (h:i<l.length),Cl C w b (o+i) (.int .u8 (l[i]).toNat))->Rows C w sz (l.map λb=>.int .u8 b.toNat) b o
 |[],_,_,_=>by simp only[Rr];unfold Rows;trivial
 |x::l,b,o,h=>by
  subst EI;simp only[H0];unfold Rows;refine⟨rfl,⟨_,rfl,by simpa using h 0 (by simp),by unfold Ah;exact⟨rfl,uX.2 ⟨by omega,by have:=x.toNat_lt;omega⟩⟩⟩,Ti rfl (cells:=cells) l b (o+1) (λi hi=>?_)⟩
  have:=h (i+1) (by simpa using hi)
  rw[show o+1+i=o+(i+1) by omega]
  simpa using this
theorem aT(w:World)(b n:Nat)(cur:Array Value)(e:TypeId)(h:w.heap[b]?=some (.cells cur e (0,0))):
  (w.freeze ⟨b,n,none⟩ 1).heap[b]?=some (.cells cur e (n,n+1))/\(∀k,k≠b->(w.freeze ⟨b,n,none⟩ 1).heap[k]?=w.heap[k]?)/\(w.freeze ⟨b,n,none⟩ 1).heap.size=w.heap.size:=by
 have hb:b<w.heap.size:=(Kw.1 h).1;refine⟨?_,λk hk=>?_,?_⟩
 ·simp[World.freeze,Kj,h]
 ·simp only[World.freeze,Nat.one_ne_zero,if_false];rw[Kj,if_neg (λe=>hk e.symm)]
 ·simp[World.freeze]
theorem Tm:∀(l:List UInt8){mu:Mu}{vs:List Value},Ab C w (l.map λb=>AV.int .u8 b.toNat) mu vs->vs=l.map λb=>Value.int .u8 b.toNat
 |[],_,_,h=>by simpa[Ab]using h
 |b::l,_,_,h=>by
  simp only[H0]at h ⊢;unfold Ab at h;obtain⟨v,BY,rfl,h2,h3⟩:=h;rw[(AA h2).1,Tm l h3]
theorem xF(hT:BG G.P T)(h:Az G C mu E H a w){s d:TypeId}{x:Operand}{K:AV->KK}(hk:UT T E H s d x K):GM G a w K (convert s d (a.eval x)):=by
 unfold UT at hk;replace hk:=AL.1 hk;obtain⟨ys,hys,hk⟩:=hk
 replace hk:=AL.1 hk;obtain⟨yd,hyd,hk⟩:=hk
 rw[Ac]at hk;have Vx:=AX h.env x;split at hk
 ·rename_i e Bv by' ag h1 h2
  have lC:=hT.string hys h1;obtain⟨hud,EI,hby,_⟩:=hT.slice hyd h2;split at hk
  ·rename_i l Z5;rw[Z5]at Vx;obtain⟨yC,cH⟩:=Bp Vx;split at hk
   ·rename_i hb;obtain rfl:=Ak hb;replace hk:=AL.1 hk;obtain⟨ye,Rj,hk⟩:=hk
    split at hk
    ·rename_i pA;have Yt:=hT.int Rj pA;rw[yC]
     -- the run
     obtain⟨w1,cap,hch,Ur,HR,Zjd,hcm⟩:∃w1 cap,(choose (.appendCap l.length 0 e)).run G.P w=.ok cap w1/\Below w.heap.size w w1/\(l.length<=cap\/l.length=0)/\w1.heap.size=w.heap.size/\cap<=9223372036854775807:=by
      rw[run_choose];split
      ·rename_i hf
       refine⟨w,0,rfl,Below.refl _ _,?_,rfl,by omega⟩
       simp[Question.forced]at hf
      ·refine⟨w.drew,_,rfl,(Below.refl _ _).drew,.inl ?_,rfl,?_⟩
       ·exact grownCap_ge w l.length 0 e
       ·exact KG (grownCap_le_maxLen w l.length 0 e (by simp only[maxLen];omega)) (by simp[maxLen])
     have lN:l.length<=cap:=by omega
     obtain⟨cur,yR⟩:∃c:Array Value,(l.toArray.map λb=>Value.int .u8 b.toNat)++Array.replicate (cap-l.length) (.int .u8 0)=c:=⟨_,rfl⟩
     have aH:cur.size=cap:=by rw[<-yR];simp;omega
     obtain⟨w2,vE⟩:∃w2,(w1.alloc (.cells cur e)).freeze ⟨w1.heap.size,cur.size,none⟩ 1=w2:=⟨_,rfl⟩;have Eg:(w1.alloc (.cells cur e)).heap[w1.heap.size]?=some (.cells cur e (0,0)):=heap_alloc_new _ _;obtain⟨E5,fX,hw4⟩:=aT (w1.alloc (.cells cur e)) w1.heap.size cur.size cur e Eg;have fZ:(w1.alloc (.cells cur e)).shape? w1.heap.size=some (e,cur.size):=by unfold World.shape?;rw[Eg]
     rw[vE]at E5 fX hw4
     have G0:Below w.heap.size w w2:=by
      refine Ur.trans ⟨by rw[<-vE];rfl,by rw[<-vE];rfl,by rw[<-vE];rfl,?_,λk hk=>?_⟩
      ·show _<=w2.heap.size
       rw[hw4];simp
      ·show w2.heap[k]?=_
       rw[fX k (by omega),heap_alloc_old _ _ (by omega)]
     have Zms:w2.heap.size=w.heap.size+1:=by rw[hw4];simp[Zjd]
     have Af:=h.below G0;refine⟨_,.slice (some ⟨w1.heap.size,0,none⟩) l.length cap,_,_,_,mu,w2,hk,?_,Af,?_⟩
     ·simp only[convert,Fj,run_underlying lC,run_underlying hud,run_underlying Yt,E8,Conv.stringToBytes,D7,hch];simp only[yR,newRow,markStringish,Fj,run_newObj,World.alloc_eq,KF,E8,run_shape,fZ,run_freeze,vE]
     ·unfold Ah;refine .inr ⟨w1.heap.size,0,cap,by simp,by simpa using lN,hcm,Ti rfl (cells:=[]) l _ 0 (λi hi=>⟨.inr ⟨by omega,by omega⟩,?_⟩)⟩
      rw[JV,cell_of_row w2 _ i cur e _ E5];rw[<-yR];rw[Array.getElem?_append_left (by simpa using hi)]
      simp[hi]
    ·exact hk.elim
   ·exact hk.elim
  ·exact hk.elim
 ·rename_i e Bv by' ag h1 h2
  have hud:=hT.string hyd h2;obtain⟨lC,EI,hby,_⟩:=hT.slice hys h1;replace hk:=UL h Vx hk;obtain⟨sz,xs,hk,oU,hxs⟩:=hk;split at hk
  ·rename_i hb;simp only[CL]at hb;obtain rfl:=Ak hb.1;obtain rfl:=Ak hb.2;replace hk:=AL.1 hk;obtain⟨ye,Rj,hk⟩:=hk
   split at hk
   ·rename_i pA;have Yt:=hT.int Rj pA;obtain⟨l,⟨rfl,cH⟩,hk⟩:=hk;refine⟨_,.string ⟨l.toArray⟩,_,_,C,mu,w,hk,?_,h,Ss cH⟩;rcases hxs with⟨hv,hx⟩|⟨ad,c,vs,hv,XW,hr,Eu,h1⟩
    ·simp only[List.map_eq_nil_iff]at hx;subst hx;rw[hv,run_convert_bytes_nil w s e lC Yt 0 0 d hud];rfl
    ·rw[UG]at hr;have WG:=Tm l hr;subst WG
     have lD:ad.spot=none\/l=[]:=by
      cases l with
      |nil=>exact .inr rfl
      |cons b l=>
       left;have:=Eu 0 _ rfl;simp only[Addr.add,if_true]at this;unfold World.cell? at this;split at this
       ·split at this
        ·cases this
        ·rename_i lD;simpa using lD
       ·cases this
     rw[hv]
     rw[run_convert_bytes_string w s d e _ _ c lC Yt hud,run_bytesToString w ad _ c (l.map λb=>(b.toNat:Int)) (by
      have:=run_loadCells_list (P:=G.P) w ad _ Eu;simpa[List.map_map,Function.comp_def]using this),foldl_push_bytes]
     simp[ByteArray.empty,ByteArray.emptyWithCapacity,Function.comp_def];rfl
   ·exact hk.elim
  ·exact hk.elim
 ·exact hk.elim
end
mutual
def Yz(l sz:Nat)(es:List AV):AV->AV
 |.own k BI lo n=>match E2 k l with
  |true=>(match E2 BI sz&&E2 lo 0 with|true=>.sl sz es|false=>.any)
  |false=>.own k BI lo n
 |.el k BI i o=>match E2 k l with|true=>.any|false=>.el k BI i o
 |.fn f cap=>.fn f (Qw l sz es cap)
 |.mv f cap=>.mv f (Qw l sz es cap)
 |.iface t x=>.iface t (Yz l sz es x)
 |.agg cs=>.agg (Qw l sz es cs)
 |.tuple vs=>.tuple (Qw l sz es vs)
 |a=>a
def Qw(l sz:Nat)(es:List AV):List AV->List AV
 |[]=>[]
 |a::as=>Yz l sz es a::Qw l sz es as
end
mutual
def Ex(l sz m:Nat):AV->Prop->Prop
 |.own k BI lo n,Q=>match E2 k l with
  |true=>(match E2 BI sz&&E2 lo 0 with|true=>n=m/\Q|false=>Q)
  |false=>Q
 |.fn f cap,Q|.mv f cap,Q=>EX l sz m cap Q
 |.iface t x,Q=>Ex l sz m x Q
 |.agg cs,Q=>EX l sz m cs Q
 |.tuple vs,Q=>EX l sz m vs Q
 |_,Q=>Q
def EX(l sz m:Nat):List AV->Prop->Prop
 |[],Q=>Q
 |a::as,Q=>Ex l sz m a (EX l sz m as Q)
end
def Uw(l sz:Nat)(es:List AV):List AV->(List AV->Prop)->Prop
 |[],K=>K []
 |a::as,K=>Ex l sz es.length a ((Yz l sz es a).force λb=>Uw l sz es as λbs=>K (b::bs))
def Ij(l sz:Nat)(es:List AV):List HO->(List HO->Prop)->Prop
 |[],K=>K []
 |.cells cs::r,K=>Uw l sz es cs λcs=>Ij l sz es r λr=>K (.cells cs::r)
 |.arr e s xs::r,K=>Ij l sz es r λr=>K (.arr e s xs::r)
 |.dead::r,K=>Ij l sz es r λr=>K (.dead::r)
 |.ghost cs vs ms::r,K=>Uw l sz es cs λcs=>Ij l sz es r λr=>K (.ghost cs vs ms::r)
 |.inv I::r,K=>Ij l sz es r λr=>K (.inv I::r)
 |.map ks vs::r,K=>Ij l sz es r λr=>K (.map ks vs::r)
def pR(l:Nat)(E:List AV)(H:List HO)(K:KK):Prop:=
 Cm H l λob=>match ob with
  |.arr e sz es=>(∀e∈es,closed e=true)/\Uw l sz es E λE=>Ij l sz es H λH=>FI H l .dead λH=>K E H
  |_=>False
section
variable {G:Cx}{C C2:Ae}{w:World}{mu:Mu}{H:List HO}{E:List AV}{a:Act}{l sz:Nat}{es:List AV}
mutual
theorem lW(hx:Ext C C2 w w)(hl:∀b,mu l≠some (.CS b))(FY:∀v,Ah C w (.own l sz 0 es.length) mu v->Ah C2 w (.sl sz es) Mu.none v):∀(x:AV){v:Value}{Q:Prop},Ex l sz es.length x Q->Ah C w x mu v->Ah C2 w (Yz l sz es x) (mu.set l none) v/\Q
 |.any,_,_,q,_=>⟨by unfold Yz Ah;trivial,by unfold Ex at q;exact q⟩
 |.int _ _,_,_,q,h|.bool _,_,_,q,h|.lit _,_,_,q,h|.str _,_,_,q,h=>⟨by unfold Yz;unfold Ah at*;exact h,by unfold Ex at q;exact q⟩
 |.sl _ _,_,_,q,h|.at_ _,_,_,q,h=>⟨by unfold Yz;exact Ah.mono hx _ (AI.none _) (Bk _ rfl h),by unfold Ex at q;exact q⟩
 |.raw _,_,_,q,h=>⟨by unfold Yz;unfold Ah at*;exact h,by unfold Ex at q;exact q⟩
 |.mp _ _,_,_,q,h=>⟨by unfold Yz;exact Ah.mono hx _ (AI.none _) (Bk _ rfl h),by unfold Ex at q;exact q⟩
 |.om k,_,_,q,h=>⟨by
   unfold Yz;unfold Ah at*
   obtain⟨b,h1,h2⟩:=h;refine⟨b,?_,h2⟩;rw[Mu.Ay];·exact h1
   ·rintro rfl;exact hl b h1,by unfold Ex at q;exact q⟩
 |.ptr k o,_,_,q,h=>⟨by
   unfold Yz;unfold Ah at*
   obtain⟨b,h1,h2⟩:=h;refine⟨b,?_,h2⟩;rw[Mu.Ay];·exact h1
   ·rintro rfl;exact hl b h1,by unfold Ex at q;exact q⟩
 |.el k BI i o,_,_,q,h=>⟨by
   unfold Yz;split;·unfold Ah;trivial
   ·rename_i hb;unfold Ah at*;obtain⟨b,n,c,h1,h2⟩:=h;refine⟨b,n,c,?_,h2⟩;rw[Mu.Ay _ _ (Jg hb)];exact h1,by unfold Ex at q;exact q⟩
 |.own k BI lo n,_,_,q,h=>by
   unfold Ex at q;unfold Yz;cases hb:E2 k l with
   |false=>
    rw[hb]at q;refine⟨?_,q⟩;simp only;unfold Ah at*;obtain⟨x,h1,h2⟩:=h;refine⟨x,?_,h2⟩;rw[Mu.Ay _ _ (Jg hb)];exact h1
   |true=>
    rw[hb]at q;obtain rfl:=Ak hb;cases hc:E2 BI sz&&E2 lo 0 with
    |false=>rw[hc]at q;exact⟨by simp only;unfold Ah;trivial,q⟩
    |true=>
     rw[hc]at q;simp only[CL]at hc;obtain rfl:=Ak hc.1;obtain rfl:=Ak hc.2;obtain⟨rfl,q⟩:=q;exact⟨Ah.mono (Ext.refl _ _) _ (AI.none _) (FY _ h),q⟩
 |.fn f cap,_,_,q,h=>by
   unfold Ex at q;unfold Yz;unfold Ah at*
   obtain⟨vs,h1,h2⟩:=h;have:=Gu hx hl FY cap q h2;exact⟨⟨vs,h1,this.1⟩,this.2⟩
 |.mv f cap,_,_,q,h=>by
   unfold Ex at q;unfold Yz;unfold Ah at*
   obtain⟨vs,h1,h2⟩:=h;have:=Gu hx hl FY cap q h2;exact⟨⟨vs,h1,this.1⟩,this.2⟩
 |.iface t x,_,_,q,h=>by
   unfold Ex at q;unfold Yz;unfold Ah at*
   obtain⟨vs,h1,h2⟩:=h;have:=lW hx hl FY x q h2;exact⟨⟨vs,h1,this.1⟩,this.2⟩
 |.agg cs,_,_,q,h=>by
   unfold Ex at q;unfold Yz;unfold Ah at*
   obtain⟨vs,h1,h2⟩:=h;have:=Gu hx hl FY cs q h2;exact⟨⟨vs,h1,this.1⟩,this.2⟩
 |.tuple cs,_,_,q,h=>by
   unfold Ex at q;unfold Yz;unfold Ah at*
   obtain⟨vs,h1,h2⟩:=h;have:=Gu hx hl FY cs q h2;exact⟨⟨vs,h1,this.1⟩,this.2⟩
theorem Gu(hx:Ext C C2 w w)(hl:∀b,mu l≠some (.CS b))(FY:∀v,Ah C w (.own l sz 0 es.length) mu v->Ah C2 w (.sl sz es) Mu.none v):∀(xs:List AV){vs:List Value}{Q:Prop},EX l sz es.length xs Q->Ab C w xs mu vs->Ab C2 w (Qw l sz es xs) (mu.set l none) vs/\Q
 |[],_,_,q,h=>⟨by unfold Qw;unfold Ab at*;exact h,by unfold EX at q;exact q⟩
 |x::xs,_,_,q,h=>by
  unfold EX at q;unfold Qw;unfold Ab at*
  obtain⟨v,BY,h1,h2,h3⟩:=h;have k:=lW hx hl FY x q h2;have k':=Gu hx hl FY xs k.2 h3;exact⟨⟨v,BY,h1,k.1,k'.1⟩,k'.2⟩
end
theorem KS{fr:Nat->Prop}(hh:AU C w fr mu H)(hx:Ext C C2 w w){l:Nat}(hB:∀g b o,mu l=some g->g.Aq=some b->C2 b o){e:TypeId}{sz:Nat}{es:List AV}(hl:H[l]?=some (.arr e sz es))(hc:∀e∈es,closed e=true){u:Value}
  (hu:Ah C w (.own l sz 0 es.length) mu u):Ah C2 w (.sl sz es) Mu.none u:=by
 unfold Ah at hu⊢;obtain⟨x,hm,hle,NT,rfl⟩:=hu;obtain⟨hz,h2⟩:=hh.BM l e sz es hl;rcases h2 with⟨h2,rfl⟩|⟨b,cap,cur,h3,⟨fz,h4,O3⟩,h5,h6,h7,h8,h9⟩
 ·rw[hm]at h2;simp only[A7.injEq,GO.arr.injEq]at h2;subst h2;exact .inl ⟨⟨_,rfl⟩,rfl⟩
 ·rw[hm]at h3;simp only[A7.injEq,GO.arr.injEq]at h3;subst h3;obtain⟨f1,f2,_⟩:=hh.fresh l _ b hm rfl;refine .inr ⟨b,0,cap,by simp[BO],h5,h6,(DQ es 0).2 λi hi=>⟨hz _ (NC hi),(B9 _ _).2 λj hj=>?_⟩⟩
  have hei:es[i]?=some es[i]:=F0 hi;obtain⟨r,hr⟩:=Ha es hz i _ hei;have Px:=(AH _).1 h8;have EI:=hz _ (NC hi);have KB:=Bx es hz;have hmul:(i+1)*sz<=es.length*sz:=E4 _ hi;rw[E1]at hmul;have WI:es.length*sz<=cap*sz:=E4 _ h5;have HC:cur.toList.length=cap*sz:=by simpa using h7
  have hk:i*sz+j<(flat es).length:=by omega
  have HB:i*sz+j<(cur.toList.take (es.length*sz)).length:=by rw[Px.1];exact hk
  have Fi:=Px.2 (i*sz+j) hk HB
  have WK:(flat es)[i*sz+j]=es[i].cells[j]:=by
   have e1:((flat es).drop (i*sz))[j]?=(es[i].cells++r)[j]?:=by rw[hr]
   rw[Pl,F0 hk,List.getElem?_append_left hj,F0 hj]at e1;simpa using e1
  rw[WK]at Fi
  have vY:closed es[i].cells[j]=true:=by
   have:=hc _ (NC hi);generalize es[i]=q at this hj⊢;cases q with
   |agg cs=>
    unfold closed at this
    have key:∀(cs:List AV),An cs=true->∀j (hj:j<cs.length),closed cs[j]=true:=by
     intro cs;induction cs with
     |nil=>intro _ j hj;simp at hj
     |cons c cs ih=>
      intro h j hj;unfold An at h;simp only[CL]at h;cases j with
      |zero=>exact h.1
      |succ j=>exact ih h.2 j (by simpa using hj)
    exact key cs this j hj
   |_=>
    simp only[AV.cells,It,KT]at hj;obtain rfl:j=0:=by omega
    exact this
  have AP:i*sz+j<cur.toList.length:=by omega
  have lI:(cur.toList.take (es.length*sz))[i*sz+j]=cur.toList[i*sz+j]:=by simp
  refine⟨cur.toList[i*sz+j],h9 _ (NC AP),⟨hB _ _ _ hm rfl,?_⟩,?_⟩
  ·rw[show 0+i*sz+j=i*sz+j by omega,cell_of_row w b _ cur e _ h4]
   simp at AP⊢
  ·rw[lI]at Fi;exact Ah.mono hx _ (AI.refl _) (Bk _ vY Fi)
mutual
theorem Uv{l sz m:Nat}:∀(x:AV)(Q:Prop),Ex l sz m x Q->Ex l sz m x True/\Q
 |.any,_,q|.int _ _,_,q|.bool _,_,q|.lit _,_,q|.str _,_,q|.sl _ _,_,q|.at_ _,_,q|.raw _,_,q|.mp _ _,_,q|.om _,_,q|.ptr _ _,_,q|.el _ _ _ _,_,q=>by unfold Ex at*;exact⟨trivial,q⟩
 |.own k s lo n,_,q=>by
  unfold Ex at*;split at q
  ·split at q;·exact⟨⟨q.1,trivial⟩,q.2⟩
   ·exact⟨trivial,q⟩
  ·exact⟨trivial,q⟩
 |.fn f cap,_,q|.mv f cap,_,q=>by unfold Ex at*;exact Qz cap _ q
 |.iface t x,_,q=>by unfold Ex at*;exact Uv x _ q
 |.agg cs,_,q|.tuple cs,_,q=>by unfold Ex at*;exact Qz cs _ q
theorem Qz{l sz m:Nat}:∀(xs:List AV)(Q:Prop),EX l sz m xs Q->EX l sz m xs True/\Q
 |[],_,q=>by unfold EX at*;exact⟨trivial,q⟩
 |x::xs,_,q=>by
  unfold EX at*;obtain⟨q1,q2⟩:=Uv x _ q;obtain⟨q3,q4⟩:=Qz xs _ q2;refine⟨?_,q4⟩;exact L7 x q1 (λ_=>q3)
theorem L7{l sz m:Nat}:∀(x:AV){Q Q':Prop},Ex l sz m x Q->(Q->Q')->Ex l sz m x Q'
 |.any,_,_,q,h|.int _ _,_,_,q,h|.bool _,_,_,q,h|.lit _,_,_,q,h|.str _,_,_,q,h|.sl _ _,_,_,q,h|.at_ _,_,_,q,h|.raw _,_,_,q,h|.mp _ _,_,_,q,h|.om _,_,_,q,h|.ptr _ _,_,_,q,h|.el _ _ _ _,_,_,q,h=>by unfold Ex at*;exact h q
 |.own k s lo n,_,_,q,h=>by
  unfold Ex at*;split at q
  ·split at q;·simp_all
   ·simp_all
  ·simp_all
 |.fn f cap,_,_,q,h|.mv f cap,_,_,q,h=>by unfold Ex at*;exact NG cap q h
 |.iface t x,_,_,q,h=>by unfold Ex at*;exact L7 x q h
 |.agg cs,_,_,q,h|.tuple cs,_,_,q,h=>by unfold Ex at*;exact NG cs q h
theorem NG{l sz m:Nat}:∀(xs:List AV){Q Q':Prop},EX l sz m xs Q->(Q->Q')->EX l sz m xs Q'
 |[],_,_,q,h=>by unfold EX at*;exact h q
 |x::xs,_,_,q,h=>by
  unfold EX at*;exact L7 x q λq=>NG xs q h
end
theorem L8{l sz:Nat}{es:List AV}:∀(as:List AV){K:List AV->Prop},Uw l sz es as K->EX l sz es.length as True/\K (Qw l sz es as)
 |[],K,h=>⟨by unfold EX;trivial,by unfold Uw at h;unfold Qw;exact h⟩
 |a::as,K,h=>by
  unfold Uw at h;obtain⟨h1,h2⟩:=Uv a _ h;rw[AV.AJ]at h2;obtain⟨h3,h4⟩:=L8 as h2;unfold EX Qw;exact⟨L7 a h1 λ_=>h3,h4⟩
def JX(l sz:Nat)(es:List AV):HO->HO
 |.cells cs=>.cells (Qw l sz es cs)
 |.ghost cs vs ms=>.ghost (Qw l sz es cs) vs ms
 |o=>o
theorem F2{l sz:Nat}{es:List AV}:∀(H:List HO){K:List HO->Prop},Ij l sz es H K->(∀(i:Nat) cs,H[i]?=some (.cells cs)->EX l sz es.length cs True)/\
   (∀(i:Nat) cs vs ms,H[i]?=some (.ghost cs vs ms)->EX l sz es.length cs True)/\K (H.map (JX l sz es))
 |[],K,h=>⟨λi cs hi=>by simp at hi,λi cs vs ms hi=>by simp at hi,h⟩
 |o::r,K,h=>by
  cases o with
  |cells Fy=>
   unfold Ij at h;obtain⟨h1,h2⟩:=L8 Fy h;obtain⟨h3,h4,h5⟩:=F2 r h2;refine⟨λi cs hi=>?_,λi cs vs ms hi=>?_,h5⟩
   ·cases i with
    |zero=>simp at hi;subst hi;exact h1
    |succ i=>exact h3 i cs (by simpa using hi)
   ·cases i with
    |zero=>simp at hi
    |succ i=>exact h4 i cs vs ms (by simpa using hi)
  |ghost Fy qT ms0=>
   unfold Ij at h;obtain⟨h1,h2⟩:=L8 Fy h;obtain⟨h3,h4,h5⟩:=F2 r h2;refine⟨λi cs hi=>?_,λi cs vs ms hi=>?_,h5⟩
   ·cases i with
    |zero=>simp at hi
    |succ i=>exact h3 i cs (by simpa using hi)
   ·cases i with
    |zero=>simp at hi;obtain⟨rfl,_,_⟩:=hi;exact h1
    |succ i=>exact h4 i cs vs ms (by simpa using hi)
  |arr e s xs=>
   unfold Ij at h;obtain⟨h3,h4,h5⟩:=F2 r h;refine⟨λi cs hi=>?_,λi cs vs ms hi=>?_,h5⟩
   ·cases i with
    |zero=>simp at hi
    |succ i=>exact h3 i cs (by simpa using hi)
   ·cases i with
    |zero=>simp at hi
    |succ i=>exact h4 i cs vs ms (by simpa using hi)
  |dead=>
   unfold Ij at h;obtain⟨h3,h4,h5⟩:=F2 r h;refine⟨λi cs hi=>?_,λi cs vs ms hi=>?_,h5⟩
   ·cases i with
    |zero=>simp at hi
    |succ i=>exact h3 i cs (by simpa using hi)
   ·cases i with
    |zero=>simp at hi
    |succ i=>exact h4 i cs vs ms (by simpa using hi)
  |map _ _=>
   unfold Ij at h;obtain⟨h3,h4,h5⟩:=F2 r h;refine⟨λi cs hi=>?_,λi cs vs ms hi=>?_,h5⟩
   ·cases i with
    |zero=>simp at hi
    |succ i=>exact h3 i cs (by simpa using hi)
   ·cases i with
    |zero=>simp at hi
    |succ i=>exact h4 i cs vs ms (by simpa using hi)
  |inv I=>
   unfold Ij at h;obtain⟨h3,h4,h5⟩:=F2 r h;refine⟨λi cs hi=>?_,λi cs vs ms hi=>?_,h5⟩
   ·cases i with
    |zero=>simp at hi
    |succ i=>exact h3 i cs (by simpa using hi)
   ·cases i with
    |zero=>simp at hi
    |succ i=>exact h4 i cs vs ms (by simpa using hi)
theorem Az.freeze(h:Az G C mu E H a w){K:KK}(hk:pR l E H K):∃E' H' C' mu',K E' H'/\Az G C' mu' E' H' a w:=by
 unfold pR at hk;replace hk:=AL.1 hk;obtain⟨ob,Bh,hk⟩:=hk
 cases ob<;>first|exact hk.elim|skip
 rename_i e sz es;obtain⟨HC,hk⟩:=hk;obtain⟨hE,hk⟩:=L8 E hk;obtain⟨pI,hH2,hk⟩:=F2 H hk;rw[AG]at hk;let C2:Ae:=λb o=>C b o\/∃g,mu l=some g/\g.Aq=some b
 have hx:Ext C C2 w w:=⟨λ_ _ h=>.inl h,λ_ _ _=>rfl⟩
 have hl:∀b,mu l≠some (.CS b):=λb hb=>by
  obtain⟨_,k⟩:=h.heap.BM l e sz es Bh;rcases k with⟨k,_⟩|⟨_,_,_,k,_⟩;·rw[hb]at k;cases k
  ·rw[hb]at k;cases k
 have FY:∀v,Ah C w (.own l sz 0 es.length) mu v->Ah C2 w (.sl sz es) Mu.none v:=λv hv=>
  KS h.heap hx (λg b o hm hb=>.inr ⟨g,hm,hb⟩) Bh HC hv
 have hbm:∀i b,mu i=some (.CS b)->(mu.set l none) i=some (.CS b):=λi b hi=>by
  rw[Mu.Ay];·exact hi
  ·rintro rfl;exact hl b hi
 have rA:∀{i g},(mu.set l none) i=some g->i≠l/\mu i=some g:=λ{i g} hi=>by
  have Bq:i≠l:=by rintro rfl;rw[Mu.As]at hi;cases hi
  rw[Mu.Ay _ _ Bq]at hi;exact⟨Bq,hi⟩
 have hnB:∀{i g b},i≠l->mu i=some g->g.Aq=some b->∀o,¬C2 b o:=λ{i g b} Bq hi hg o hc=>by
  rcases hc with hc|⟨g',h1,h2⟩;·exact(h.heap.fresh i g b hi hg).2.2 o hc
  ·exact Bq (h.heap.sep l g' b i g h1 h2 hi hg)
 have CM:∀{i:Nat}{ob:HO},((H.map (JX l sz es)).set l .dead)[i]?=some ob->(i=l/\ob=.dead)\/(i≠l/\∃o,H[i]?=some o/\ob=JX l sz es o):=λ{i ob} hi=>by
  by_cases e:i=l
  ·subst e;have AP:i<H.length:=(D0.1 Bh).1;rw[G2 (by simpa using AP)]at hi
   exact .inl ⟨rfl,by simpa using hi.symm⟩
  ·rw[C3 (λe'=>e e'.symm),El]at hi
   cases ho:H[i]? with
   |none=>simp[ho]at hi
   |some o=>exact .inr ⟨e,o,rfl,by simpa[ho]using hi.symm⟩
 have hmd:∀{D:Nat×Obj},CG C w G.fresh mu D->CG C2 w G.fresh (mu.set l none) D:=λ{D} k=>
  ⟨k.at_,λo hc=>hc.elim (k.KA o) (λ⟨g,h1,h2⟩=>k.own l g h1 h2),λi g hi=>k.own i g (rA hi).2,k.fr⟩
 refine⟨_,_,C2,mu.set l none,hk,λb o hc=>.inl (h.c0 b o hc),λb o hc=>?_,λb o hc=>?_,⟨λi g hi=>?_,λi g b hi hg=>?_,λi g b i' g' hi hg Fk SD=>?_,λi hi=>?_,λi cs hi=>?_,λi e' s' Cg hi=>?_,λi ks' BY hi=>?_⟩,(Gu hx hl FY E hE h.env).1,?_,h.Ax,by simpa using h.Ds.1,λi b hn hi=>hbm i b (h.Ds.2 i b hn hi)⟩
 ·rcases hc with hc|⟨g,h1,h2⟩;·exact h.c1 b o hc
  ·exact .inr (h.heap.fresh l g b h1 h2).1
 ·rcases hc with hc|⟨g,h1,h2⟩;·exact h.lt b o hc
  ·exact(h.heap.fresh l g b h1 h2).2.1
 ·simpa using h.heap.Is i g (rA hi).2
 ·obtain⟨k1,k2,k3⟩:=h.heap.fresh i g b (rA hi).2 hg;exact⟨k1,k2,hnB (rA hi).1 (rA hi).2 hg⟩
 ·exact h.heap.sep i g b i' g' (rA hi).2 hg (rA Fk).2 SD
 ·rcases CM hi with⟨rfl,_⟩|⟨Bq,o,ho,he⟩;·exact Mu.As _ _ _
  ·rw[Mu.Ay _ _ Bq];cases o with
   |dead=>exact h.heap.dead i ho
   |_=>simp[JX]at he
 ·rcases CM hi with⟨rfl,he⟩|⟨Bq,o,ho,he⟩;·cases he
  ·cases o with
   |cells Fy=>
    simp only[JX,HO.cells.injEq]at he;subst he;obtain⟨b,cur,e',k1,k2,k3,k4⟩:=h.heap.Cr i Fy ho;exact⟨b,cur,e',hbm i b k1,k2,(Gu hx hl FY Fy (pI i Fy ho) k3).1,k4⟩
   |_=>simp[JX]at he
 ·rcases CM hi with⟨rfl,he⟩|⟨Bq,o,ho,he⟩;·cases he
  ·cases o with
   |arr e0 s0 rE=>
    simp only[JX,HO.arr.injEq]at he;obtain⟨rfl,rfl,rfl⟩:=he;obtain⟨k0,k⟩:=h.heap.BM i _ _ _ ho;refine⟨k0,?_⟩;rw[Mu.Ay _ _ Bq];exact k.imp id λ⟨b,cap,cur,k1,k2,k3,k4,k5,k6,k7⟩=>⟨b,cap,cur,k1,k2,k3,k4,k5,Ab.mono hx _ (D2 hbm) k6,k7⟩
   |_=>simp[JX]at he
 ·rcases CM hi with⟨rfl,he⟩|⟨Bq,o,ho,he⟩;·cases he
  ·cases o with
   |map ks0 qT=>
    simp only[JX,HO.map.injEq]at he;obtain⟨rfl,rfl⟩:=he;obtain⟨b,es,cl,k1,k2,k3⟩:=h.heap.maps i _ _ ho;exact⟨b,es,cl,hbm i b k1,k2,k3⟩
   |_=>simp[JX]at he
 ·obtain⟨ms,d1,d2⟩:=h.defers;refine⟨ms,d1,⟨λi cs vs gm hi=>?_,λi I hi=>?_,λd hd=>hmd (d2.marks d hd),d2.nd,λi i' cs vs gm cs' BY gm' hi Fk Bq=>?_⟩⟩
  ·rcases CM hi with⟨rfl,he⟩|⟨Bq,o,ho,he⟩;·cases he
   ·cases o with
    |ghost Fy qT ms0=>
     simp only[JX,HO.ghost.injEq]at he;obtain⟨rfl,rfl,rfl⟩:=he;obtain⟨k1,k2,k3⟩:=d2.Bl i _ _ _ ho;exact⟨(Gu hx hl FY Fy (hH2 i _ _ _ ho) k1).1,k2,λD hD=>⟨hmd (k3 D hD).1,(k3 D hD).2⟩⟩
    |_=>simp[JX]at he
  ·rcases CM hi with⟨rfl,he⟩|⟨Bq,o,ho,he⟩;·cases he
   ·cases o with
    |inv I0=>
     simp only[JX,HO.inv.injEq]at he;subst he;obtain⟨h0,Sw,Sr,f,k2,k3,k4⟩:=d2.Hz i _ ho;refine⟨h0,Sw,Sr,⟨f.fr,f.base,λb o hc=>?_,λi g b hi hg=>f.ob i g b (rA hi).2 hg,f.sub,f.lt,λb hb i g hi=>f.own b hb i g (rA hi).2,λb o hb hc=>?_⟩,k2,k3,λi' cs vs gm Fk=>?_⟩
     ·rcases hc with hc|⟨g,h1,h2⟩;·exact f.cb b o hc
      ·exact .inr (f.ob l g b h1 h2)
     ·rcases hc with hc|⟨g,h1,h2⟩;·exact f.KA b o hb hc
      ·exact f.own b (f.sub b hb) l g h1 h2
     ·rcases CM Fk with⟨rfl,he⟩|⟨Bq,o,ho',he⟩;·cases he
      ·cases o with
       |ghost Fy qT ms0=>
        simp only[JX,HO.ghost.injEq]at he;obtain⟨rfl,rfl,rfl⟩:=he
        exact k4 i' _ _ _ ho'
       |_=>simp[JX]at he
    |_=>simp[JX]at he
  ·rcases CM hi with⟨rfl,he⟩|⟨_,o,ho,he⟩;·cases he
   ·rcases CM Fk with⟨rfl,vU⟩|⟨_,o',ho',vU⟩;·cases vU
    ·cases o with
     |ghost Fy qT ms0=>
      cases o' with
      |ghost cs1 vs1 uF=>
       simp only[JX,HO.ghost.injEq]at he vU;obtain⟨rfl,rfl,rfl⟩:=he;obtain⟨rfl,rfl,rfl⟩:=vU;exact d2.sep i i' _ _ _ _ _ _ ho ho' Bq
      |_=>simp[JX]at vU
     |_=>simp[JX]at he
def Lo:List AV->List AV->List HO->KK->Prop
 |[],E,H,K=>K E H
 |v::r,E,H,K=>match v with
  |.own l _ _ _=>pR l E H λE H=>Lo r E H K
  |_=>Lo r E H K
def WM(v:AV)(E:List AV)(H:List HO)(K:KK):Prop:=
 match v with
 |.own l _ _ _=>pR l E H K
 |.agg cs=>Lo cs E H K
 |_=>K E H
def L6:List (Nat×Operand)->List AV->List HO->KK->Prop
 |[],E,H,K=>K E H
 |(_,x)::r,E,H,K=>De E x λv=>WM v E H λE H=>L6 r E H K
theorem Ux:∀(cs:List AV){C:Ae}{mu:Mu}{E:List AV}{H:List HO}{K:KK},Az G C mu E H a w->Lo cs E H K->∃E' H' C' mu',K E' H'/\Az G C' mu' E' H' a w
 |[],C,mu,E,H,K,h,hk=>⟨E,H,C,mu,hk,h⟩
 |v::r,C,mu,E,H,K,h,hk=>by
  unfold Lo at hk;split at hk
  ·obtain⟨E',H',C',mu',hk,h⟩:=h.freeze hk;exact Ux r h hk
  ·exact Ux r h hk
theorem lX{v:AV}{K:KK}(h:Az G C mu E H a w)(hk:WM v E H K):∃E' H' C' mu',K E' H'/\Az G C' mu' E' H' a w:=by
 unfold WM at hk;split at hk;·exact h.freeze hk
 ·exact Ux _ h hk
 ·exact⟨E,H,C,mu,hk,h⟩
theorem Rp:∀(ps:List (Nat×Operand)) {C:Ae} {mu:Mu} {E:List AV} {H:List HO} {K:KK},Az G C mu E H a w->L6 ps E H K->∃E' H' C' mu',K E' H'/\Az G C' mu' E' H' a w
 |[],C,mu,E,H,K,h,hk=>⟨E,H,C,mu,hk,h⟩
 |(i,x)::r,C,mu,E,H,K,h,hk=>by
  unfold L6 at hk;rw[Ac]at hk;obtain⟨E',H',C',mu',hk,h⟩:=lX h hk;exact Rp r h hk
end
end Go.Av