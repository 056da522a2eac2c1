/- A part of the proof. -/
import Derived.Test.YtdadkhcdoaeabaaGreatDoorKd2
import Derived.RecoverIn
import Derived.Lib.AppendStr
import Derived.Lib.UnsafeStr
import Derived.Maps.RangeRun
import Derived.Maps.Keyed
set_option linter.unusedVariables false
set_option maxRecDepth 100000
set_option linter.unusedSimpArgs false
open List renaming getElem?_eq_some_iff → Ao, getElem?_eq_getElem → AO, getElem?_set_ne → D6, getElem?_set_self → Ff, length_map → Gj, length_append → Gk, map_append → H4, mem_append → It, mem_append_right → I0, getElem?_map → Ju, getElem_mem → JB, mem_of_getElem? → J3, getElem?_cons_zero → J4, replicate → J5, map_cons → J6, mem_map → Kh, getElem?_append_left → Ky, eq_nil_of_length_eq_zero → Lu, nodup_nil → Lv, all_eq_true → LA, length_nil → L3, nodup_append → Mi, mem_range → Mo, length_cons → MX, getElem?_replicate_of_lt → MY, getElem?_append → MZ, mem_iff_getElem → M1, mem_cons → M4, getElem?_append_right → M6, pairwise_iff_getElem → Og, ext_getElem? → Oh, getElem?_cons_succ → Oj, cons_append → On, mem_iff_getElem? → OL, length_replicate → OO, range → OP, cons → PN, getElem?_drop → Qc, mem_singleton → Qd, size_toArray → Qe, range'_succ → Qg, isEmpty_iff → Qh, filter_cons → Qi, take_left' → Qv, mem_filter → Qx, drop_drop → Qy, all_cons → QU
open Bool renaming and_eq_true → C4, or_eq_true → Lw, not_eq_true' → Lx, false_eq_true → P8
open Option renaming some → E4, map_some → L4
open Array renaming getElem?_eq_some_iff → Fy, replicate → G1, getElem?_toList → G4, getElem?_eq_getElem → J1, setIfInBounds_comm → Lr, length_toList → Ls, toList_push → Mn, getElem?_modify → MW, mapM_eq_mapM_toList → Oe, getElem?_push → O4, toList_filter → Pl, any_eq_true' → PO
open Go.Region renaming ready → FP, wanted → M3, binds → Ob
open Nat renaming eq_of_beq_eq_true → F0, le_trans → J2, le_refl → Lt, lt_of_lt_of_le → L5, beq → L6, le_of_ble_eq_true → MR, zero_add → Oc, zero_le → Ol, ne_of_beq_eq_false → Oo, mul_le_mul_right → OQ, not_lt_zero → Qj
open Go.Result renaming andThen_ok → G2
open Go.Sem renaming run_bind → JA, run_pure → Mq
open Go.Op renaming operands → L2
open Go.Builtin renaming append_ → M5, zeroCells → Qf, clear_ → QE
open Go.Value renaming func → Oi
open Go.World renaming cell? → Om
open Go.Oper renaming semAt_none → Oq, looksAt → Ot, apart_spec → Ou
open Go.Operand renaming tmp → O2
open Prod renaming fst → Rr
namespace Go.Av
open Go.RowKit (Below)
def uF:AV→AV→Prop
 |.raw (.slice none 0 0),.sl _ []=>True
 |x,y=>x=y
def oJ:List AV→List AV→Prop
 |[],[]=>True
 |x::xs,y::ys=>uF x y∧oJ xs ys
 |_,_=>False
def nle:AV→AV→Prop
 |.agg cs,.agg ds=>oJ cs ds
 |x,y=>uF x y
def Zaj:List AV→List AV→Prop
 |[],[]=>True
 |x::xs,y::ys=>nle x y∧Zaj xs ys
 |_,_=>False
section
variable {C:Ag}{w:World}{mu:Mu}
theorem XD(x y:AV){v:Value}(h:uF x y)(hr:Aj C w x mu v):Aj C w y mu v:=by
 unfold uF at h;split at h
 ·unfold Aj at hr⊢;exact .inl ⟨⟨none,hr⟩,rfl⟩
 ·subst h;exact hr
theorem UL:∀(xs ys:List AV){vs:List Value},oJ xs ys→Aa C w xs mu vs→Aa C w ys mu vs
 |[],[],vs,_,hr=>hr
 |x::xs,y::ys,vs,h,hr=>by
  unfold Aa at hr⊢;obtain⟨v,BV,h1,h2,h3⟩:=hr;exact⟨v,BV,h1,XD x y h.1 h2,UL xs ys h.2 h3⟩
 |[],_::_,_,h,_=>h.elim
 |_::_,[],_,h,_=>h.elim
theorem uE(x y:AV){v:Value}(h:nle x y)(hr:Aj C w x mu v):Aj C w y mu v:=by
 unfold nle at h;split at h
 ·unfold Aj at hr⊢;obtain⟨vs,h1,h2⟩:=hr;exact⟨vs,h1,UL _ _ h h2⟩
 ·exact XD _ _ h hr
theorem XC:∀(xs ys:List AV){vs:List Value},Zaj xs ys→Aa C w xs mu vs→Aa C w ys mu vs
 |[],[],vs,_,hr=>hr
 |x::xs,y::ys,vs,h,hr=>by
  unfold Aa at hr⊢;obtain⟨v,BV,h1,h2,h3⟩:=hr;exact⟨v,BV,h1,uE x y h.1 h2,XC xs ys h.2 h3⟩
 |[],_::_,_,h,_=>h.elim
 |_::_,[],_,h,_=>h.elim
end
theorem Ak.args{P:Program}{f:FuncId}{args args':List AV}{E:List AV}{H:List HO}{K:AV→KK}{X:XX}(hl:Zaj args args')(h:Ak P f args' E H K X):Ak P f args E H K X:=
 ⟨h.Ed,λG C mu a w vs hP Ah hr=>h.out G C mu a w vs hP Ah (XC _ _ hl hr)⟩
def dH(P:Program)(m:Nat):List TypeId→List (List AV)→Prop
 |[],[]=>True
 |t::ts,p::ps=>MC P m t p∧dH P m ts ps
 |_,_=>False
section
variable {P:Program}
theorem dP{m:Nat}:∀(fs:List Field)(parts:List (List AV)),parts.length=fs.length→(∀(i:Nat) f p,fs[i]?=some f→parts[i]?=some p→MC P m f.type p)→dH P m (fs.map (·.type)) parts
 |[],[],_,_=>trivial
 |f::fs,p::ps,hl,h=>⟨h 0 f p rfl rfl,dP fs ps (by simpa using hl) λi f p h1 h2=>h (i+1) f p (by simpa using h1) (by simpa using h2)⟩
 |[],_::_,hl,_=>by simp at hl
 |_::_,[],hl,_=>by simp at hl
theorem GP{t:TypeId}{fs:Array Field}{ts:List TypeId}{m:Nat}{cs:List AV}(hu:P.underlying t=some (.struct fs))(JJ:fs.toList.map (·.type)=ts)(h:MC P (m+1) t cs):
  ∃parts,cs=parts.flatten∧dH P m ts parts:=by
 unfold MC at h;rw[hu]at h;obtain⟨parts,h1,h2,h3⟩:=h;refine⟨parts,h1,?_⟩;rw[←JJ];exact dP fs.toList parts (by simpa using h2) λi f p e1 e2=>h3 i f p (by simpa using e1) e2
theorem Zu{t:TypeId}{fs:Array Field}{ts:List TypeId}{m:Nat}{x:AV}(hu:P.underlying t=some (.struct fs))(JJ:fs.toList.map (·.type)=ts)(h:JI P (m+1) t x):
  ∃parts,x=.agg parts.flatten∧dH P m ts parts:=by
 obtain⟨c,rfl⟩:=h.2.1 (by simp[AU,hu])
 obtain⟨parts,h1,h2⟩:=GP hu JJ h.1;exact⟨parts,by rw[←h1];rfl,h2⟩
theorem Bo{m:Nat}{t:TypeId}{ts:List TypeId}{ps:List (List AV)}(h:dH P m (t::ts) ps):∃p r,ps=p::r∧MC P m t p∧dH P m ts r:=by
 cases ps with
 |nil=>exact h.elim
 |cons p r=>exact⟨p,r,rfl,h.1,h.2⟩
theorem JT{m:Nat}{ps:List (List AV)}(h:dH P m [] ps):ps=[]:=by
 cases ps with
 |nil=>rfl
 |cons p r=>exact h.elim
theorem DT{t:TypeId}{k:IntKind}{m:Nat}{p:List AV}(hu:P.underlying t=some (.int k))(h:MC P (m+1) t p):∃n,p=[.int k n]∧DF k n:=by
 unfold MC at h;rw[hu]at h;exact h
theorem KD{t:TypeId}{m:Nat}{p:List AV}(hu:P.underlying t=some .string)(h:MC P (m+1) t p):∃l,p=[.str l]∧l.length≤reachBytes:=by
 unfold MC at h;rw[hu]at h;exact h
theorem cV{t e:TypeId}{m:Nat}{p:List AV}(hu:P.underlying t=some (.slice e))(h:MC P (m+1) t p):∃es:List AV,p=[.sl (P.cellsOf e) es]∧es.length≤maxLen∧∀y∈es,JI P m e y:=by
 unfold MC at h;rw[hu]at h;exact h
theorem Zbo{t e:TypeId}{m:Nat}{p:List AV}(hu:P.underlying t=some (.slice e))(he:P.underlying e=some .string)(hc:P.cellsOf e=1)(h:MC P (m+2) t p):
  ∃l:List (List UInt8),p=[.sl 1 (l.map .str)]∧l.length≤maxLen∧∀s∈l,s.length≤reachBytes:=by
 obtain⟨es,rfl,h1,h2⟩:=cV hu h;obtain⟨l,rfl,h3⟩:=Fs (f:=AV.str) (p:=λs=>s.length≤reachBytes) λy hy=>sZ he (h2 y hy)
 exact⟨l,by rw[hc],by simpa using h1,h3⟩
end
def FG:Op→Bool
 |.move _|.assign _|.build _ _|.load _ _|.store _ _ _|.field _ _ _|.fieldAddr _ _ _|.extract _ _|.typeAssert _ _ _ _|.unOp _ _ _|.binOp _ _ _ _ _|.convert _ _ _|.makeInterface _ _|.alloc _|.box _ _=>true
 |_=>false
section
variable {G:Cx}{C C':Ag}{w w':World}{mu:Mu}{H:List HO}{E:List AV}{a:Act}{T:List TY}{P:Program}
theorem Xu{ρ:Operand→Value}{o:Oper}(hq:FG o.op=true){r:Next}(h:(execOp ρ o).run P w=.ok r w'):(∃v,r=.value v)∨r=.skip:=by
 have hv:∀s:Sem Value,(do pure (Next.value (←s)):Sem Next).run P w=.ok r w'→∃v,r=.value v:=λs h=>by
  rw[JA]at h;cases hs:s.run P w with
  |ok v w2=>
   rw[hs]at h;simp only[G2,Mq,Result.ok.injEq]at h;exact⟨v,h.1.symm⟩
  |halt e w2=>rw[hs]at h;cases h
 have hu:∀s:Sem Unit,(do s;pure Next.skip:Sem Next).run P w=.ok r w'→r=.skip:=λs h=>by
  rw[JA]at h;cases hs:s.run P w with
  |ok v w2=>
   rw[hs]at h;simp only[G2,Mq,Result.ok.injEq]at h;exact h.1.symm
  |halt e w2=>rw[hs]at h;cases h
 unfold execOp at h
 cases ho:o.op<;>rw[ho]at h hq<;>first
  |(simp[FG]at hq;done)
  |exact .inl (hv _ h)
  |exact .inr (hu _ h)
  |(simp only[Mq,Result.ok.injEq]at h;exact .inl ⟨_,h.1.symm⟩)
theorem quiet_mono{n:Nat}{o:Oper}(hq:FG o.op=true){next next':Act→World→Prop}{Q Q':Exit→Act→World→Prop}(hn:∀a' w',next a' w'→a'.defers=a.defers→next' a' w')
  (hQ:∀e a' w',Q e a' w'→a'.defers=a.defers→Q' e a' w') (h:o.wpIn (fw none) n P a w next Q):o.wpIn (fw none) n P a w next' Q':=by
 refine⟨h.1,?_⟩;have h2:=h.2;rw[show(fw none).round=none from rfl,Oq]at h2 ⊢
 cases hr:(execOp a.eval o).run P w with
 |ok r w'=>
  rw[hr]at h2;rcases Xu hq hr with⟨v,rfl⟩|rfl;·exact hn _ _ h2 (put_defers _ _ _)
  ·exact hn _ _ h2 (put_defers _ _ _)
 |halt e w'=>
  rw[hr]at h2;cases e with
  |panic v=>exact hQ _ _ _ h2 rfl
  |_=>exact h2
theorem JM{n:Nat}{ops:Array Oper}{Q:Exit→Act→World→Prop}{d:List Deferred}:∀(l:List Oper){a:Act}{w:World},(l.all λo=>FG o.op)=true→a.defers=d→wpListIn (fw none) n P ops Q l a w→wpListIn (fw none) n P ops (λe a w=>Q e a w∧a.defers=d) l a w
 |[],a,w,_,hd,h=>⟨h,hd⟩
 |o::l,a,w,hq,hd,h=>by
  simp only[QU,C4]at hq;unfold wpListIn at h⊢;split at h
  ·rename_i hw;rw[if_pos hw];exact quiet_mono hq.1 (λa' w' k e=>JM l hq.2 (e.trans hd) k) (λe a' w' k e'=>⟨k,e'.trans hd⟩) h
  ·rename_i hw;rw[if_neg hw];exact⟨h.1,JM l hq.2 ((put_defers _ _ _).trans hd) h.2⟩
theorem IP{n:Nat}{ops:Array Oper}{Q:Exit→Act→World→Prop}{d:List Deferred}(hq:(ops.toList.all λo=>FG o.op)=true):∀(fuel:Nat)(listed:Array Bool){a:Act}{w:World},a.defers=d→wpAnyIn (fw none) n P .any ops Q fuel listed a w→
  wpAnyIn (fw none) n P .any ops (λe a w=>Q e a w∧a.defers=d) fuel listed a w
 |0,listed,a,w,hd,h=>⟨h.1,h.2,hd⟩
 |fuel+1,listed,a,w,hd,h=>by
  refine⟨λhr=>⟨h.1 hr,hd⟩,λi hi=>?_⟩
  have h:=h.2 i hi;unfold wpOpIn at h⊢;cases ho:ops[i]? with
  |none=>
   rw[ho]at h;exact IP hq fuel _ hd h
  |some o=>
   rw[ho]at h;simp only at h⊢
   have hqo:FG o.op=true:=LA.1 hq o (by
    have:o∈ops:=Array.mem_of_getElem? ho;simpa using this)
   split at h
   ·rename_i hw;rw[if_pos hw];exact quiet_mono hqo (λa' w' k e=>IP hq fuel _ (e.trans hd) k) (λe a' w' k e'=>⟨k,e'.trans hd⟩) h
   ·rename_i hw;rw[if_neg hw];exact⟨h.1,IP hq fuel _ ((put_defers _ _ _).trans hd) h.2⟩
structure Th(P:Program)(c:Code)(E:List AV)(H:List HO)(K:KK)(X:XX):Prop where
 out:∀(n:Nat)(G:Cx)(a:Act)(w:World)(d:List Deferred),G.P=P→G.rd=none→St G E H a w→a.defers=d→c.wpIn (fw none) n P (λe a' w'=>Ln G K X e a' w'∧a'.defers=d) a w
def sE(P:Program)(T:List TY):Code→List AV→List HO→KK→XX→Prop
 |.skip,E,H,K,_=>K E H
 |.region id ops draw,E,H,K,X=>match draw with
  |false=>(match ops.toList.all (λo=>FG o.op)with|true=>Xo P T ops.toList ops.toList E H K X|false=>False)
  |true=>Th P (.region id ops true) E H K X
 |.seq a b,E,H,K,X=>sE P T a E H (λE H=>sE P T b E H K X) X
 |.cond c a b,E,H,K,X=>Dc E c λv=>match v with
  |.lit t=>(match t with|true=>sE P T a E H K X|false=>sE P T b E H K X)
  |.bool t=>(t=true→sE P T a E H K X)∧(t=false→sE P T b E H K X)
  |_=>False
 |.ret,E,H,_,X=>X .ret E H
 |c,E,H,K,X=>Th P c E H K X
theorem FN(hT:BL P T):∀(c:Code){E:List AV}{H:List HO}{K:KK}{X:XX},sE P T c E H K X→Th P c E H K X
 |.skip,E,H,K,X,h=>⟨λn G a w d hP OM Ah hd=>wpIn_skip ⟨⟨E,H,h,Ah⟩,hd⟩⟩
 |.region id ops draw,E,H,K,X,h=>by
  unfold sE at h;cases draw with
  |false=>
   refine⟨λn G a w d hP OM Ah hd=>?_⟩
   obtain⟨C,mu,Ah⟩:=Ah;subst hP;simp only at h;split at h
   ·rename_i hq;exact wpIn_region_list (JM _ hq hd (KY hT _ h Ah))
   ·exact h.elim
  |true=>exact h
 |.seq x y,E,H,K,X,h=>⟨λn G a w d hP OM Ah hd=>by
  unfold sE at h;refine wpIn_seq (wpIn_mono ((FN hT x h).out n G a w d hP OM Ah hd) λe a w q=>?_)
  cases e with
  |normal=>obtain⟨⟨E',H',h1,h2⟩,hd⟩:=q;exact(FN hT y h1).out n G a w d hP OM h2 hd
  |_=>exact q⟩
 |.cond c x y,E,H,K,X,h=>⟨λn G a w d hP OM Ah hd=>by
  unfold sE at h;rw[Af]at h;have Ss:=Ah;obtain⟨C,mu,CM⟩:=Ss;have hr:=AT CM.env c;split at h
  ·rename_i t hb;rw[hb]at hr;have hv:=Bl hr;cases t with
   |true=>exact wpIn_cond_true hv ((FN hT x h).out n G a w d hP OM Ah hd)
   |false=>exact wpIn_cond_false hv ((FN hT y h).out n G a w d hP OM Ah hd)
  ·rename_i t hb;rw[hb]at hr;have hv:=Bf hr;exact wpIn_cond_split hv (λht=>(FN hT x (h.1 ht)).out n G a w d hP OM Ah hd) (λht=>(FN hT y (h.2 ht)).out n G a w d hP OM Ah hd)
  ·exact h.elim⟩
 |.ret,E,H,K,X,h=>⟨λn G a w d hP OM Ah hd=>wpIn_ret ⟨⟨E,H,h,Ah⟩,hd⟩⟩
 |.block _ _,_,_,_,_,h=>h
 |.exit _,_,_,_,_,h=>h
 |.loop b,_,_,_,_,h=>h
 |.rangeFunc _ _ _ _,_,_,_,_,h=>h
 |.scope _,_,_,_,_,h=>h
 |.label _,_,_,_,_,h=>h
 |.goto _,_,_,_,_,h=>h
 |.refuse _,_,_,_,_,h=>h
def Vi(C:Ag)(w:World)(mu:Mu)(u:FrameMode)(rv:Option AV):Prop:=
 match rv with
 |none=>u=.returning
 |some x=>∃v,u=.panicking [{v,recovered:=false}]∧Aj C w x mu v
def Zcp(rv:Option AV):AV:=match rv with|none=>.raw .nilIface|some x=>x
def taK(T:List TY)(x:AV)(t:TypeId)(K:AV→Prop):Prop:=
 B6 T t λy=>match y.k with
  |.struct _=>(match x with
   |.iface t' v=>(match L6 t' t with|true=>K (.tuple [v,.lit true])|false=>False)
   |.raw .nilIface=>(match L6 y.zero.length y.size&&Nat.ble 2 y.size with|true=>K (.tuple [.agg y.zero,.lit false])|false=>False)
   |_=>False)
  |_=>False
def isRec(o:Op):Bool:=match o with
 |.call c=>(match c.callee with|.builtin .recover=>(match c.args.toList with|[]=>true|_=>false)|_=>false)
 |_=>false
def M8(P:Program)(T:List TY)(ops:List Oper):List Oper→List AV→List HO→KK→Prop
 |[],E,H,K=>K E H
 |o::r,E,H,K=>vY ops E o.guard
   (λE=>match o.op with
    |.typeAssert x _ t true=>Dc E x λv=>taK T v t λv=>Bx E o.dst v λE=>M8 P T ops r E H K
    |op=>(match FG op with
     |true=>RJ none P T E H op (λv E' H'=>Bx E' o.dst v λE=>M8 P T ops r E H' K) (λ_ _ _=>False)
     |false=>False))
   (λE=>Bx E o.dst (.raw undef) λE=>M8 P T ops r E H K)
def zZ(P:Program)(T:List TY)(ops:List Oper)(rv:AV)(E:List AV)(H:List HO)(K:KK):Prop:=
 match ops with
 |o::r=>(isRec o.op=true∧o.guard=none)∧Bx E o.dst rv λE=>M8 P T ops r E H K
 |[]=>False
theorem mM(hT:BL G.P T){x:AV}{v:Value}(hx:Aj C w x mu v){xt t:TypeId}{K:AV→Prop}(h:taK T x t K):
  ∃r u,K r∧Aj C w r mu u∧(Instr.typeAssert v xt t true).run G.P w=.ok u w:=by
 unfold taK at h;replace h:=(Ab _ _ _).1 h;obtain⟨y,hy,h⟩:=h
 obtain⟨i,d,hi,hd,he⟩:=hT.facts hy;split at h
 ·rename_i fs hk
  have Ah:∃fs,d=.struct fs:=by
   rw[he]at hk;simp only at hk;cases d<;>first|exact⟨_,rfl⟩|(simp[kindOf]at hk;done)
  obtain⟨fs',rfl⟩:=Ah;split at h
  ·rename_i t' av;split at h
   ·rename_i hb;obtain rfl:=F0 hb;unfold Aj at hx;obtain⟨q,rfl,hq⟩:=hx;refine⟨_,.tuple #[q,.bool true],h,by unfold Aj;exact⟨[q,.bool true],rfl,by simp[Aa,hq,Aj]⟩,?_⟩
    simp[Instr.typeAssert,underlying,hd]
   ·exact h.elim
  ·unfold Aj at hx;subst hx;split at h
   ·rename_i hb;simp only[C4]at hb;have GA:2≤y.size:=MR hb.2;obtain⟨z,hz,hzr⟩:=ED (C:=C) (mu:=mu) (w:=w) hT hy (F0 hb.1) (by omega)
    have Gm:=Ar _ hzr
    have bV:∃cs,z=.agg cs:=by
     cases z with
     |agg cs=>exact⟨cs,rfl⟩
     |_=>
      exfalso;have:=F0 hb.1;simp[Value.cells]at Gm;omega
    obtain⟨cs,rfl⟩:=bV;refine⟨_,.tuple #[.agg cs,.bool false],h,by unfold Aj;exact⟨[.agg cs,.bool false],rfl,by simp only[Aa,Aj];exact⟨_,_,rfl,⟨cs.toList,by simp,hzr⟩,_,_,rfl,rfl,rfl⟩⟩,?_⟩
    simp[Instr.typeAssert,underlying,hd,hz]
   ·exact h.elim
  ·exact h.elim
 ·exact h.elim
theorem nN{o:Oper}(h:isRec o.op=true)(ρ:Operand→Value)(w:World):(execOp ρ o).run P w=.ok .recover w:=by
 unfold isRec at h;split at h
 ·rename_i c hc;split at h
  ·rename_i hb;split at h
   ·rename_i ha;simp[execOp,hc,resolve,hb,invoke,builtin]
   ·cases h
  ·cases h
 ·cases h
theorem iR{n:Nat}{o:Oper}(hq:FG o.op=true){next:Act→World→Prop}{Q:Exit→Act→World→Prop}(h:o.wpIn (fw none) n P a w next Q):
  (∃v w',(execOp a.eval o).run P w=.ok (.value v) w'∧next (a.put o.dst v) w')∨(∃w',(execOp a.eval o).run P w=.ok .skip w'∧next (a.put o.dst undef) w')∨∃v w',Q (.panic [{v,recovered:=false}]) a w':=by
 have h2:=h.2;rw[show(fw none).round=none from rfl,Oq]at h2
 cases hr:(execOp a.eval o).run P w with
 |ok r w'=>
  rw[hr]at h2;rcases Xu hq hr with⟨v,rfl⟩|rfl;·exact .inl ⟨v,w',rfl,h2⟩
  ·exact .inr (.inl ⟨w',rfl,h2⟩)
 |halt e w'=>
  rw[hr]at h2;cases e with
  |panic v=>exact .inr (.inr ⟨v,w',h2⟩)
  |_=>exact h2.elim
theorem G6(hT:BL G.P T){n:Nat}{ops:Array Oper}{Q:Exit→Act→List Frame→World→Prop}{E9:List Frame}{K:KK}{D:List Deferred}
  (hQ:∀E' H' a' w',K E' H'→St G E' H' a' w'→a'.defers=D→Q .normal a' E9 w'):
  ∀(l:List Oper)(k:Nat),(∀j,l[j]?=ops[k+j]?)→∀{C:Ag}{mu:Mu}{E:List AV}{H:List HO}{a:Act}{w:World},M8 G.P T ops.toList l E H K→Az G C mu E H a w→a.defers=D→
   wpOpsSIn (fw none) n G.P ops Q (List.range' k l.length) a E9 w
 |[],k,hk,C,mu,E,H,a,w,h,Ah,hD=>by
  unfold M8 at h;exact hQ _ _ _ _ h ⟨C,mu,Ah⟩ hD
 |o::l,k,hk,C,mu,E,H,a,w,h,Ah,hD=>by
  have h0:ops[k]?=some o:=by simpa using (hk 0).symm
  have Hc:∀j,l[j]?=ops[k+1+j]?:=λj=>by have:=hk (j+1);simp only[Oj]at this;rw[this];congr 1;omega
  unfold M8 at h;simp only[MX,Qg];unfold wpOpsSIn;simp only[h0];refine⟨λ_ _=>trivial,?_⟩
  rcases Hd rfl Ah h with⟨hw,E',h1,h2⟩|⟨hw,E',h1,h2⟩
  ·rw[if_pos hw];split at h1
   ·rename_i x xt t ho;rw[Af]at h1;obtain⟨r,v,k1,k2,k3⟩:=mM hT (AT h2.env x) (xt:=xt) h1;have:(execOp a.eval o).run G.P w=.ok (.value v) w:=by simp[execOp,ho,k3]
    simp only[this];rw[Ax]at k1;exact G6 hT hQ l (k+1) Hc k1 (h2.frame (Be h2.env o.dst k2) (put_defers _ _ _)) ((put_defers _ _ _).trans hD)
   ·split at h1
    ·rename_i hq;have hw:=DM (r:=none) (n:=n) (Kn:=K) hT h1 h2 (next:=λa' w'=>H6 G o (λv E' H'=>Bx E' o.dst v λE=>M8 G.P T ops.toList l E H' K) a' w') (λ_ _ h=>h)
     have go:∀{a':Act}{w':World},H6 G o (λv E' H'=>Bx E' o.dst v λE=>M8 G.P T ops.toList l E H' K) a' w'→a'.defers=D→wpOpsSIn (fw none) n G.P ops Q (List.range' (k+1) l.length) a' E9 w':=by
      intro a' w' hp hd;obtain⟨r,Hp,H'',sQ,C',mu',CM⟩:=hp;rw[Ax]at sQ;exact G6 hT hQ l (k+1) Hc sQ CM hd
     rcases iR hq hw with⟨v,w',e1,e2⟩|⟨w',e1,e2⟩|⟨v,w',e2⟩
     ·simp only[e1];exact go e2 ((put_defers _ _ _).trans hD)
     ·simp only[e1];exact go e2 ((put_defers _ _ _).trans hD)
     ·obtain⟨x,v',E1,H1,C1,Hm,_,hf,_⟩:=e2;exact hf.elim
    ·exact h1.elim
  ·rw[if_neg (by simp[hw])]
   rw[Ax]at h1;exact G6 hT hQ l (k+1) Hc h1 (h2.frame (Be h2.env o.dst (show Aj C w (.raw undef) mu undef by unfold Aj;rfl)) (put_defers _ _ _)) ((put_defers _ _ _).trans hD)
theorem iQ(hT:BL G.P T){n:Nat}{ops:Array Oper}{Q:Exit→Act→List Frame→World→Prop}{c₀:Frame}{cs:List Frame}{u:FrameMode}{rv:Option AV}{K:KK}{D:List Deferred}
  (hu:c₀.mode=u) (lM:Vi C w mu u rv) (hQ:∀u' E' H' a' w',settle u'=.returning→K E' H'→St G E' H' a' w'→a'.defers=D→Q .normal a' ({c₀ with mode:=u'}::cs) w')
  (h:zZ G.P T ops.toList (Zcp rv) E H K) (Ah:Az G C mu E H a w) (hD:a.defers=D):wpOpsSIn (fw none) n G.P ops Q (OP ops.size) a (c₀::cs) w:=by
 unfold zZ at h;split at h
 ·rename_i o r jU;obtain⟨⟨h1,h2⟩,h3⟩:=h;rw[Ax]at h3;have Eh:ops.size=r.length+1:=by rw[←Ls,jU];rfl
  have h0:ops[0]?=some o:=by rw[←G4,jU];rfl
  have Hc:∀j,r[j]?=ops[0+1+j]?:=λj=>by rw[←G4,jU,show 0+1+j=j+1 by omega,Oj]
  rw[Eh,List.range_eq_range',Qg];unfold wpOpsSIn;simp only[h0];refine⟨λ_ _=>trivial,?_⟩
  rw[if_pos (by simp[M3,h2]),nN h1]
  cases rv with
  |none=>
   have hm:c₀.mode=.returning:=hu.trans lM;have:recoverD (c₀::cs)=none:=by simp[recoverD,hm]
   simp only[this];have he:c₀={c₀ with mode:=.returning}:=by rw[←hm]
   rw[he];exact G6 hT (λE' H' a' w' q1 q2 q3=>hQ .returning E' H' a' w' rfl q1 q2 q3) r (0+1) Hc h3 (Ah.frame (Be Ah.env o.dst (show Aj C w (.raw .nilIface) mu .nilIface by unfold Aj;rfl)) (put_defers _ _ _)) ((put_defers _ _ _).trans hD)
  |some x=>
   obtain⟨v,hv,hx⟩:=lM;have hm:c₀.mode=.panicking [{v,recovered:=false}]:=hu.trans hv;have:recoverD (c₀::cs)=some (v,{c₀ with mode:=.panicking [{v,recovered:=true}]}::cs):=by simp[recoverD,hm]
   simp only[this];exact G6 hT (λE' H' a' w' q1 q2 q3=>hQ _ E' H' a' w' rfl q1 q2 q3) r (0+1) Hc h3 (Ah.frame (Be Ah.env o.dst hx) (put_defers _ _ _)) ((put_defers _ _ _).trans hD)
 ·exact h.elim
structure dK(P:Program)(f:FuncId)(args:List AV)(H0:List HO)(rv:Option AV)(R:List HO→Prop):Prop where
 Ed:B5 P f=true
 out:∀(n:Nat)(C:Ag)(mu:Mu)(w:World)(vs:List Value)(u:FrameMode),Zh C w→AX C w (λ_=>True) mu H0→Aa C w args mu vs→Vi C w mu u rv→
  CallsDIn (fw none) n P f vs.toArray u w λe u' w'=>∃v H1 C' mu',e=.returned v∧settle u'=.returning∧R H1∧Jy C mu w C' mu' w'∧AX C' w' (λ_=>True) mu' H1∧
   H1.length=H0.length∧B1 H1=true∧∀l:Nat,H0[l]?=some HO.dead→H1[l]?=some HO.dead
theorem dK.Ai{f:FuncId}{fn:Func}{id:Nat}{ops:Array Oper}{rest:Code}{args:List AV}{H0:List HO}{rv:Option AV}{R:List HO→Prop}(hf:P.funcs[f]?=some fn)(hb:fn.body=some (.seq (.region id ops false) rest))(Ho:fn.results=#[])
  (hT:BL P T) (hg:B5 P f=true) (PJ:B1 H0=true)
  (h:DR fn.ntmps args λE=>zZ P T ops.toList (Zcp rv) E H0 λE H=>Th P rest E H (λ_ H=>CV H0.length H H0 H R) (λe _ H=>match e with|.ret=>CV H0.length H H0 H R|_=>False)):dK P f args H0 rv R:=by
 refine⟨hg,λn C mu w vs u AR hh hr lM=>callsDIn_of_wpSIn hf hb trivial λc₀ cs hu=>?_⟩
 unfold DR at h;rw[Dn,CO]at h;let G:Cx:={P:=P,Zb:=⟨AR,λb o hc ⟨l,g,hl,hg⟩=>(hh.fresh l g b hl hg).2.2 o hc⟩,C0:=C,M0:=λb=>∃l g,mu l=some g∧g.As=some b,W0:=w,CA:=λl b=>mu l=some (.CU b),np:=H0.length}
 have Ah:Az G C mu (args++J5 (fn.ntmps-args.length) (.raw undef)) H0 {tmps:=vs.toArray++G1 (fn.ntmps-vs.toArray.size) undef,defers:=[]} w:=by
  refine⟨λ_ _ h=>h,λ_ _ h=>.inl h,AR.lt,⟨hh.HH,λl g b hl hg=>⟨.inr ⟨l,g,hl,hg⟩,(hh.fresh l g b hl hg).2⟩,hh.sep,hh.dead,hh.Cm,hh.BJ,hh.maps⟩,?_,⟨[],rfl,T5 PJ⟩,⟨rfl,rfl,rfl,Lt _,λ_ _ _=>rfl⟩,Lt _,λ_ _ _ h=>h⟩
  have hl:=Ar _ hr;have:=AF hr (BG (C:=C) (w:=w) (mu:=mu) (fn.ntmps-args.length));simpa[hl]using this
 have AZ:∀(tmps:Array Value)(w:World),(results fn tmps).run P w=.ok (.tuple #[]) w:=λtmps w=>by
  rw[Ey,Ho];simp
 refine wpSIn_seq (wpSIn_region ?_);refine iQ (G:=G) hT hu lM (D:=[]) (λu' E' H' a' w1 hu' hk CM hD=>?_) h Ah rfl
 ·skip
  have fin:∀H a w',CV H0.length H H0 H R→(∃E,St G E H a w')→∃v H1 C' mu',Ending.returned (.tuple #[])=.returned v∧settle u'=.returning∧R H1∧Jy C mu w C' mu' w'∧AX C' w' (λ_=>True) mu' H1∧
    H1.length=H0.length∧B1 H1=true∧∀l:Nat,H0[l]?=some HO.dead→H1[l]?=some HO.dead:=by
   rintro H a w' hk ⟨E,C1,Hm,Ah⟩;obtain⟨r,H1,C',mu',k1,k2,k3,_,k4⟩:=jY (x:=.bool true) (v:=.bool true) (R:=λ_ H1=>R H1) (n:=0) hh Ah (by unfold Aj;rfl) (by unfold CS;simpa[closed,AV.AK]using hk)
   exact⟨_,H1,C',mu',rfl,hu',k1,k2,k3,k4⟩
  refine wpSIn_of_wpIn rfl (wpIn_mono (hk.out n G a' w1 [] rfl rfl CM hD) λe a w' q=>?_)
  obtain⟨q,hd⟩:=q;cases e with
  |normal=>obtain⟨E,H,h1,h2⟩:=q;exact⟨hd,u',rfl,_,AZ _ _,fin H a w' h1 ⟨E,h2⟩⟩
  |ret=>obtain⟨E,H,h1,h2⟩:=q;exact⟨hd,u',rfl,_,AZ _ _,fin H a w' h1 ⟨E,h2⟩⟩
  |exit id=>obtain⟨E,H,h1,h2⟩:=q;exact h1.elim
  |goto l=>exact q.elim
  |outgrown=>exact q.elim
  |panic ch=>obtain⟨x,v,E,H,C1,Hm,_,hk,_⟩:=q;exact hk.elim
end
section
variable {G:Cx}{C C':Ag}{w w':World}{mu:Mu}{H H0:List HO}{E:List AV}{a:Act}{T:List TY}{P:Program}
structure Vk(P:Program)(f:FuncId)(cap:List AV)(rv:Option AV)(E:List AV)(H:List HO)(K:KK):Prop where
 Ed:B5 P f=true
 out:∀(n:Nat)(G:Cx) C mu (a:Act) (w:World) (vs:List Value) (u:FrameMode),G.P=P→Az G C mu E H a w→Aa C w cap mu vs→Vi C w mu u rv→
  CallsDIn (fw none) n P f vs.toArray u w λe u' w'=>∃v E' H' C' mu',e=.returned v∧settle u'=.returning∧K E' H'∧Az G C' mu' E' H' a w'
def RA(rv:Option AV):List AV:=match rv with|some x=>[x]|none=>[]
theorem Vk.Zcu{f:FuncId}{cap:List AV}{rv:Option AV}{R:List HO→Prop}{K:KK}(h:dK P f cap H0 rv R)(hw:Bn H0 cap=true)(hx:Bn H0 (RA rv)=true)(hh:D8 H0 H0 H True)
  (hk:∀H1,R H1→Vv H0 E λE'=>BO H0 H0 H1 H λH'=>K E' H'):Vk P f cap rv E H K:=by
 refine⟨h.Ed,λn G C mu a w vs u hP Ah hr lM=>(h.out n C (mu.only H0) w vs u Ah.Ze (RL Ah hh) (BX cap hw hr) ?_).mono λe u' w' hp=>?_⟩
 ·cases rv with
  |none=>exact lM
  |some x=>
   obtain⟨v,hv,LB⟩:=lM;have:=BX (H0:=H0) [x] hx (C:=C) (w:=w) (mu:=mu) (vs:=[v]) (by unfold Aa;exact⟨v,[],rfl,LB,by unfold Aa;rfl⟩)
   unfold Aa at this;obtain⟨v',BV,he,k,_⟩:=this;simp only[PN.injEq]at he;obtain⟨rfl,_⟩:=he;exact⟨v,hv,k⟩
 ·obtain⟨v,H1,C',mu',he,hs,hR,hp,Yd,hlen,PJ,fK⟩:=hp;have LP:=(Er hh).1;have hk:=hk H1 hR;rw[GX]at hk;obtain⟨H',k1,k2,k3,k4⟩:=EI LP hk;obtain⟨m1,m2⟩:=merged Ah hh hp Yd hlen PJ fK k2 k3 k4;exact⟨v,_,_,C',_,he,hs,k1,m1⟩
def Cx.cM(G:Cx)(ms:List Nat)(f:FuncId)(vs:List Value):Cx:=
 {G with ds:={target:=.fn (.func f) vs.toArray,args:=#[]}::(ms.map mark++G.ds),K1:=ms.map (λD=>(D,Fb))++G.K1,OM:=λl h=>let ⟨r,hr⟩:=G.OM l h;⟨r,I0 _ hr⟩}
def gh(g:Nat)(vs:List Value)(H:List HO):Prop:=∃cap,H[g]?=some (.ghost cap vs [])
abbrev DK:=FuncId→Nat→List Value→KK
abbrev DX:=FuncId→Nat→List Value→XX
def QD(G:Cx)(K:KK)(X:XX)(K2:DK)(X2:DX)(e:Exit)(a:Act)(w:World):Prop:=
 Ln G K X e a w∨∃ms f vs g,B5 G.P f=true∧Ln (G.cM ms f vs) (λE H=>gh g vs H∧K2 f g vs E H) (λe E H=>gh g vs H∧X2 f g vs e E H) e a w
structure KL(P:Program)(c:Code)(E:List AV)(H:List HO)(K:KK)(X:XX)(K2:DK)(X2:DX):Prop where
 out:∀(n:Nat)(G:Cx)(a:Act)(w:World),G.P=P→G.rd=none→St G E H a w→c.wpIn (fw none) n P (QD G K X K2 X2) a w
theorem KL.seq1{x y:Code}{K:KK}{X:XX}{K2:DK}{X2:DX}(h:Ac P x E H (λE H=>KL P y E H K X K2 X2) X):KL P (.seq x y) E H K X K2 X2:=
 ⟨λn G a w hP hr Ah=>wpIn_seq (wpIn_mono (by have:=h.out n G a w hP Ah;rwa [hr]at this) λe a w q=>by
  cases e with
  |normal=>obtain⟨E',H',h1,h2⟩:=q;exact h1.out n G a w hP hr h2
  |_=>exact .inl q)⟩
theorem KL.ZeC{x y:Code}{K:KK}{X:XX}{K2:DK}{X2:DX}(h:KL P x E H (λE H=>KL P y E H K X K2 X2) X (λf g vs E H=>Ac P y E H (λE H=>gh g vs H∧K2 f g vs E H) (λe E H=>gh g vs H∧X2 f g vs e E H)) X2):KL P (.seq x y) E H K X K2 X2:=
 ⟨λn G a w hP hr Ah=>wpIn_seq (wpIn_mono (h.out n G a w hP hr Ah) λe a w q=>by
  rcases q with q|⟨ms,f,vs,g,hg,q⟩
  ·cases e with
   |normal=>obtain⟨E',H',h1,h2⟩:=q;exact h1.out n G a w hP hr h2
   |_=>exact .inl q
  ·cases e with
   |normal=>
    obtain⟨E',H',⟨_,h1⟩,h2⟩:=q;refine wpIn_mono (by have:=h1.out n (G.cM ms f vs) a w hP h2;rwa [show(G.cM ms f vs).rd=none from hr]at this) λe a w q=>.inr ⟨ms,f,vs,g,hg,q⟩
   |_=>exact .inr ⟨ms,f,vs,g,hg,q⟩)⟩
def UB(P:Program)(T:List TY)(ops:List Oper):List Oper→List AV→List HO→(FuncId→List AV→KK)→XX→Prop
 |[],_,_,_,_=>False
 |o::r,E,H,K,X=>match o.op with
  |.defer c=>(match r,o.guard with
   |[],none=>(match c.callee,c.args.toList with
    |.value f,[]=>Dc E f λv=>(match v with
     |.fn f cap=>B5 P f=true∧Bx E o.dst (.raw undef) λE=>K f cap E H
     |_=>False)
    |_,_=>False)
   |_,_=>False)
  |op=>vY ops E o.guard (λE=>RJ none P T E H op (λv E' H'=>Bx E' o.dst v λHp=>UB P T ops r Hp H' K X) X) (λE=>Bx E o.dst (.raw undef) λE'=>UB P T ops r E' H K X)
theorem iU{F:Fence}{n:Nat}{o:Oper}{K K':Act→World→Prop}{Q Q':Exit→Act→World→Prop}(h:∀a w,K a w→K' a w)(hq:∀e a w,Q e a w→Q' e a w)(hh:o.wpIn F n P a w K Q):o.wpIn F n P a w K' Q':=by
 unfold Oper.wpIn at*;refine⟨hh.1,?_⟩;have hh:=hh.2
 have hl:LetsOut Q→LetsOut Q':=λh=>by
  obtain⟨a,w,k⟩:=h;exact⟨a,w,hq _ _ _ k⟩
 generalize (o.semAt F.round a.eval).run P w=r at*;cases r with
 |ok x w'=>
  cases x<;>simp only[Oper.uponIn]at hh ⊢<;>
   first
    |exact h _ _ hh
    |exact⟨hh.1,CallsIn.mono hh.2 (λe Lo he=>by cases e<;>first|exact h _ _ he|exact hq _ _ _ he|exact hl he)⟩
    |exact⟨hh.1,RowsIn.mono hh.2 (λ_ _ he=>h _ _ he)⟩
    |exact⟨hh.1,RoundIn.mono hh.2 (λe Lo he=>by cases e<;>first|exact h _ _ he|exact hq _ _ _ he|exact hl he)⟩
 |halt x w'=>cases x<;>simp only[Oper.uponIn]at hh ⊢<;>first|exact hq _ _ _ hh|exact hh
theorem mU{ms:List Nat}{f:FuncId}{cap:List AV}{vs:List Value}(h:Az G C mu E H a w)(d1:a.defers=ms.map mark++G.ds)(d2:Br C w G.fresh mu H (ms.map (λD=>(D,Fb))++G.K1))(hr:Aa C w cap mu vs):
  Az (G.cM ms f vs) C mu E (H++[.ghost cap vs []]) {a with defers:={target:=.fn (.func f) vs.toArray,args:=#[]}::a.defers} w:=by
 have get:∀{l:Nat}{ob:HO},(H++[HO.ghost cap vs []])[l]?=some ob→H[l]?=some ob∨(l=H.length∧ob=.ghost cap vs []):=λ{l ob} hl=>by
  rcases Nat.lt_or_ge l H.length with k|k;·rw[Ky k]at hl;exact .inl hl
  ·rw[M6 k]at hl
   have:l-H.length=0:=by
    have:=(Ao.1 hl).1;simp at this;omega
   rw[this]at hl;simp at hl;exact .inr ⟨by omega,hl.symm⟩
 refine⟨h.c0,h.c1,h.lt,⟨λl g hl=>?_,h.heap.fresh,h.heap.sep,λl hl=>?_,λl cs hl=>?_,λl e sz es hl=>?_,λl ks vs hl=>?_⟩,h.env,⟨[],by simp[Cx.cM,d1],⟨λl cs BV Ds hl=>?_,λl I hl=>?_,λD hD=>d2.marks D (by simpa[Cx.cM]using hD),?_,λl l' cs vs1 oO cs' sW Tk hl Bq Bu D hD qH=>?_⟩⟩,⟨h.Aq.os,h.Aq.tape,h.Aq.output,h.Aq.size,h.Aq.block⟩,?_⟩
 ·have:=h.heap.HH l g hl;simp;omega
 ·rcases get hl with k|⟨_,k⟩;·exact h.heap.dead l k
  ·cases k
 ·rcases get hl with k|⟨_,k⟩;·exact h.heap.Cm l cs k
  ·cases k
 ·rcases get hl with k|⟨_,k⟩;·exact h.heap.BJ l e sz es k
  ·cases k
 ·rcases get hl with k|⟨_,k⟩;·exact h.heap.maps l ks vs k
  ·cases k
 ·rcases get hl with k|⟨_,k⟩
  ·obtain⟨q1,q2,q3⟩:=d2.Bc l cs BV Ds k;exact⟨q1,q2,λD hD=>⟨(q3 D hD).1,by simpa[Cx.cM]using (q3 D hD).2⟩⟩
  ·cases k;exact⟨hr,Lv,λD hD=>by cases hD⟩
 ·rcases get hl with k|⟨_,k⟩
  ·obtain⟨h0,Sw,Sr,q1,q2,q3,q4⟩:=d2.Gx l I k;refine⟨h0,Sw,Sr,q1,q2,λD hD=>q3 D (by simpa[Cx.cM]using hD),λl' cs BV Ds Bq D hD=>?_⟩
   rcases get Bq with k'|⟨_,k'⟩;·exact q4 l' cs BV Ds k' D hD
   ·cases k';cases hD
  ·cases k
 ·have:=d2.nd;simpa[Cx.cM]using this
 ·rcases get hl with k|⟨k0,k⟩
  ·rcases get Bq with k'|⟨_,k'⟩;·exact d2.sep l l' cs vs1 oO cs' sW Tk k k' Bu D hD qH
   ·cases k';cases qH
  ·cases k;cases hD
 ·exact⟨by have:=h.CA.1;simp only[Gk,MX,L3];exact J2 this (by omega),h.CA.2⟩
theorem L9(hT:BL G.P T)(OM:G.rd=none){n:Nat}{ops:Array Oper}{K0:KK}{K:FuncId→List AV→KK}{X:XX}{K2:DK}{X2:DX}(hK:∀f cap E H,K f cap E H→∀vs,K2 f H.length vs E (H++[.ghost cap vs []])):
  ∀(l:List Oper){C:Ag}{mu:Mu}{E:List AV}{H:List HO}{a:Act}{w:World},UB G.P T ops.toList l E H K X→Az G C mu E H a w→wpListIn (fw none) n G.P ops (QD G K0 X K2 X2) l a w
 |[],_,_,_,_,_,_,h,Ah=>by unfold UB at h;exact h.elim
 |o::l,C,mu,E,H,a,w,h,Ah=>by
  unfold UB at h;split at h
  ·rename_i c N1;split at h
   ·rename_i hg;split at h
    ·rename_i f hc ha;rw[Af]at h;split at h
     ·rename_i fi cap WA;obtain⟨U1,h⟩:=h;rw[Ax]at h;have hf:=AT Ah.env f;rw[WA]at hf;unfold Aj at hf;obtain⟨vs,hfv,La⟩:=hf;obtain⟨ms,d1,d2⟩:=Ah.defers;unfold wpListIn;rw[if_pos (by simp[M3,hg])]
      refine⟨λ_ _=>trivial,?_⟩
      rw[show(fw none).round=none from rfl,Oq]
      have AZ:(execOp a.eval o).run G.P w=.ok (.defer {target:=.fn (.func fi) vs.toArray,args:=#[]}) w:=by
       obtain⟨Zf,args,II⟩:=c;simp only at hc ha;subst hc;have:args=#[]:=by simpa using ha
       subst this;simp[execOp,N1,resolve,hfv,Deferred.ofValue]
      rw[AZ,Oper.uponIn_defer];refine .inr ⟨ms,fi,vs,H.length,U1,_,_,⟨⟨cap,by simp⟩,hK _ _ _ _ h vs⟩,C,mu,?_⟩
      have hx:Aj C w (.raw undef) mu undef:=by unfold Aj;rfl
      exact(mU Ah d1 d2 La).frame (Be (a:={a with defers:={target:=.fn (.func fi) vs.toArray,args:=#[]}::a.defers}) Ah.env o.dst hx) (put_defers _ _ _)
     ·exact h.elim
    ·exact h.elim
   ·exact h.elim
  ·unfold wpListIn;rcases Hd rfl Ah h with⟨hw,E',h1,h2⟩|⟨hw,E',h1,h2⟩
   ·rw[if_pos hw];refine iU (λ_ _ h=>h) (λe a w q=>.inl q) (DM (r:=none) (Kn:=K0) hT h1 h2 λa' w' hp=>?_)
    obtain⟨x,Hp,H',h3,C',mu',h4⟩:=hp;rw[Ax]at h3;exact L9 hT OM hK l h3 h4
   ·rw[if_neg (by simp[hw])]
    rw[Ax]at h1;exact⟨λ_ _=>trivial,L9 hT OM hK l h1 (h2.frame (Be h2.env o.dst (show Aj C w (.raw undef) mu undef by unfold Aj;rfl)) (put_defers _ _ _))⟩
theorem KL.region{id:Nat}{ops:Array Oper}{K:KK}{X:XX}{K2:DK}{X2:DX}(hT:BL P T)(h:UB P T ops.toList ops.toList E H (λf cap E H=>∀vs,K2 f H.length vs E (H++[.ghost cap vs []])) X):KL P (.region id ops false) E H K X K2 X2:=
 ⟨λn G a w hP hr Ah=>by
  obtain⟨C,mu,Ah⟩:=Ah
  subst hP
  exact wpIn_region_list (L9 hT hr (λf cap E H k=>k) _ h Ah)⟩
end
section
variable {G:Cx}{C C':Ag}{w w':World}{mu:Mu}{H H0:List HO}{E:List AV}{a:Act}{T:List TY}{P:Program}
theorem Br.less{fr:Nat→Prop}{d1 d2:List (Nat×Obj)}(h:Br C w fr mu H (d1++d2)):Br C w fr mu H d2:=by
 refine⟨λl cs vs ms hl=>?_,λl I hl=>?_,λD hD=>h.marks D (I0 _ hD),?_,h.sep⟩
 ·obtain⟨q1,q2,q3⟩:=h.Bc l cs vs ms hl;refine⟨q1,q2,λD hD=>⟨(q3 D hD).1,λhd=>(q3 D hD).2 ?_⟩⟩
  rw[H4];exact I0 _ hd
 ·obtain⟨h0,Sw,Sr,q1,q2,q3,q4⟩:=h.Gx l I hl;exact⟨h0,Sw,Sr,q1,q2,λD hD=>q3 D (I0 _ hD),q4⟩
 ·have:=h.nd;rw[H4]at this;exact(Mi.1 this).2.1
theorem Ni{n:Nat}{fn:Func}{R:Ending→World→Prop}{tmps tm2:Array Value}{u:FrameMode}(hu:u≠.run):∀(ms:List Nat){w:World}{a:Act},a.tmps=tm2→Az G C mu E H a w→Br C w G.fresh mu H (ms.map (λD=>(D,Fb))++G.K1)→
  (∀a' w',a'.tmps=tm2→Az G C mu E H a' w'→Br C w' G.fresh mu H G.K1→LeavesInM (fw none) n G.P fn tmps R G.ds u w')→LeavesInM (fw none) n G.P fn tmps R (ms.map mark++G.ds) u w
 |[],w,a,ha,h,hx,hr=>hr a w ha h (by simpa using hx)
 |D::ms,w,a,ha,h,hx,hr=>by
  simp only[J6,On,LeavesInM];obtain⟨h1,h2⟩:=h.Rc hx;refine⟨hu,.inl ⟨D,_,rfl,run_takeDeferred ?_,Ni hu ms (a:={a with defers:=ms.map mark++G.ds}) (by exact ha) h1 h2 hr⟩⟩
  exact(hx.marks (D,Fb) (by simp)).at_
theorem iH{f:FuncId}{vs:List Value}(hg:B5 P f=true)(w:World):(invoke (.fn (.func f) vs.toArray) #[]).run P w=.ok (.enter f vs.toArray) w:=by
 unfold B5 at hg;cases JK:P.funcs[f]? with
 |none=>rw[JK]at hg;cases hg
 |some fn=>
  rw[JK]at hg;simp only[C4]at hg;have Bu:fn.name ≠ "runtime.NumGoroutine":=by simpa using hg.2
  have hb:fn.body≠none:=by cases hh:fn.body<;>simp_all
  simp[invoke,callFunc,JK,Bu,hb]
theorem XT{n:Nat}{fn:Func}{R:Ending→World→Prop}{tmps:Array Value}(qC:G.ds=[])(Zh5:G.K1=[]){ms:List Nat}{f:FuncId}{vs:List Value}{g:Nat}{rv:Option AV}{u:FrameMode}{K:KK}(hu:u≠.run)(hgf:B5 G.P f=true)
  (Ah:Az (G.cM ms f vs) C mu E H a w) (lM:Vi C w mu u rv) (HW:gh g vs H) (hd:∀cap BV,H[g]?=some (.ghost cap BV [])→Vk G.P f cap rv E H K) (ht:a.tmps=tmps)
  (jY:∀E H C mu a w,K E H→a.tmps=tmps→Az G C mu E H a w→∃v,(results fn tmps).run G.P w=.ok v w∧R (.returned v) w):LeavesInM (fw none) n G.P fn tmps R a.defers u w:=by
 obtain⟨Tk,d1,d2⟩:=Ah.defers;rw[d1]
 -- lI Zd5 value ZgR in lI frame
 obtain⟨rs,HV,SF⟩:∃rs:List Value,Aa C w (RA rv) mu rs∧∀w',Aa C w' (RA rv) mu rs→Vi C w' mu u rv:=by
  cases rv with
  |none=>exact⟨[],by unfold RA Aa;rfl,λ_ _=>lM⟩
  |some x=>
   obtain⟨v,hv,hx⟩:=lM;refine⟨[v],by unfold RA Aa;exact⟨v,[],rfl,hx,by unfold Aa;rfl⟩,λw' h=>⟨v,hv,?_⟩⟩
   unfold RA Aa at h;obtain⟨v',BV,he,k,_⟩:=h;simp only[PN.injEq]at he;obtain⟨rfl,_⟩:=he;exact k
 have hl:rs.length=(RA rv).length:=Ar _ HV;have Ec:Az (G.cM ms f vs) C mu (RA rv++E) H {tmps:=(rs++a.tmps.toList).toArray,defers:=a.defers} w:=Ah.frame (by simpa using AF HV Ah.env) rfl
 refine Ni (G:=G.cM ms f vs) hu Tk rfl Ec d2 λa' w' ha hs hx=>?_
 have Yn:=hs.env;rw[ha]at Yn
 have h1:Aa C w' (RA rv) mu rs:=by
  have:=Yn.take (RA rv).length;simpa[←hl]using this
 have h2:Aa C w' E mu a.tmps.toList:=by
  have:=Yn.drop (RA rv).length;simpa[←hl]using this
 have Fv:Az (G.cM ms f vs) C mu E H {tmps:=a.tmps,defers:=a'.defers} w':=hs.frame h2 rfl;obtain⟨cap,EM⟩:=HW;have La:Aa C w' cap mu vs:=(hx.Bc g cap vs [] EM).1;show LeavesInM (fw none) n G.P fn tmps R ({target:=.fn (.func f) vs.toArray,args:=#[]}::(ms.map mark++G.ds)) u w'
 unfold LeavesInM;refine⟨hu,.inr ⟨λh=>(by cases h),_,_,f,vs.toArray,rfl,iH hgf w',λ_ _=>trivial,((hd cap vs EM).out (n-1) (G.cM ms f vs) C mu _ w' vs u rfl Fv La (SF w' h1)).mono λe u' Lo hp=>?_⟩⟩
 obtain⟨v,E',H',C',mu',rfl,bE,hk,CL⟩:=hp;obtain⟨jG,e1,e2⟩:=CL.defers;simp only[bE];have e3:Br C' Lo G.fresh mu' H' (ms.map (λD=>(D,Fb))++G.K1):=e2.less
 have Bv:Az G C' mu' E' H' {tmps:=a.tmps,defers:=ms.map mark++G.ds} Lo:=⟨CL.c0,CL.c1,CL.lt,CL.heap,CL.env,⟨ms,rfl,e3⟩,⟨CL.Aq.os,CL.Aq.tape,CL.Aq.output,CL.Aq.size,CL.Aq.block⟩,CL.CA⟩;rw[show ms.map mark++G.ds=ms.map mark by simp[qC]]
 exact GJ qC ms (by exact ht) Bv e3 λa' w' ha hs=>jY _ _ _ _ _ _ hk ha hs
def Wk(P:Program)(T:List TY)(rs:List ResultVar)(R:AV→Prop)(f:FuncId)(g:Nat)(rv:Option AV)(E:List AV)(H:List HO):Prop:=
 B6 H g λob=>match ob with|.ghost cap _ _=>Vk P f cap rv E H (Ru T rs R)|_=>False
theorem Aw.TH{f:FuncId}{fn:Func}{c:Code}{args:List AV}{R:AV→Prop}(hf:P.funcs[f]?=some fn)(hb:fn.body=some c)(hT:BL P T)(hg:B5 P f=true)
  (h:DR fn.ntmps args λE=>KL P c E [] (Ru T fn.results.toList R) (λe E H=>match e with|.ret=>Ru T fn.results.toList R E H|_=>False)
   (λf g _ E H=>Wk P T fn.results.toList R f g none E H) (λf g _ e E H=>match e with|.ret=>Wk P T fn.results.toList R f g none E H|.panic x=>Wk P T fn.results.toList R f g (some x) E H|_=>False)):Aw P f args R:=by
 refine⟨hg,λC w vs AR hr=>(callsIn_wide (n:=0)).1 (callsIn_of_wp_marks (F:=Fence.wide) (n:=0) hf hb trivial ?_ rfl)⟩
 unfold DR at h;rw[Dn,CO]at h;let G:Cx:={P:=P,C0:=C,M0:=λ_=>False,W0:=w,Zb:=⟨AR,λ_ _ _ h=>h⟩}
 have Ah:St G (args++J5 (fn.ntmps-args.length) (.raw undef)) [] {tmps:=vs.toArray++G1 (fn.ntmps-vs.toArray.size) undef,defers:=[]} w:=by
  refine⟨C,Mu.none,λ_ _ h=>h,λ_ _ h=>.inl h,AR.lt,SD _ _ _,?_,⟨[],rfl,QX _ _ _ _⟩,⟨rfl,rfl,rfl,Lt _,λ_ _ _=>rfl⟩,Ol _,λ_ _ h=>absurd h (Qj _)⟩
  have hl:=Ar _ hr;have:=AF hr (BG (C:=C) (w:=w) (mu:=Mu.none) (fn.ntmps-args.length));simpa[hl]using this
 let RR:Ending→World→Prop:=λe w'=>∃r v',e=.returned v'∧R r∧Below w.heap.size w w'∧Aj (Kc C w.heap.size w'.heap.size) w' r Mu.none v'
 have Zcn:∀tmps E H C1 Hm a w',Ru T fn.results.toList R E H→a.tmps=tmps→Az G C1 Hm E H a w'→∃v,(results fn tmps).run G.P w'=.ok v w'∧RR (.returned v) w':=by
  intro tmps E H C1 Hm a w' hk ha hs;obtain⟨r,v,h1,h2,h3⟩:=nK (G:=G) hT hs (λ_ h=>h) hk
  rw[ha]at h2;exact⟨v,h2,r,v,rfl,h1,⟨hs.Aq.os,hs.Aq.tape,hs.Aq.output,hs.Aq.size,λk hk=>hs.Aq.block k hk (λh=>h)⟩,h3⟩
 have fin:∀E H a w',Ru T fn.results.toList R E H→St G E H a w'→LeavesInM (fw none) 0 P fn a.tmps RR a.defers .returning w':=by
  rintro E H a w' hk ⟨C',mu',Ah⟩;obtain⟨ms,d1,d2⟩:=Ah.defers;rw[show a.defers=ms.map mark by simpa[G]using d1]
  exact GJ (G:=G) rfl ms rfl Ah d2 λa' Lo ha Fv=>Zcn _ _ _ _ _ _ _ hk ha Fv
 have We:∀{ms f vs g rv u}{C1:Ag}{Hm:Mu}{E H a w'},u≠.run→B5 P f=true→gh g vs H→Wk P T fn.results.toList R f g rv E H→Az (G.cM ms f vs) C1 Hm E H a w'→Vi C1 w' Hm u rv→LeavesInM (fw none) 0 P fn a.tmps RR a.defers u w':=by
  intro ms f vs g rv u C1 Hm E H a w' hu hgf HW hk Ah lM;refine XT (G:=G) rfl rfl hu hgf Ah lM HW (K:=Ru T fn.results.toList R) (λcap BV EM=>?_) rfl (λE H C mu a w hk ha hs=>Zcn _ _ _ _ _ _ _ hk ha hs)
  unfold Wk at hk;replace hk:=(Ab _ _ _).1 hk;obtain⟨ob,Ba,hk⟩:=hk
  rw[EM]at Ba;simp only[E4.injEq]at Ba;subst Ba;exact hk
 refine wpIn_mono (h.out 0 G _ w rfl rfl Ah) λe a w' q=>?_
 rcases q with q|⟨ms,f',BV,g,hgf,q⟩
 ·cases e with
  |normal=>obtain⟨E,H,h1,h2⟩:=q;exact fin E H a w' h1 h2
  |ret=>obtain⟨E,H,h1,h2⟩:=q;exact fin E H a w' h1 h2
  |exit id=>obtain⟨E,H,h1,h2⟩:=q;exact h1.elim
  |panic ch=>obtain⟨x,v,E,H,C,mu,_,h1,_⟩:=q;exact h1.elim
  |goto l=>exact q.elim
  |outgrown=>exact q.elim
 ·cases e with
  |normal=>obtain⟨E,H,⟨h0,h1⟩,C1,Hm,h2⟩:=q;exact We (by simp) hgf h0 h1 h2 rfl
  |ret=>obtain⟨E,H,⟨h0,h1⟩,C1,Hm,h2⟩:=q;exact We (by simp) hgf h0 h1 h2 rfl
  |exit id=>obtain⟨E,H,h1,h2⟩:=q;exact h1.2.elim
  |panic ch=>obtain⟨x,v,E,H,C1,Hm,rfl,⟨h0,h1⟩,h2,h3⟩:=q;exact We (rv:=some x) (by simp) hgf h0 h1 h2 ⟨v,rfl,h3⟩
  |goto l=>exact q.elim
  |outgrown=>exact q.elim
end
section
variable {E:List AV}{H:List HO}{T:List TY}{P:Program}{K:KK}{X:XX}
theorem Ac.xG(hT:BL P T){id:Nat}{ops:Array Oper}(h:Xo P T ops.toList ops.toList E H K X):Ac P (.region id ops false) E H K X:=
 BR hT (.region id ops false) (by unfold cX;exact h)
theorem Ac.zS{c:Operand}{x y:Code}(h:Dc E c λv=>match v with
  |.lit t=>(match t with|true=>Ac P x E H K X|false=>Ac P y E H K X)
  |.bool t=>(t=true→Ac P x E H K X)∧(t=false→Ac P y E H K X)
  |_=>False):Ac P (.cond c x y) E H K X:=⟨λn G a w hP Ah=>by
  rw[Af]at h;have Ss:=Ah;obtain⟨C,mu,CM⟩:=Ss;have hr:=AT CM.env c;split at h
  ·rename_i t hb;rw[hb]at hr;have hv:=Bl hr;cases t with
   |true=>exact wpIn_cond_true hv (h.out n G a w hP Ah)
   |false=>exact wpIn_cond_false hv (h.out n G a w hP Ah)
  ·rename_i t hb;rw[hb]at hr;have hv:=Bf hr;exact wpIn_cond_split hv (λht=>(h.1 ht).out n G a w hP Ah) (λht=>(h.2 ht).out n G a w hP Ah)
  ·exact h.elim⟩
theorem Ac.tK{id:Nat}{b:Code}(h:Ac P b E H K λe E H=>match e with
  |.exit i=>(match L6 i id with|true=>K E H|false=>X (.exit i) E H)
  |.ret=>X .ret E H
  |.panic x=>X (.panic x) E H):Ac P (.block id b) E H K X:=⟨λn G a w hP Ah=>by
  refine wpIn_block (wpIn_mono (h.out n G a w hP Ah) λe a w q=>?_)
  cases e with
  |normal=>exact q
  |exit i=>
   obtain⟨E',H',h1,h2⟩:=q;simp only[Exit.inBlock];simp only at h1;split at h1
   ·rename_i hb;rw[if_pos (F0 hb)];exact⟨E',H',h1,h2⟩
   ·rename_i hb;rw[if_neg (Oo hb)];exact⟨E',H',h1,h2⟩
  |ret=>exact q
  |panic ch=>exact q
  |goto l=>exact q
  |outgrown=>exact q⟩
theorem Ac.tI{b:Code}(h:Ac P b E H K X):Ac P (.scope b) E H K X:=⟨λn G a w hP Ah=>QY (λl a w q=>q) (h.out n G a w hP Ah)⟩
theorem Ac.zO(h:K E H):Ac P .skip E H K X:=⟨λn G a w hP Ah=>wpIn_skip ⟨E,H,h,Ah⟩⟩
theorem Ac.tJ{l:Nat}(h:K E H):Ac P (.label l) E H K X:=⟨λn G a w hP Ah=>wpIn_label ⟨E,H,h,Ah⟩⟩
theorem Ac.zR{id:Nat}(h:X (.exit id) E H):Ac P (.exit id) E H K X:=⟨λn G a w hP Ah=>wpIn_exit ⟨E,H,h,Ah⟩⟩
theorem Ac.Zcl(h:X .ret E H):Ac P .ret E H K X:=⟨λn G a w hP Ah=>wpIn_ret ⟨E,H,h,Ah⟩⟩
end
section
variable {G:Cx}{C C':Ag}{w w':World}{mu mu':Mu}{H H0:List HO}{E:List AV}{a:Act}{T:List TY}{P:Program}
mutual
theorem nC(h:∀i,HK H0 i=false):∀x:AV,Ig H0 x=x
 |.own k sz lo n=>by unfold Ig;rw[h k]
 |.el k sz i o=>by unfold Ig;rw[h k]
 |.fn f cap=>by unfold Ig;rw[FF h cap]
 |.mv f cap=>by unfold Ig;rw[FF h cap]
 |.iface t x=>by unfold Ig;rw[nC h x]
 |.agg cs=>by unfold Ig;rw[FF h cs]
 |.tuple vs=>by unfold Ig;rw[FF h vs]
 |.any=>by unfold Ig;rfl
 |.int _ _=>by unfold Ig;rfl
 |.bool _=>by unfold Ig;rfl
 |.lit _=>by unfold Ig;rfl
 |.str _=>by unfold Ig;rfl
 |.sl _ _=>by unfold Ig;rfl
 |.at_ _=>by unfold Ig;rfl
 |.raw _=>by unfold Ig;rfl
 |.ptr _ _=>by unfold Ig;rfl
 |.mp _ _=>by unfold Ig;rfl
 |.om _=>by unfold Ig;rfl
theorem FF(h:∀i,HK H0 i=false):∀xs:List AV,Jz H0 xs=xs
 |[]=>by unfold Jz;rfl
 |x::xs=>by unfold Jz;rw[nC h x,FF h xs]
end
theorem dZ(h:∀i,HK H0 i=false)(o:HO):Gr H0 o=o:=by
 cases o<;>simp[Gr,FF h]
end
end Go.Av
namespace Go.Av
inductive OT where
 |done
 |none
 |one (j:Nat) (t r:OT)
def OT.isNone:OT→Bool
 |.none=>true
 |_=>false
section
variable {G:Cx}{C:Ag}{w w':World}{mu:Mu}{H:List HO}{E:List AV}{a:Act}{T:List TY}{P:Program}{ops:Array Oper}{K:KK}{X:XX}
def uA(ops:Array Oper):OT→Nat→Array Bool→List Nat→Bool
 |.done,_,listed,rs=>rs.isEmpty&&(FP .any ops listed).isEmpty
 |.none,_,_,rs=>rs.isEmpty
 |.one j t r,f+1,listed,i::rs=>L6 i j&&!t.isNone&&uA ops t f (listed.setIfInBounds j true) (FP .any ops (listed.setIfInBounds j true))&&uA ops r (f+1) listed rs
 |.one _ _ _,_,_,_=>false
def yR(ops:Array Oper)(t:OT):Bool:=!t.isNone&&uA ops t ops.size (G1 ops.size false) (FP .any ops (G1 ops.size false))
def enT(P:Program)(T:List TY)(ops:List Oper)(K:KK)(X:XX):OT→List AV→List HO→Prop
 |.done,E,H=>K E H
 |.none,_,_=>True
 |.one j t r,E,H=>(∃o Kw,ops[j]?=some o∧DY P T ops o E H Kw X∧∀E' H',Kw E' H'→enT P T ops K X t E' H')∧enT P T ops K X r E H
structure EnF(P:Program)(T:List TY)(ops:List Oper)(K:KK)(X:XX)(t:OT)(E:List AV)(H:List HO):Prop where
 out:enT P T ops K X t E H
def en1(P:Program)(T:List TY)(ops:List Oper)(K:KK)(X:XX)(t:OT)(E:List AV)(H:List HO):Prop:=
 match t with
 |.done=>K E H
 |.none=>True
 |.one j t r=>(B6 ops j λo=>DY P T ops o E H (λE' H'=>EnF P T ops K X t E' H') X)∧EnF P T ops K X r E H
theorem EnF.step{JC:List Oper}{t:OT}(h:en1 P T JC K X t E H):EnF P T JC K X t E H:=by
 cases t with
 |done=>exact⟨h⟩
 |none=>exact⟨h⟩
 |one j t r=>
  obtain⟨h1,h2⟩:=h;replace h1:=(Ab _ _ _).1 h1;obtain⟨o,ho,h1⟩:=h1
  exact⟨⟨o,_,ho,h1,λ_ _ h=>h.out⟩,h2.out⟩
def Tc:Nat→List Nat
 |0=>[]
 |n+1=>n::Tc n
theorem Tb:∀{n i:Nat},i<n→A4 (Tc n) i=true
 |n+1,i,h=>by
  unfold Tc A4;split;·rfl
  ·rename_i hb;have:=Oo hb;exact Tb (by omega)
theorem cK{n0:Nat}:∀(t:OT)(f:Nat)(listed:Array Bool)(rs:List Nat)(E:List AV)(H:List HO),uA ops t f listed rs=true→enT P T ops.toList K X t E H→
  (∀i∈rs,∃f',f=f'+1∧Vd P T ops n0 (Tc ops.size) K X i (De P T ops n0 (Tc ops.size) K X f' (listed.setIfInBounds i true)) E H)∧(t.isNone=false→rs=FP .any ops listed→De P T ops n0 (Tc ops.size) K X f listed E H)
 |.done,f,listed,rs,E,H,hB,h=>by
  unfold uA at hB;simp only[C4,Qh]at hB;obtain⟨rfl,hr⟩:=hB;refine⟨λi hi=>by simp at hi,λ_ _=>?_⟩
  cases f with
  |zero=>unfold De;exact λ_=>⟨hr,h⟩
  |succ f=>unfold De;exact λ_=>⟨λ_=>h,λi hi=>by rw[hr]at hi;simp at hi⟩
 |.none,f,listed,rs,E,H,hB,h=>by
  unfold uA at hB;simp only[Qh]at hB;subst hB;exact⟨λi hi=>by simp at hi,λhn=>by cases hn⟩
 |.one j t r,f,listed,rs,E,H,hB,h=>by
  cases f with
  |zero=>unfold uA at hB;cases hB
  |succ f=>
   cases rs with
   |nil=>unfold uA at hB;cases hB
   |cons i rs=>
    unfold uA at hB;simp only[C4,Lx]at hB;obtain⟨⟨⟨h1,h2⟩,h3⟩,h4⟩:=hB;obtain rfl:=F0 h1;unfold enT at h;obtain⟨k1,k2⟩:=h;obtain⟨o,Kw,ho,k1,k3⟩:=k1;have yH:ops[i]?=some o:=by simpa using ho
    have AR:i<ops.size:=(Fy.1 yH).1
    have hd:Vd P T ops n0 (Tc ops.size) K X i (De P T ops n0 (Tc ops.size) K X f (listed.setIfInBounds i true)) E H:=by
     unfold Vd;rw[yH];simp only
     rw[Tb AR];simp only
     exact⟨_,k1,λE1 H1 hk=>(cK (n0:=n0) t f _ _ E1 H1 h3 (k3 _ _ hk)).2 h2 rfl⟩
    have hr:=(cK (n0:=n0) r (f+1) listed rs E H h4 k2).1
    have B7:∀i'∈i::rs,∃f',f+1=f'+1∧Vd P T ops n0 (Tc ops.size) K X i' (De P T ops n0 (Tc ops.size) K X f' (listed.setIfInBounds i' true)) E H:=by
     intro i' EY;rcases M4.1 EY with rfl|EY;·exact⟨f,rfl,hd⟩
     ·exact hr i' EY
    refine⟨B7,λ_ HV=>?_⟩
    unfold De;refine λ_=>⟨λh0=>(by rw[←HV]at h0;cases h0),λi' EY=>?_⟩
    rw[←HV]at EY;obtain⟨f',e,hh⟩:=B7 i' EY;cases e;exact hh
theorem Th.wQ{id:Nat}(t:OT)(hT:BL P T)(hm:P.follows .mixedOrders=true)(hq:(ops.toList.all λo=>FG o.op)=true)(hB:yR ops t=true)(h:EnF P T ops.toList K X t E H):Th P (.region id ops true) E H K X:=by
 refine⟨λn G a w d hP OM Ah hd=>?_⟩
 subst hP;obtain⟨C,mu,Ah⟩:=Ah;have CM:Az G C mu E H a w.drew:=Ah.drew;unfold yR at hB;simp only[C4,Lx]at hB;have h1:=(cK (n0:=H.length) t _ _ _ E H hB.2 h.out).2 hB.1 rfl;refine wpIn_region_any hm ?_;have h2:=Hl (r:=none) (n:=n) hT _ _ _ _ a _ h1 ⟨C,mu,CM⟩;exact IP hq _ _ hd (by simpa using h2)
end
section
variable {H:List HO}{E:List AV}{T:List TY}{P:Program}
theorem Ac.cP{x y:Code}{ι:Type}(tm:ι→List AV)(hp:ι→List HO)(pre:ι→Prop){K:KK}{X:XX}(ok:∀i,pre i→Bn (hp i) (tm i)=true∧Cq (hp i) (hp i) True)(len:∀i,H.length≤(hp i).length)
  (h1:Ac P x E H (λE' H'=>∃j,eV E' (tm j) (Kk H' (hp j) (pre j))) X) (h2:∀j,pre j→Ac P y (tm j) (hp j) K X):Ac P x E H (λE H=>Ac P y E H K X) X:=by
 refine⟨λn G a w hP Ah=>?_⟩
 have vF:G.np≤H.length:=by obtain⟨C,mu,h⟩:=Ah;exact h.CA.1
 refine wpIn_mono (h1.out n G a w hP Ah) λe a' w' hq=>?_
 cases e with
 |normal=>
  obtain⟨E',H',⟨j,hj⟩,CM⟩:=hq;obtain⟨ZaQ,hj⟩:=Nk _ _ _ hj;obtain⟨vD,R,rfl⟩:=Iv hj;obtain⟨C,mu,CM⟩:=CM.le ZaQ;exact⟨tm j,hp j,h2 j vD,C,_,CM.drop (ok j vD).1 (ok j vD).2 (J2 vF (len j))⟩
 |exit id=>exact hq
 |ret=>exact hq
 |panic c=>exact hq
 |goto l=>exact hq
 |outgrown=>exact hq
end
section
variable {G:Cx}{C:Ag}{w w':World}{mu:Mu}{H:List HO}{E:List AV}{a:Act}{T:List TY}{P:Program}{ops:Array Oper}{n0 i j:Nat}{o oi oj:Oper}{we:List Nat}{K:KK}{X:XX}
def exB(o:Oper):Bool:=match o.op with|.extract (.tmp _) _=>o.guard.isNone&&o.dst.isSome|_=>false
def stB(o:Oper):Bool:=match o.op with|.store _ (.tmp _) (.tmp _)=>o.guard.isNone&&o.dst.isNone|_=>false
def xI(o:Oper):Bool:=match o.op with|.move (.tmp _)=>o.guard.isNone&&o.dst.isSome|.binOp _ _ _ _ _=>o.guard.isNone&&o.dst.isSome|_=>false
def swB(oi oj:Oper):Bool:=(BU oi&&yU oj)||((exB oi&&stB oj)||(xI oi&&stB oj))
def Px(v:AV):Bool:=match v with|.own _ _ _ _=>false|.agg cs=>cs.all EH|_=>true
theorem SN:∀(cs:List AV){K:KK},cs.all EH=true→(Kq cs E H K↔K E H)
 |[],K,_=>by unfold Kq;exact Iff.rfl
 |v::r,K,h=>by
  simp only[QU,C4]at h;unfold Kq;have:=SN r (K:=K) h.2;cases v<;>first|exact this|exact absurd h.1 (by simp[EH])
theorem OV{v:AV}{K:KK}(h:Px v=true):U6 v E H K↔K E H:=by
 unfold U6;cases v<;>first|exact Iff.rfl|exact SN _ h|cases h
def BW(E:List AV)(o:Oper):Prop:=match o.op with|.store _ a x=>(match AM E a with|.ptr _ _=>True|.el _ _ _ _=>Px (AM E x)=true|_=>False)|_=>True
def tE(E:List AV)(o:Oper)(Q:Prop):Prop:=match o.op with|.store _ a x=>Dc E a λp=>(match p with|.ptr _ _=>Q|.el _ _ _ _=>Dc E x λv=>(match Px v with|true=>Q|false=>False)|_=>False)|_=>Q
theorem mR{E:List AV}{o:Oper}{Q:Prop}:tE E o Q↔BW E o∧Q:=by
 unfold tE BW;split
 ·rw[Af];split;·simp
  ·rw[Af];split;·rename_i h;simp[h]
   ·rename_i h;simp[h]
  ·simp
 ·simp
theorem RN{t:TypeId}{ad x:Operand}{K:AV→KK}{l k:Nat}(hp:AM E ad=.ptr l k)(h:Cg T E H t ad x K):
  ∃H',K (.raw undef) E H'∧∀(E2:List AV),AM E2 ad=AM E ad→AM E2 x=AM E x→∀K':AV→KK,K' (.raw undef) E2 H'→Cg T E2 H t ad x K':=by
 unfold Cg at h;obtain⟨y,hy,h⟩:=(Ab _ _ _).1 h;rw[Af,Af,Am,hp]at h;split at h;case h_2=>exact h.elim
 rename_i hc;simp only at h;obtain⟨ob,Ba,h⟩:=(Ab _ _ _).1 h;split at h;case h_2=>exact h.elim
 split at h;case h_2=>exact h.elim
 rename_i hb;rw[Cn,AD]at h;refine⟨_,h,λE2 e1 e2 K' k=>?_⟩
 unfold Cg;refine(Ab _ _ _).2 ⟨y,hy,?_⟩;rw[Af,Af,Am,e1,e2,hp];simp only[hc];refine(Ab _ _ _).2 ⟨_,Ba,?_⟩;simp only[hb];rw[Cn,AD];exact k
theorem LL{t:TypeId}{ad x:Operand}{K:AV→KK}{l z i k:Nat}(hp:AM E ad=.el l z i k)(h:Cg T E H t ad x K):
  ∃H',K (.raw undef) E H'∧∀(E2:List AV),AM E2 ad=AM E ad→AM E2 x=AM E x→∀K':AV→KK,K' (.raw undef) E2 H'→Cg T E2 H t ad x K':=by
 unfold Cg at h;obtain⟨y,hy,h⟩:=(Ab _ _ _).1 h;rw[Af,Af,Am,hp]at h;split at h;case h_2=>exact h.elim
 rename_i hc;simp only at h;obtain⟨ob,Ba,h⟩:=(Ab _ _ _).1 h;split at h;case h_2=>exact h.elim
 split at h;case h_2=>exact h.elim
 rename_i hb;obtain⟨Gu,hold,h⟩:=h;rw[Am]at h;split at h;case h_2=>exact h.elim
 rename_i GA;split at h
 ·rename_i kB;rw[AD]at h;refine⟨_,h,λE2 e1 e2 K' k=>?_⟩
  unfold Cg;refine(Ab _ _ _).2 ⟨y,hy,?_⟩;rw[Af,Af,Am,e1,e2,hp];simp only[hc];refine(Ab _ _ _).2 ⟨_,Ba,?_⟩;simp only[hb];refine⟨Gu,hold,?_⟩;rw[Am];simp only[GA,kB];rw[AD];exact k
 ·rename_i kB;rw[Cn,AD]at h;refine⟨_,h,λE2 e1 e2 K' k=>?_⟩
  unfold Cg;refine(Ab _ _ _).2 ⟨y,hy,?_⟩;rw[Af,Af,Am,e1,e2,hp];simp only[hc];refine(Ab _ _ _).2 ⟨_,Ba,?_⟩;simp only[hb];refine⟨Gu,hold,?_⟩;rw[Am];simp only[GA,kB];rw[Cn,AD];exact k
theorem wL(N3:exB oi=true)(LD:stB oj=true)(p1:∀t,oi.dst=some t→t∉oj.looksAt ops){Kw:KK}
  (h:Fa P T ops.toList n0 i oi E H λE' H'=>BW E' oj∧DY P T ops.toList oj E' H' Kw X):BW E oj∧DY P T ops.toList oj E H (λE1 H1=>Fa P T ops.toList n0 i oi E1 H1 Kw) X:=by
 obtain⟨Sm,UT,xO,X3,X9,pG⟩:=oi;obtain⟨JD,Ef,CW,aV,aW,jgd⟩:=oj;unfold exB at N3;unfold stB at LD;simp only at N3 LD;cases UT<;>first|cases N3|skip
 rename_i x m;cases x<;>first|cases N3|skip
 rename_i s;cases pG<;>simp at N3
 cases Sm<;>simp at N3
 rename_i d;cases Ef<;>first|cases LD|skip
 rename_i st ad xx;cases ad<;>first|cases LD|skip
 rename_i ta;cases xx<;>first|cases LD|skip
 rename_i tx;cases jgd<;>simp at LD
 subst LD;have hd:=p1 d rfl;have q1:(O2 ta)≠.tmp d:=λe=>hd (by cases e;simp[Ot,L2])
 have q2:(O2 tx)≠.tmp d:=λe=>hd (by cases e;simp[Ot,L2])
 have Tp:∀{v:AV}{x:Operand},x≠.tmp d→AM (E.set d v) x=AM E x:=λ{v x} hx=>by
  have:=Lg (E:=E) (d:=some d) (x:=v) (y:=x) (λt ht he=>hx (by cases ht;exact he))
  simpa[A5]using this
 have ex:∀{E:List AV}{H:List HO}{K:KK},Fa P T ops.toList n0 i {dst:=some d,op:=.extract (.tmp s) m,type:=xO,pos:=X3,after:=X9,guard:=none} E H K↔∃vs v,AM E (.tmp s)=.tuple vs∧vs[m]?=some v∧Py v λv=>K (E.set d v) H:=λ{E H K}=>by
  unfold Fa Tn rK Bg;simp only[Af,Pg,Ax,A5];constructor
  ·intro h;split at h
   ·rename_i vs hv;obtain⟨v,xT,h⟩:=(Ab _ _ _).1 h;rw[AV.AK]at h;exact⟨vs,v,hv,xT,h⟩
   ·exact h.elim
  ·intro⟨vs,v,hv,xT,h⟩;rw[hv];refine(Ab _ _ _).2 ⟨v,xT,?_⟩;rw[AV.AK];exact h
 rw[ex]at h;obtain⟨vs,v,hv,xT,h⟩:=h;obtain⟨u,⟨h0,h1⟩,hu,_,_⟩:=Ht h;unfold BW at h0⊢;simp only at h0⊢;rw[Tp q1,Tp q2]at h0;refine⟨h0,?_⟩
 have wst:∀{E:List AV}{H:List HO}{K:KK},((∃l k,AM E (.tmp ta)=.ptr l k)∨∃l z i k,AM E (.tmp ta)=.el l z i k∧Px (AM E (.tmp tx))=true)→(DY P T ops.toList {dst:=none,op:=.store st (.tmp ta) (.tmp tx),type:=CW,pos:=aV,after:=aW,guard:=none} E H K X↔Cg T E H st (.tmp ta) (.tmp tx) (λv E' H'=>Py v λv=>K E' H')):=λ{E H K} hp=>by
  unfold DY Tn RJ;rcases hp with⟨l,k,hp⟩|⟨l,z,i,k,hp,hn⟩;·simp only[Af,hp,Bx]
  ·simp only[Af,hp,Bx];exact OV hn
 generalize hp:AM E (.tmp ta)=p at h0;have pQ:(∃l k,p=.ptr l k)∨∃l z i k,p=.el l z i k∧Px (AM E (.tmp tx))=true:=by cases p<;>first|exact .inl ⟨_,_,rfl⟩|exact .inr ⟨_,_,_,_,rfl,h0⟩|exact h0.elim
 rw[wst (by rw[Tp q1,Tp q2,hp];exact pQ)]at h1
 rw[wst (by rw[hp];exact pQ)]
 obtain⟨H',h2,h3⟩:∃H',Py (.raw undef) (λv=>Kw (E.set d u) H')∧∀(E2:List AV),AM E2 (.tmp ta)=AM (E.set d u) (.tmp ta)→AM E2 (.tmp tx)=AM (E.set d u) (.tmp tx)→∀K':AV→KK,K' (.raw undef) E2 H'→Cg T E2 H st (.tmp ta) (.tmp tx) K':=by
  rcases pQ with⟨l,k,rfl⟩|⟨l,z,i,k,rfl,_⟩;·exact RN (by rw[Tp q1];exact hp) h1
  ·exact LL (by rw[Tp q1];exact hp) h1
 refine h3 E (Tp q1).symm (Tp q2).symm _ ?_;unfold Py at h2⊢;simp only at h2⊢;rw[ex];exact⟨vs,v,hv,xT,hu _ h2⟩
theorem tS(N3:xI oi=true)(LD:stB oj=true)(p1:∀t,oi.dst=some t→t∉oj.looksAt ops){Kw:KK}
  (h:Fa P T ops.toList n0 i oi E H λE' H'=>BW E' oj∧DY P T ops.toList oj E' H' Kw X):BW E oj∧DY P T ops.toList oj E H (λE1 H1=>Fa P T ops.toList n0 i oi E1 H1 Kw) X:=by
 obtain⟨Sm,UT,xO,X3,X9,pG⟩:=oi;obtain⟨JD,Ef,CW,aV,aW,jgd⟩:=oj;unfold xI at N3;unfold stB at LD;simp only at N3 LD
 obtain⟨hg,hdd⟩:pG=none∧∃d,Sm=some d:=by
  cases UT<;>first|cases N3|skip
  ·rename_i x;cases x<;>first|cases N3|skip
   cases pG<;>cases Sm<;>simp at N3
   exact⟨rfl,_,rfl⟩
  ·cases pG<;>cases Sm<;>simp at N3
   exact⟨rfl,_,rfl⟩
 obtain⟨d,rfl⟩:=hdd;subst hg;cases Ef<;>first|cases LD|skip
 rename_i st ad xx;cases ad<;>first|cases LD|skip
 rename_i ta;cases xx<;>first|cases LD|skip
 rename_i tx;cases jgd<;>simp at LD
 subst LD;have hd:=p1 d rfl;have q1:(O2 ta)≠.tmp d:=λe=>hd (by cases e;simp[Ot,L2])
 have q2:(O2 tx)≠.tmp d:=λe=>hd (by cases e;simp[Ot,L2])
 have Tp:∀{v:AV}{x:Operand},x≠.tmp d→AM (E.set d v) x=AM E x:=λ{v x} hx=>by
  have:=Lg (E:=E) (d:=some d) (x:=v) (y:=x) (λt ht he=>hx (by cases ht;exact he))
  simpa[A5]using this
 have pv:∀{E:List AV}{H:List HO}{K:KK},Fa P T ops.toList n0 i {dst:=some d,op:=UT,type:=xO,pos:=X3,after:=X9,guard:=none} E H K↔Bg T E H UT λv=>Py v λv=>K (E.set d v) H:=λ{E H K}=>by
  cases UT<;>first|cases N3|skip
  all_goals
   unfold Fa Tn rK Bg;simp only[Af,Pg,Ax,A5]
 have noH:∀{E:List AV}{H H':List HO}{K:AV→Prop},Bg T E H UT K→Bg T E H' UT K:=λ{E H H' K} h=>by
  cases UT<;>first|cases N3|skip
  all_goals exact h
 rw[pv]at h;obtain⟨r,hr,SF⟩:=GG h;obtain⟨u,⟨h0,h1⟩,hu,_,_⟩:=Ht hr;unfold BW at h0⊢;simp only at h0⊢;rw[Tp q1,Tp q2]at h0;refine⟨h0,?_⟩
 have wst:∀{E:List AV}{H:List HO}{K:KK},((∃l k,AM E (.tmp ta)=.ptr l k)∨∃l z i k,AM E (.tmp ta)=.el l z i k∧Px (AM E (.tmp tx))=true)→(DY P T ops.toList {dst:=none,op:=.store st (.tmp ta) (.tmp tx),type:=CW,pos:=aV,after:=aW,guard:=none} E H K X↔Cg T E H st (.tmp ta) (.tmp tx) (λv E' H'=>Py v λv=>K E' H')):=λ{E H K} hp=>by
  unfold DY Tn RJ;rcases hp with⟨l,k,hp⟩|⟨l,z,i,k,hp,hn⟩;·simp only[Af,hp,Bx]
  ·simp only[Af,hp,Bx];exact OV hn
 generalize hp:AM E (.tmp ta)=p at h0;have pQ:(∃l k,p=.ptr l k)∨∃l z i k,p=.el l z i k∧Px (AM E (.tmp tx))=true:=by cases p<;>first|exact .inl ⟨_,_,rfl⟩|exact .inr ⟨_,_,_,_,rfl,h0⟩|exact h0.elim
 rw[wst (by rw[Tp q1,Tp q2,hp];exact pQ)]at h1
 rw[wst (by rw[hp];exact pQ)]
 obtain⟨H',h2,h3⟩:∃H',Py (.raw undef) (λv=>Kw (E.set d u) H')∧∀(E2:List AV),AM E2 (.tmp ta)=AM (E.set d u) (.tmp ta)→AM E2 (.tmp tx)=AM (E.set d u) (.tmp tx)→∀K':AV→KK,K' (.raw undef) E2 H'→Cg T E2 H st (.tmp ta) (.tmp tx) K':=by
  rcases pQ with⟨l,k,rfl⟩|⟨l,z,i,k,rfl,_⟩;·exact RN (by rw[Tp q1];exact hp) h1
  ·exact LL (by rw[Tp q1];exact hp) h1
 refine h3 E (Tp q1).symm (Tp q2).symm _ ?_;unfold Py at h2⊢;simp only at h2⊢;rw[pv];exact noH (H:=H) (SF E H (λ_ _=>rfl) (λ_ _ _ _ _ h=>h) _ (hu _ h2))
theorem tD(hm:swB oi oj=true)(p1:∀t,oi.dst=some t→t∉oj.looksAt ops)(p2:∀t,oi.dst=some t→oj.dst≠some t)(p3:∀t,oj.dst=some t→t∉oi.looksAt ops){Kw:KK}
  (h:Fa P T ops.toList n0 i oi E H λE' H'=>BW E' oj∧DY P T ops.toList oj E' H' Kw X):BW E oj∧DY P T ops.toList oj E H (λE1 H1=>Fa P T ops.toList n0 i oi E1 H1 Kw) X:=by
 unfold swB at hm;rcases Lw _ _▸hm with hm|hm
 ·rw[C4]at hm;refine⟨?_,eN hm.1 hm.2 p1 p2 p3 (BF h λ_ _ k=>k.2)⟩
  have h2:=hm.2;unfold yU at h2;unfold BW;split;·rename_i N1;rw[N1]at h2;simp at h2
  ·trivial
 ·rcases Lw _ _▸hm with hm|hm<;>rw[C4]at hm
  ·exact wL hm.1 hm.2 p1 h
  ·exact tS hm.1 hm.2 p1 h
def Z3(P:Program)(T:List TY)(ops:List Oper)(n0:Nat)(we:List Nat):Nat→List Oper→List AV→List HO→KK→XX→Prop
 |_,[],E,H,K,_=>K E H
 |i,o::r,E,H,K,X=>match A4 we i with
  |false=>Fa P T ops n0 i o E H λE H=>Z3 P T ops n0 we (i+1) r E H K X
  |true=>tE E o (Tn ops E o.guard (RJ none P T E H o.op (λv E' H'=>Py v λv=>Bx E' o.dst v λHp=>Z3 P T ops n0 we (i+1) r Hp H' K X) X)
    (Bx E o.dst (.raw undef) λE'=>Z3 P T ops n0 we (i+1) r E' H K X))
theorem dT{Zcr:List Oper}{Kw:KK}(h:tE E o (DY P T Zcr o E H Kw X)):BW E o∧DY P T Zcr o E H Kw X:=mR.1 h
def Wm(P:Program)(T:List TY)(ops:Array Oper)(n0:Nat)(we:List Nat)(K:KK)(X:XX)(j:Nat)(Kn:KK)(E:List AV)(H:List HO):Prop:=
 match ops[j]? with
 |none=>Kn E H
 |some o=>match A4 we j with
  |false=>Fa P T ops.toList n0 j o E H Kn
  |true=>∃Kw:KK,BW E o∧DY P T ops.toList o E H Kw X∧∀E H,Kw E H→Kn E H
def F5(P:Program)(T:List TY)(ops:Array Oper)(n0:Nat)(we:List Nat)(K:KK)(X:XX):Nat→Array Bool→List AV→List HO→Prop
 |0,listed,E,H=>Sat P E H→FP .any ops listed=[]∧K E H
 |fuel+1,listed,E,H=>Sat P E H→(FP .any ops listed=[]→K E H)∧
  ∀i∈FP .any ops listed,Wm P T ops n0 we K X i (F5 P T ops n0 we K X fuel (listed.setIfInBounds i true)) E H
theorem cO(hT:BL G.P T){r:Option Nat}{n:Nat}{Kn K:KK}(h:Wm G.P T ops n0 we K X i Kn E H)(Ah:Az G C mu E H a w):
  wpOpIn (fw r) n G.P ops (Ln G K X) i (λa w=>∃E' H',Kn E' H'∧St G E' H' a w) a w:=by
 unfold Wm at h;by_cases TX:(∃o,ops[i]?=some o)∧A4 we i=true
 ·obtain⟨⟨o,ho⟩,hm⟩:=TX;rw[ho]at h;simp only at h;rw[hm]at h
  obtain⟨Kw,_,h,hKw⟩:=h;unfold DY at h;unfold wpOpIn;rw[ho];simp only
  rcases OS Ah h with⟨hw,h⟩|⟨hw,h⟩
  ·rw[if_pos hw];refine DM hT h Ah λa' w' hp=>?_
   obtain⟨r,E',H',hk,C',mu',CM⟩:=hp;obtain⟨E1,H1,k1,k2⟩:=XE (Kn:=λE H=>Kw E H) hk CM
   exact⟨E1,H1,hKw _ _ k1,k2⟩
  ·rw[if_neg (by simp[hw])]
   rw[Ax]at h;exact⟨λ_ _=>trivial,A5 E o.dst (.raw undef),H,hKw _ _ h,C,mu,Ah.frame (Be Ah.env o.dst (by unfold Aj;rfl)) (put_defers _ _ _)⟩
 unfold wpOpIn;split;·rename_i ho;rw[ho]at h;exact⟨E,H,h,C,mu,Ah⟩
 ·rename_i o ho;rw[ho]at h;simp only at h;split at h
  ·rcases MQ hT ho h Ah with⟨hw,h⟩|⟨hw,h⟩;·rw[if_pos hw];exact h
   ·rw[if_neg (by simp[hw])];exact⟨λ_ _=>trivial,h⟩
  ·rename_i hm;exact absurd ⟨⟨o,ho⟩,hm⟩ TX
theorem P4(hT:BL G.P T){r:Option Nat}{n:Nat}:∀(fuel:Nat)(listed:Array Bool)(E:List AV)(H:List HO)(a:Act)(w:World),F5 G.P T ops n0 we K X fuel listed E H→St G E H a w→wpAnyIn (fw r) n G.P .any ops (Ln G K X) fuel listed a w
 |0,listed,E,H,a,w,h,Ah=>by
  unfold F5 at h;obtain⟨h1,h2⟩:=h ⟨G,a,w,rfl,Ah⟩;exact⟨h1,E,H,h2,Ah⟩
 |fuel+1,listed,E,H,a,w,h,Ah=>by
  unfold F5 at h;obtain⟨h1,h2⟩:=h ⟨G,a,w,rfl,Ah⟩;refine⟨λh0=>⟨E,H,h1 h0,Ah⟩,λi hi=>?_⟩
  obtain⟨C,mu,Ah⟩:=Ah;exact wpOpIn_mono (λa' w' ⟨E',H',k1,k2⟩=>P4 hT fuel _ E' H' a' w' k1 k2) (cO hT (h2 i hi) Ah)
theorem YW(hT:BL P T)(hi:ops[i]?=some oi)(V6:A4 we i=false){U:Nat→Bool}(hUi:U i=true)
  (vV:∀j oj,U j=true→j≠i→ops[j]?=some oj→∃e∈oj.after,Ob .any e=true∧U e.on=true):
  ∀(fuel:Nat)(listed:Array Bool)(E:List AV)(H:List HO),(∀j,U j=true→listed.getD j false=false)→
   (∀j oj,ops[j]?=some oj→U j=false→listed.getD j true=false→(A4 we j=false∨swB oi oj=true)∧oi.apart ops oj=true)→
   i∈FP .any ops listed→Fa P T ops.toList n0 i oi E H (F5 P T ops n0 we K X fuel (listed.setIfInBounds i true))→F5 P T ops n0 we K X (fuel+1) listed E H:=by
 intro fuel;induction fuel with
 |zero=>
  intro listed E H hU SH hr h;unfold F5;intro hs;refine⟨λh0=>(by rw[h0]at hr;cases hr),λj hj=>?_⟩
  by_cases Gz:j=i;·subst Gz;unfold Wm;rw[hi];simp only;rw[V6];exact h
  ·obtain⟨Km,oj,Ei,B7⟩:=mem_ready.1 hj
   have bW:U j=false:=by
    cases hu:U j with
    |false=>rfl
    |true=>
     obtain⟨e,he,hb,Wz⟩:=vV j oj hu Gz Ei;have:=B7 e he hb;rw[hU _ Wz]at this;cases this
   obtain⟨bA,OR⟩:=SH j oj Ei bW Km;exfalso;obtain⟨vi,NZ,di,ki,ti⟩:=DA h;have Fv:Sat P (A5 E oi.dst vi) (BQ H (n0+i) NZ):=GR hT hi (ti E H ⟨λ_ _=>rfl,λ_ _ _ _ _ _ _=>rfl⟩ (λ_ _ _ _ _ h=>h) rfl _ ⟨rfl,rfl⟩) hs
   unfold F5 at ki;have:=ready_mono hj Gz;rw[(ki Fv).1]at this;cases this
 |succ fuel ih=>
  intro listed E H hU SH hr h;unfold F5;intro hs;refine⟨λh0=>(by rw[h0]at hr;cases hr),λj hj=>?_⟩
  by_cases Gz:j=i;·subst Gz;unfold Wm;rw[hi];simp only;rw[V6];exact h
  ·obtain⟨Km,oj,Ei,B7⟩:=mem_ready.1 hj
   have bW:U j=false:=by
    cases hu:U j with
    |false=>rfl
    |true=>
     obtain⟨e,he,hb,Wz⟩:=vV j oj hu Gz Ei;have:=B7 e he hb;rw[hU _ Wz]at this;cases this
   obtain⟨bA,OR⟩:=SH j oj Ei bW Km
   have rest:∀E1 H1,Fa P T ops.toList n0 i oi E1 H1 (F5 P T ops n0 we K X fuel ((listed.setIfInBounds j true).setIfInBounds i true))→F5 P T ops n0 we K X (fuel+1) (listed.setIfInBounds j true) E1 H1:=λE1 H1 k=>by
    refine ih (listed.setIfInBounds j true) E1 H1 (λk hk=>?_) (λk ok hk hu TO=>?_) (ready_mono hr (Ne.symm Gz)) k
    ·have Bu:j≠k:=λhe=>by subst he;rw[bW]at hk;cases hk
     rw[getD_set_ne false Bu];exact hU k hk
    ·refine SH k ok hk hu ?_;by_cases PL:j=k;·subst PL;exact Km
     ·rw[getD_set_ne true PL]at TO;exact TO
   unfold Wm;rw[Ei];simp only
   cases Yj:A4 we j with
   |false=>
    simp only
    have hc:=dS (Kj:=F5 P T ops n0 we K X fuel ((listed.setIfInBounds i true).setIfInBounds j true)) hT hs hi Ei (Ne.symm Gz) OR h λE' H' Fv k=>by
     unfold F5 at k;have:=(k Fv).2 j (ready_mono hj Gz);unfold Wm at this;rw[Ei]at this;simp only at this;rw[Yj]at this;exact this
    refine BF hc λE1 H1 k=>rest E1 H1 ?_
    rw[Lr _ _ Gz];exact k
   |true=>
    simp only
    have hmv:swB oi oj=true:=by
     rcases bA with k|k;·rw[Yj]at k;cases k
     ·simpa using k
    obtain⟨p1,p2,p3⟩:=Ou OR;obtain⟨vi,NZ,di,ki,ti⟩:=DA h;have refl:Eg ops.toList E E oi:=⟨λ_ _=>rfl,λ_ _ _ _ _ _ _=>rfl⟩
    have Fv:Sat P (A5 E oi.dst vi) (BQ H (n0+i) NZ):=GR hT hi (ti E H refl (λ_ _ _ _ _ h=>h) rfl _ ⟨rfl,rfl⟩) hs
    unfold F5 at ki;have hd:=(ki Fv).2 j (ready_mono hj Gz);unfold Wm at hd;rw[Ei]at hd;simp only at hd;rw[Yj]at hd
    obtain⟨Kw,hw0,Bj,Gf⟩:=hd;have h3:=ti E H refl (λ_ _ _ _ _ h=>h) rfl (λE' H'=>BW E' oj∧DY P T ops.toList oj E' H' Kw X) ⟨hw0,Bj⟩
    obtain⟨h4,h5⟩:=tD hmv p1 p2 p3 h3;refine⟨_,h4,h5,λE1 H1 k=>rest E1 H1 (BF k λE2 H2 k2=>?_)⟩
    rw[Lr _ _ Gz];exact Gf _ _ k2
def fW(ops:Array Oper)(we:List Nat)(listed:Array Bool)(k:Nat)(U:List Nat):Bool:=
 match ops[k]? with
 |none=>false
 |some ok=>A4 U k&&(OP ops.size).all (λj=>(!A4 U j||(!listed.getD j false))&&match ops[j]? with
   |none=>true
   |some oj=>(match A4 U j with
    |true=>L6 j k||oj.after.any (λe=>Ob .any e&&A4 U e.on)
    |false=>listed.getD j true||((!A4 we j||swB ok oj)&&ok.apart ops oj)))&&U.all λj=>decide (j<ops.size)
def XQ(ops:Array Oper)(we:List Nat):Nat→Nat→Array Bool→Bool
 |0,_,listed=>(FP .any ops listed).isEmpty
 |fuel+1,k,listed=>(match A4 we k with
  |true=>(FP .any ops listed == [k])
  |false=>(FP .any ops listed).contains k&&fW ops we listed k (Ek ops k))&&XQ ops we fuel (k+1) (listed.setIfInBounds k true)
def qY(ops:Array Oper)(we:List Nat):Bool:=XQ ops we ops.size 0 (G1 ops.size false)
theorem O6(hT:BL P T):∀(l:List Oper)(k:Nat)(listed:Array Bool)(E:List AV)(H:List HO),(∀j,l[j]?=ops[k+j]?)→
  XQ ops we l.length k listed=true→Z3 P T ops.toList n0 we k l E H K X→F5 P T ops n0 we K X l.length listed E H
 |[],k,listed,E,H,_,hB,h=>by
  unfold F5;unfold Z3 at h;exact λ_=>⟨by simpa[XQ]using hB,h⟩
 |o::l,k,listed,E,H,hl,hB,h=>by
  have h0:ops[k]?=some o:=by simpa using (hl 0).symm
  have Bq:∀j,l[j]?=ops[k+1+j]?:=λj=>by have:=hl (j+1);simpa[Nat.add_assoc,Nat.add_comm 1 j]using this
  simp only[MX,XQ,C4]at hB;obtain⟨Nx,kG⟩:=hB;unfold Z3 at h;cases hw:A4 we k with
  |false=>
   rw[hw]at h Nx;simp only[C4]at Nx h;obtain⟨hr,hf⟩:=Nx;unfold fW at hf;rw[h0]at hf;simp only[C4,LA,Mo]at hf;obtain⟨⟨vW,B7⟩,AR⟩:=hf;have lt:∀j,A4 (Ek ops k) j=true→j<ops.size:=λj hj=>by simpa using AR j (G9 hj)
   refine YW hT h0 hw (U:=A4 (Ek ops k)) vW (λj oj hu PL Ei=>?_) l.length listed E H (λj hu=>?_) (λj oj Ei hu TO=>?_) (by simpa using hr) (BF h λE' H' h'=>O6 hT l (k+1) _ E' H' Bq kG h')
   ·have:=(B7 j (lt j hu)).2;rw[Ei]at this;simp only[hu]at this;simp only[Lw]at this;rcases this with h1|h1;·exact absurd (F0 h1) PL
    ·obtain⟨e,he,h2⟩:=PO.1 h1;simp only[C4]at h2;exact⟨e,he,h2⟩
   ·have:=(B7 j (lt j hu)).1;simpa[hu]using this
   ·have U0:=(Fy.1 Ei).1;have:=(B7 j U0).2;rw[Ei]at this;simp only[hu]at this;simp only[TO,Lw,C4,Lx,P8,false_or]at this;simpa using this
  |true=>
   rw[hw]at h Nx;simp only at h Nx;have hr:FP .any ops listed=[k]:=by simpa using Nx
   unfold F5;intro hs;refine⟨λh0=>(by rw[hr]at h0;cases h0),λj hj=>?_⟩
   rw[hr]at hj;obtain rfl:j=k:=by simpa using hj
   unfold Wm;rw[h0];simp only;rw[hw];simp only
   exact⟨_,(dT h).1,(dT h).2,λE1 H1 hh=>O6 hT l (j+1) _ E1 H1 Bq kG hh⟩
theorem Ac.NH{id:Nat}(we:List Nat)(hT:BL P T)(hm:P.follows .mixedOrders=true)(hB:qY ops we=true)
  (h:Z3 P T ops.toList H.length we 0 ops.toList E (H++J5 ops.size .dead) K X):Ac P (.region id ops true) E H K X:=by
 refine⟨λn G a w hP Ah=>?_⟩
 subst hP;obtain⟨C,mu,Ah⟩:=Ah;have CM:Az G C mu E H a w.drew:=Ah.drew;have fA:=CM.pad [] ops.size;rw[Xw]at fA;have h1:=O6 (ops:=ops) (n0:=H.length) (we:=we) (K:=K) (X:=X) hT ops.toList 0 (G1 ops.size false) E _ (by simp) (by simpa[qY]using hB) h
 refine wpIn_region_any hm ?_;have h2:=P4 (r:=G.rd) (n:=n) hT _ _ _ _ a _ h1 ⟨C,mu,fA⟩;simpa using h2
end
section
variable {G:Cx}{C:Ag}{w:World}{mu:Mu}{H:List HO}{E:List AV}{a:Act}{P:Program}
def WQ:AV→AV
 |.lit b=>.bool b
 |x=>x
theorem gV{x:AV}{v:Value}(h:Aj C w x mu v):Aj C w (WQ x) mu v:=by
 cases x<;>first|exact h|(simp only[WQ];unfold Aj at*;exact h)
end
section
variable {G:Cx}{C:Ag}{w w':World}{mu:Mu}{H:List HO}{E:List AV}{a:Act}{T:List TY}{P:Program}{ops:Array Oper}{K:KK}{X:XX}
theorem Zan{l:List Nat}{p q:Nat→Bool}(h:∀i,q i=true→p i=true){i:Nat}(hi:i∈l)(h1:p i=true)(h2:q i=false):(l.filter q).length<(l.filter p).length:=by
 have hle:∀l:List Nat,(l.filter q).length≤(l.filter p).length:=by
  intro l;induction l with
  |nil=>simp
  |cons x l ih=>
   simp only[Qi];cases hq:q x with
   |true=>simp[h x hq];exact ih
   |false=>cases p x<;>simp<;>omega
 induction l with
 |nil=>cases hi
 |cons x l ih=>
  simp only[Qi];rcases M4.1 hi with rfl|hi
  ·rw[h1,h2];have:=hle l;simp;omega
  ·have:=ih hi;cases hq:q x with
   |true=>simp[h x hq];exact this
   |false=>cases p x<;>simp<;>omega
def eU(ops:Array Oper)(b:Array Bool):Nat:=((OP ops.size).filter λj=>!b.getD j true).length
theorem dE{D:Array Bool→List AV→List HO→Prop}{n0:Nat}
  (hs:∀b E H,D b E H→(FP .any ops b=[]→K E H)∧∀i∈FP .any ops b,∃(o:Oper) (Kw:KK),ops[i]?=some o∧DY P T ops.toList o E H Kw X∧∀E2 H2,Kw E2 H2→D (b.setIfInBounds i true) E2 H2):
  ∀(fuel:Nat)(b:Array Bool)(E:List AV)(H:List HO),eU ops b≤fuel→D b E H→De P T ops n0 (Tc ops.size) K X fuel b E H:=by
 have AR:∀{b:Array Bool}{i:Nat},i∈FP .any ops b→i<ops.size∧eU ops (b.setIfInBounds i true)<eU ops b:=λ{b i} hi=>by
  obtain⟨h1,o,h2,_⟩:=mem_ready.1 hi;have AR:=(Fy.1 h2).1;refine⟨AR,Zan (i:=i) (λj hj=>?_) (Mo.2 AR) (by rw[h1];rfl) ?_⟩
  ·by_cases N4:i=j;·subst N4;rw[h1];rfl
   ·rw[getD_set_ne true N4]at hj;exact hj
  ·have hb:i<b.size:=by
    by_cases hb:i<b.size;·exact hb
    ·rw[Array.getD,dif_neg hb]at h1;cases h1
   simp[Array.getD,hb]
 intro fuel;induction fuel with
 |zero=>
  intro b E H hf hD;unfold De
  have hr:FP .any ops b=[]:=by
   cases hr:FP .any ops b with
   |nil=>rfl
   |cons i r=>have:=(AR (b:=b) (i:=i) (by rw[hr];simp)).2;omega
  exact λ_=>⟨hr,(hs b E H hD).1 hr⟩
 |succ fuel ih=>
  intro b E H hf hD;unfold De;refine λ_=>⟨(hs b E H hD).1,λi hi=>?_⟩
  obtain⟨o,Kw,ho,h,hk⟩:=(hs b E H hD).2 i hi;obtain⟨h1,h2⟩:=AR hi;unfold Vd;rw[ho];simp only
  rw[Tb h1];simp only
  exact⟨Kw,h,λE1 H1 q=>ih _ _ _ (by omega) (hk _ _ q)⟩
theorem Ac.graph{id:Nat}(D:Array Bool→List AV→List HO→Prop)(hT:BL P T)(hm:P.follows .mixedOrders=true)(h0:D (G1 ops.size false) E H)
  (hs:∀b E H,D b E H→(FP .any ops b=[]→K E H)∧∀i∈FP .any ops b,∃(o:Oper) (Kw:KK),ops[i]?=some o∧DY P T ops.toList o E H Kw X∧∀E2 H2,Kw E2 H2→D (b.setIfInBounds i true) E2 H2):Ac P (.region id ops true) E H K X:=by
 refine⟨λn G a w hP Ah=>?_⟩
 subst hP;obtain⟨C,mu,Ah⟩:=Ah;have CM:Az G C mu E H a w.drew:=Ah.drew;have h1:=dE (n0:=H.length) hs ops.size _ E H (by unfold eU;exact J2 (List.length_filter_le _ _) (by simp)) h0
 refine wpIn_region_any hm ?_;have h2:=Hl (r:=G.rd) (n:=n) hT _ _ _ _ a _ h1 ⟨C,mu,CM⟩;simpa using h2
def ZdI:List Bool→Nat→Bool
 |[],_=>false
 |b::_,0=>b
 |_::r,n+1=>ZdI r n
def ZF:List Bool→Nat→List Bool
 |[],_=>[]
 |_::r,0=>true::r
 |b::r,n+1=>b::ZF r n
def eqB:List Bool→List Bool→Bool
 |[],[]=>true
 |a::x,b::y=>(a == b)&&eqB x y
 |_,_=>false
theorem S0:∀{x y:List Bool},eqB x y=true→x=y
 |[],[],_=>rfl
 |a::x,b::y,h=>by
  unfold eqB at h;simp only[C4,beq_iff_eq]at h;rw[h.1,S0 h.2]
 |[],_::_,h=>by cases h
 |_::_,[],h=>by cases h
theorem nA:∀(b:List Bool)(i:Nat),(ZF b i).toArray=b.toArray.setIfInBounds i true:=by
 intro b i
 have:ZF b i=b.set i true:=by
  induction b generalizing i with
  |nil=>rfl
  |cons x b ih=>cases i with
   |zero=>rfl
   |succ i=>simp[ZF,ih]
 rw[this];simp
def okL(ops:Array Oper)(L:List (List Bool×List Nat)):Bool:=
 (L.all λx=>(FP .any ops x.1.toArray == x.2)&&x.2.all λi=>L.any λy=>eqB y.1 (ZF x.1 i))&&L.any λy=>eqB y.1 (J5 ops.size false)
def fX:List (Nat×Nat×AV)→List Bool→List AV→List AV
 |[],_,E=>E
 |(i,s,v)::r,b,E=>fX r b (match ZdI b i with|true=>E.set s v|false=>E)
end
open Go.RowKit (Below)
section
variable {G:Cx}{C C':Ag}{w w':World}{mu:Mu}{H:List HO}{E:List AV}{a:Act}{T:List TY}{P:Program}
structure Ea(P:Program)(f:FuncId)(args:List AV)(e:TypeId)(sz:Nat)(es:List AV)(R:AV→List AV→Prop):Prop where
 Ed:B5 P f=true
 out:∀(C:Ag)(mu:Mu)(w:World)(vs:List Value),Zh C w→AX C w (λ_=>True) mu [.arr e sz es]→Aa C w args mu vs→
  Calls P f vs.toArray w λen w'=>∃r v Cf C',en=.returned v∧R r Cf∧Cf.length=es.length∧Jy C mu w C' mu w'∧AX C' w' (λ_=>True) mu [.arr e sz Cf]∧Aj C' w' r mu v
def wJ(e:TypeId)(sz n:Nat)(v:Value)(H H2:List HO)(K:List AV→Prop):Prop:=
 ∃Cf R,H2=[.arr e sz Cf]∧H=.arr e sz Cf::.ghost [.own 0 sz 0 n] [v] []::R∧Cf.length=n∧K Cf
def U7(T:List TY)(rs:List ResultVar)(e:TypeId)(sz:Nat)(es:List AV)(n:Nat)(g:Value)(R:AV→List AV→Prop)(E:List AV)(H:List HO):Prop:=
 VA T E H rs λvs=>match vs with
  |[v]=>CS 1 H 4 v λv=>CV 1 H [.arr e sz es] H λH2=>wJ e sz n g H H2 λes=>R v es
  |vs=>CS 1 H 5 (.tuple vs) λv=>CV 1 H [.arr e sz es] H λH2=>wJ e sz n g H H2 λes=>R v es
theorem nD{C0:Ag}{aM:Mu}{w0:World}{e:TypeId}{sz:Nat}{es Cf:List AV}{v:Value}{R:List HO}{fr:Nat→Prop}(hh:AX C0 w0 (λ_=>True) aM [.arr e sz es])(hv:Aj C0 w0 (.own 0 sz 0 es.length) aM v)
  (h:AX C w fr mu (.arr e sz Cf::.ghost [.own 0 sz 0 es.length] [v] []::R)) (xV:Aj C w (.own 0 sz 0 es.length) mu v) (hl:Cf.length=es.length):mu.below 1=aM:=by
 funext l
 rcases l with _|l
 ·rw[Cw (by omega)]
  unfold Aj at hv xV;obtain⟨x0,m0,q1,q2,rfl⟩:=hv;obtain⟨x,m,p1,p2,hx⟩:=xV;rw[m,m0];congr 2;obtain⟨_,k0⟩:=hh.BJ 0 e sz es (by simp)
  obtain⟨_,k⟩:=h.BJ 0 e sz Cf (by simp)
  rcases k0 with⟨k0,rfl⟩|⟨b0,c0,Zi9,k0,_⟩<;>rcases k with⟨k,rfl⟩|⟨b,c,cur,k,_⟩
  all_goals
   rw[k0]at m0;rw[k]at m;simp only[E4.injEq,GO.arr.injEq]at m m0;subst m;subst m0;simp[BP]at hx
  ·rfl
  ·obtain⟨h1,h2⟩:=hx;rw[h1,h2,hl]
 ·have h1:aM (l+1)=none:=by
   cases hm:aM (l+1)with
   |none=>rfl
   |some g=>have:=hh.HH _ _ hm;simp at this
  rw[h1];unfold Mu.below;simp
theorem Ea.oF{f:FuncId}{fn:Func}{c:Code}{rest:List AV}{e:TypeId}{sz:Nat}{es:List AV}{R:AV→List AV→Prop}(hf:P.funcs[f]?=some fn)(hb:fn.body=some c)(hT:BL P T)(hg:B5 P f=true)
  (h:∀v,DR fn.ntmps (.own 0 sz 0 es.length::rest) λE=>Ac P c E [.arr e sz es,.ghost [.own 0 sz 0 es.length] [v] []] (U7 T fn.results.toList e sz es es.length v R) (λen E H=>match en with|.ret=>U7 T fn.results.toList e sz es es.length v R E H|_=>False)):
  Ea P f (.own 0 sz 0 es.length::rest) e sz es R:=by
 refine⟨hg,λC mu w vs AR hh hr=>(callsIn_wide (n:=0)).1 (callsIn_of_wp_marks (F:=Fence.wide) (n:=0) hf hb trivial ?_ rfl)⟩
 obtain⟨v,hv,BV,rfl⟩:∃v,Aj C w (.own 0 sz 0 es.length) mu v∧∃BV,vs=v::BV:=by
  unfold Aa at hr;obtain⟨v,BV,h1,h2,_⟩:=hr;exact⟨v,h2,BV,h1⟩
 have h:=h v;unfold DR at h;rw[Dn,CO]at h;let G:Cx:={P:=P,Zb:=⟨AR,λb o hc ⟨l,g,hl,hg⟩=>(hh.fresh l g b hl hg).2.2 o hc⟩,C0:=C,M0:=λb=>∃l g,mu l=some g∧g.As=some b,W0:=w,CA:=λl b=>mu l=some (.CU b),np:=1}
 have Ah:St G ((.own 0 sz 0 es.length::rest)++J5 (fn.ntmps-(.own 0 sz 0 es.length::rest).length) (.raw undef)) [.arr e sz es,.ghost [.own 0 sz 0 es.length] [v] []] {tmps:=(v::BV).toArray++G1 (fn.ntmps-(v::BV).toArray.size) undef,defers:=[]} w:=by
  refine⟨C,mu,λ_ _ h=>h,λ_ _ h=>.inl h,AR.lt,⟨λl g hl=>by have:=hh.HH l g hl;simp at this⊢;omega,λl g b hl hg=>⟨.inr ⟨l,g,hl,hg⟩,(hh.fresh l g b hl hg).2⟩,hh.sep,λl hl=>?_,λl cs hl=>?_,λl e' BD Cf hl=>?_,λl ks us hl=>?_⟩,?_,⟨[],rfl,?_⟩,⟨rfl,rfl,rfl,Lt _,λ_ _ _=>rfl⟩,by simp[G],λ_ _ _ h=>h⟩
  ·match l,hl with
   |l+2,hl=>simp at hl
  ·match l,hl with
   |l+2,hl=>simp at hl
  ·match l,hl with
   |0,hl=>exact hh.BJ 0 e' BD Cf hl
   |l+2,hl=>simp at hl
  ·match l,hl with
   |l+2,hl=>simp at hl
  ·have hl:=Ar _ hr;have:=AF hr (BG (C:=C) (w:=w) (mu:=mu) (fn.ntmps-(.own 0 sz 0 es.length::rest).length));rw[←hl]at this;simpa[hl]using this
  ·refine⟨λl cs us ms hl=>?_,λl I hl=>?_,λD hD=>(by cases hD),Lv,λl l' cs us ms cs' Tw Ds hl Bq Bu=>?_⟩
   ·match l,hl with
    |1,hl=>
     simp at hl;obtain⟨rfl,rfl,rfl⟩:=hl;exact⟨by unfold Aa;exact⟨v,[],rfl,hv,by unfold Aa;rfl⟩,Lv,λD hD=>by cases hD⟩
    |l+2,hl=>simp at hl
   ·match l,hl with
    |l+2,hl=>simp at hl
   ·match l,hl with
    |1,hl=>
     simp at hl;obtain⟨rfl,rfl,rfl⟩:=hl;intro D hD;cases hD
    |l+2,hl=>simp at hl
 have core:∀{C1:Ag}{Hm:Mu}{E1:List AV}{H1:List HO}{a1:Act}{w1:World}{x:AV}{u:Value}{n:Nat},Az G C1 Hm E1 H1 a1 w1→Aj C1 w1 x Hm u→(CS 1 H1 n x λr=>CV 1 H1 [.arr e sz es] H1 λH2=>wJ e sz es.length v H1 H2 λCf=>R r Cf)→
   ∃r Cf C',R r Cf∧Cf.length=es.length∧Jy C mu w C' mu w1∧AX C' w1 (λ_=>True) mu [.arr e sz Cf]∧Aj C' w1 r mu u:=by
  intro C1 Hm E1 H1 a1 w1 x u n hs hx hk;obtain⟨r,H2,C',⟨Cf,R',rfl,rfl,hl,hR⟩,q1,q2,q3,_⟩:=yM (H0:=[.arr e sz es]) (R:=λr H2=>wJ e sz es.length v H1 H2 λCf=>R r Cf) hh hs hx hk
  obtain⟨ms,_,d2⟩:=hs.defers;have HW:=(d2.Bc 1 [.own 0 sz 0 es.length] [v] [] (by simp)).1
  unfold Aa at HW;obtain⟨v',_,he,xV,_⟩:=HW;simp only[PN.injEq]at he;obtain⟨rfl,_⟩:=he;have hm:=nD hh hv hs.heap xV hl;simp only[List.length_singleton]at q1 q2 q3;rw[hm]at q1 q2 q3;exact⟨r,Cf,C',hR,hl,q1,q2,q3⟩
 have fin:∀E1 H1 a w',U7 T fn.results.toList e sz es es.length v R E1 H1→St G E1 H1 a w'→LeavesInM (fw none) 0 P fn a.tmps (λen w'=>∃r u Cf C',en=.returned u∧R r Cf∧Cf.length=es.length∧Jy C mu w C' mu w'∧
   AX C' w' (λ_=>True) mu [.arr e sz Cf]∧Aj C' w' r mu u) a.defers .returning w':=by
  rintro E1 H1 a w' hk ⟨C1,Hm,Ah⟩;obtain⟨ms,d1,d2⟩:=Ah.defers;rw[show a.defers=ms.map mark by simpa[G]using d1]
  refine Ft (G:=G) rfl (by simp) ms rfl Ah d2 λa' Lo ha Fv=>?_
  unfold U7 at hk;obtain⟨xs,us,hk,hr,AZ⟩:=Ow (G:=G) hT Fv _ hk
  have hm:(fn.results.mapM (Xl a'.tmps)).run P Lo=.ok us.toArray Lo:=by
   rw[Oe];simp only[Sem.run_map,AZ,G2,G]
  have Ho:(results fn a.tmps).run P Lo=.ok (if h:us.toArray.size=1 then us.toArray[0]else .tuple us.toArray) Lo:=by
   rw[←ha,Ey,JA,hm];rfl
  unfold LeavesIn;split at hk
  ·rename_i x;unfold Aa at hr;obtain⟨u,Tw,rfl,hr,Nq⟩:=hr;unfold Aa at Nq;subst Nq;obtain⟨r,Cf,C',k1,k2,k3⟩:=core Fv hr hk;exact⟨u,by rw[Ho];simp,r,u,Cf,C',rfl,k1,k2,k3⟩
  ·rename_i Bu
   have hl:us.length≠1:=λe=>by
    have:=Ar _ hr;rw[e]at this;cases xs with
    |nil=>simp at this
    |cons x xs=>
     cases xs with
     |nil=>exact Bu x rfl
     |cons _ _=>simp at this
   have hrt:Aj C1 Lo (.tuple xs) Hm (.tuple us.toArray):=by unfold Aj;exact⟨us,rfl,hr⟩
   obtain⟨r,Cf,C',k1,k2,k3⟩:=core Fv hrt hk;exact⟨.tuple us.toArray,by rw[Ho];simp[hl],r,.tuple us.toArray,Cf,C',rfl,k1,k2,k3⟩
 refine wpIn_mono (h.out 0 G _ w rfl Ah) λen a w' q=>?_
 cases en with
 |normal=>obtain⟨E,H,h1,h2⟩:=q;exact fin E H a w' h1 h2
 |ret=>obtain⟨E,H,h1,h2⟩:=q;exact fin E H a w' h1 h2
 |exit id=>obtain⟨E,H,h1,h2⟩:=q;exact h1.elim
 |goto l=>exact q.elim
 |outgrown=>exact q.elim
 |panic ch=>obtain⟨x,v,E,H,C1,Hm,rfl,hk,Ah,hx⟩:=q;exact hk.elim
theorem Ea.Ai{f:FuncId}{fn:Func}{c:Code}{rest:List AV}{e:TypeId}{sz n:Nat}{es:List AV}{R:AV→List AV→Prop}(hf:P.funcs[f]?=some fn)(hb:fn.body=some c)(hT:BL P T)(hg:B5 P f=true)(hn:n=es.length)
  (h:∀v,DR fn.ntmps (.own 0 sz 0 n::rest) λE=>Ac P c E [.arr e sz es,.ghost [.own 0 sz 0 n] [v] []] (U7 T fn.results.toList e sz es n v R) (λen E H=>match en with|.ret=>U7 T fn.results.toList e sz es n v R E H|_=>False)):
  Ea P f (.own 0 sz 0 n::rest) e sz es R:=by
 subst hn;exact Ea.oF hf hb hT hg h
theorem Ak.Kb{f:FuncId}{args:List AV}{e:TypeId}{sz:Nat}{es:List AV}{R:AV→List AV→Prop}{K:AV→KK}{X:XX}(h:Ea P f args e sz es R)(hw:Bn [.arr e sz es] args=true)(hh:D8 [.arr e sz es] [.arr e sz es] H True)
  (hk:∀r Cf,R r Cf→Cf.length=es.length→EK H 0 (.arr e sz Cf) λH'=>K r E H'):Ak P f args E H K X:=by
 refine⟨h.Ed,λG C mu a w vs hP Ah hr=>(h.out C (mu.only [.arr e sz es]) w vs Ah.Ze (RL Ah hh) (BX args hw hr)).mono λen w' hp=>?_⟩
 obtain⟨r,v,Cf,C',rfl,hR,hlen,DC,Yd,EX⟩:=hp;have hk:=hk r Cf hR hlen;rw[AD]at hk;have JG:∀i,HK ([]:List HO) i=false:=λi=>rfl
 have jX:mu.mix (mu.only [.arr e sz es]) [.arr e sz es]=mu:=by
  funext l
  unfold Mu.mix;split;·rename_i h;exact ET h
  ·rfl
 obtain⟨_,hle,_⟩:=Er hh;have hH:0<H.length:=by simp at hle;omega
 have LP:∀i:Nat,AQ [.arr e sz es] i=true→i=0:=λi hi=>by
  obtain⟨ob,ho,_⟩:=Cp.1 hi;have:=(Ao.1 ho).1;simpa using this
 obtain⟨m1,m2⟩:=VS (HS:=[]) (H1:=[.arr e sz Cf]) (H':=H.set 0 (.arr e sz Cf)) Ah hh DC Yd (by simp) rfl (λl hl=>by match l,hl with|l+1,hl=>simp at hl)
  (by simp) (λi hi=>by obtain rfl:=LP i hi;rw[Ff hH];rfl)
  (λi hi=>by
   have Bu:i≠0:=λh0=>by subst h0;cases hi
   rw[D6 (Ne.symm Bu)]
   cases H[i]? with
   |none=>rfl
   |some o=>simp only[L4];rw[dZ JG])
  (λl x _ hm=>by rw[jX];exact hm)
 rw[FF JG,jX]at m1;rw[jX]at m2;exact .inl ⟨r,v,_,_,C',_,rfl,hk,m1,Aj.mono (Ext.refl _ _) _ m2 EX⟩
end
def gD(n:Nat)(us:List Value)(ms:List Nat)(H:List HO)(Q:List AV→List HO→Prop):Prop:=
 B6 H n λob=>match ob with
  |.ghost E Tw Ds=>(Tw=us∧Ds=ms)∧EK H n (.ghost [] [] []) λH'=>Q E H'
  |_=>False
def tP(T:List TY)(rs:List ResultVar)(n:Nat)(us:List Value)(ms:List Nat)(K:AV→KK)(E:List AV)(H:List HO):Prop:=
 VA T E H rs λvs=>gD n us ms H λE2 H2=>match vs with
  |[v]=>K v E2 H2
  |vs=>K (.tuple vs) E2 H2
section
variable {G:Cx}{C C':Ag}{w w':World}{mu:Mu}{H:List HO}{E:List AV}{a:Act}{T:List TY}{P:Program}
theorem CI{x:HO}{l:Nat}{y:HO}(h:(H++[x])[l]?=some y):(l<H.length∧H[l]?=some y)∨(l=H.length∧y=x):=by
 rw[MZ]at h;split at h;·rename_i hl;exact .inl ⟨hl,h⟩
 ·rename_i hl
  have h2:l-H.length=0:=by
   have:=(Ao.1 h).1;simp at this;omega
  rw[h2]at h;simp only[J4,E4.injEq]at h;exact .inr ⟨by omega,h.symm⟩
theorem bQ{fr:Nat→Prop}(h:AX C w fr mu H)(E0:List AV)(us:List Value)(ms:List Nat):AX C w fr mu (H++[.ghost E0 us ms]):=by
 refine⟨λl g hl=>by have:=h.HH l g hl;simp;omega,h.fresh,h.sep,λl hl=>?_,λl cs hl=>?_,λl e sz es hl=>?_,λl ks vs hl=>?_⟩
 ·rcases CI hl with⟨_,k⟩|⟨_,k⟩;·exact h.dead l k
  ·cases k
 ·rcases CI hl with⟨_,k⟩|⟨_,k⟩;·exact h.Cm l cs k
  ·cases k
 ·rcases CI hl with⟨_,k⟩|⟨_,k⟩;·exact h.BJ l e sz es k
  ·cases k
 ·rcases CI hl with⟨_,k⟩|⟨_,k⟩;·exact h.maps l ks vs k
  ·cases k
theorem gM{fr:Nat→Prop}{ms:List Nat}{K1:List (Nat×Obj)}(h:Br C w fr mu H (ms.map (λD=>(D,Fb))++K1)){E0:List AV}{us:List Value}(hr:Aa C w E0 mu us):
  Br C w fr mu (H++[.ghost E0 us ms]) K1:=by
 have N2:=h.nd;rw[H4,Mi]at N2;obtain⟨n1,n2,n3⟩:=N2;have Kl:(ms.map (λD=>(D,Fb))).map Rr=ms:=by rw[List.map_map];exact List.map_id ms
 rw[Kl]at n1 n3;have Nr:∀D∈ms,(D,Fb)∈ms.map (λD=>(D,Fb))++K1:=λD hD=>List.mem_append_left _ (Kh.2 ⟨D,hD,rfl⟩)
 have ZaZ:∀D,D∉(ms.map (λD=>(D,Fb))++K1).map Rr→D∉ms∧D∉K1.map Rr:=λD hD=>by
  rw[H4,Kl]at hD;simp only[It,not_or]at hD;exact hD
 refine⟨λl cs vs Ds hl=>?_,λl I hl=>?_,λD hD=>h.marks D (I0 _ hD),n2,λl l' cs vs oO cs' BV Tk hl Bq Bu=>?_⟩
 ·rcases CI hl with⟨_,k⟩|⟨_,k⟩
  ·obtain⟨q1,q2,q3⟩:=h.Bc l cs vs Ds k;exact⟨q1,q2,λD hD=>⟨(q3 D hD).1,(ZaZ D (q3 D hD).2).2⟩⟩
  ·simp only[HO.ghost.injEq]at k;obtain⟨rfl,rfl,rfl⟩:=k;exact⟨hr,n1,λD hD=>⟨h.marks _ (Nr D hD),λhm=>n3 D hD D hm rfl⟩⟩
 ·rcases CI hl with⟨_,k⟩|⟨_,k⟩
  ·obtain⟨q1,Sw,Sr,q2,q3,q4,q5⟩:=h.Gx l I k;refine⟨q1,Sw,Sr,q2,q3,λD hD=>q4 D (I0 _ hD),λl' cs vs Ds Bq D hD=>?_⟩
   rcases CI Bq with⟨_,k'⟩|⟨_,k'⟩;·exact q5 l' cs vs Ds k' D hD
   ·simp only[HO.ghost.injEq]at k';obtain⟨rfl,rfl,rfl⟩:=k';exact q4 _ (Nr D hD)
  ·cases k
 ·intro D hD qH;rcases CI hl with⟨_,k⟩|⟨e,k⟩
  ·rcases CI Bq with⟨_,k'⟩|⟨_,k'⟩;·exact h.sep l l' cs vs oO cs' BV Tk k k' Bu D hD qH
   ·simp only[HO.ghost.injEq]at k';obtain⟨rfl,rfl,rfl⟩:=k';exact(ZaZ D ((h.Bc l cs vs oO k).2.2 D hD).2).1 qH
  ·simp only[HO.ghost.injEq]at k;obtain⟨rfl,rfl,rfl⟩:=k;rcases CI Bq with⟨_,k'⟩|⟨e',k'⟩;·exact(ZaZ D ((h.Bc l' cs' BV Tk k').2.2 D qH).2).1 hD
   ·omega
theorem lY{fr:Nat→Prop}{ms:List Nat}{K1:List (Nat×Obj)}(h:Br C w fr mu H K1){n:Nat}{E0:List AV}{us:List Value}(hn:H[n]?=some (.ghost E0 us ms)):
  Br C w fr mu (H.set n (.ghost [] [] [])) (ms.map (λD=>(D,Fb))++K1):=by
 have AR:=(Ao.1 hn).1;obtain⟨g1,g2,g3⟩:=h.Bc n E0 us ms hn;have Kl:(ms.map (λD=>(D,Fb))).map Rr=ms:=by rw[List.map_map];exact List.map_id ms
 have get:∀{l:Nat}{y:HO},(H.set n (.ghost [] [] []))[l]?=some y→(l=n∧y=.ghost [] [] [])∨(l≠n∧H[l]?=some y):=λ{l y} hl=>by
  by_cases e:l=n
  ·subst e;rw[Ff AR]at hl;simp only[E4.injEq]at hl;exact .inl ⟨rfl,hl.symm⟩
  ·rw[D6 (Ne.symm e)]at hl;exact .inr ⟨e,hl⟩
 refine⟨λl cs vs Ds hl=>?_,λl I hl=>?_,λD hD=>?_,?_,λl l' cs vs oO cs' BV Tk hl Bq Bu=>?_⟩
 ·rcases get hl with⟨_,k⟩|⟨e,k⟩
  ·simp only[HO.ghost.injEq]at k;obtain⟨rfl,rfl,rfl⟩:=k;exact⟨by unfold Aa;rfl,Lv,λD hD=>by cases hD⟩
  ·obtain⟨q1,q2,q3⟩:=h.Bc l cs vs Ds k;refine⟨q1,q2,λD hD=>⟨(q3 D hD).1,?_⟩⟩
   rw[H4,Kl,It,not_or];exact⟨λhm=>h.sep l n cs vs Ds E0 us ms k hn e D hD hm,(q3 D hD).2⟩
 ·rcases get hl with⟨_,k⟩|⟨e,k⟩;·cases k
  ·obtain⟨q1,Sw,Sr,q2,q3,q4,q5⟩:=h.Gx l I k;refine⟨q1,Sw,Sr,q2,q3,λD hD=>?_,λl' cs vs Ds Bq D hD=>?_⟩
   ·rcases It.1 hD with hD|hD
    ·obtain⟨D0,hD0,rfl⟩:=Kh.1 hD;exact q5 n E0 us ms hn D0 hD0
    ·exact q4 D hD
   ·rcases get Bq with⟨_,k'⟩|⟨e',k'⟩
    ·simp only[HO.ghost.injEq]at k';obtain⟨rfl,rfl,rfl⟩:=k';cases hD
    ·exact q5 l' cs vs Ds k' D hD
 ·rcases It.1 hD with hD|hD
  ·obtain⟨D0,hD0,rfl⟩:=Kh.1 hD;exact(g3 D0 hD0).1
  ·exact h.marks D hD
 ·rw[H4,Kl,Mi];exact⟨g2,h.nd,λD hD D' qH e=>(g3 D hD).2 (by rw[e];exact qH)⟩
 ·rcases get hl with⟨_,k⟩|⟨_,k⟩
  ·simp only[HO.ghost.injEq]at k;obtain⟨rfl,rfl,rfl⟩:=k;intro D hD;cases hD
  ·rcases get Bq with⟨_,k'⟩|⟨_,k'⟩
   ·simp only[HO.ghost.injEq]at k';obtain⟨rfl,rfl,rfl⟩:=k';intro D _ hD;cases hD
   ·exact h.sep l l' cs vs oO cs' BV Tk k k' Bu
theorem SC{fr:Nat→Prop}(h:AX C w fr mu H){n:Nat}{E0:List AV}{us:List Value}{ms:List Nat}(hn:H[n]?=some (.ghost E0 us ms)):AX C w fr mu (H.set n (.ghost [] [] [])):=by
 have AR:=(Ao.1 hn).1
 have get:∀{l:Nat}{y:HO},(H.set n (.ghost [] [] []))[l]?=some y→y=.ghost [] [] []∨H[l]?=some y:=λ{l y} hl=>by
  by_cases e:l=n
  ·subst e;rw[Ff AR]at hl;simp only[E4.injEq]at hl;exact .inl hl.symm
  ·rw[D6 (Ne.symm e)]at hl;exact .inr hl
 refine⟨λl g hl=>by have:=h.HH l g hl;simpa using this,h.fresh,h.sep,λl hl=>?_,λl cs hl=>?_,λl e sz es hl=>?_,λl ks vs hl=>?_⟩
 ·rcases get hl with k|k;·cases k
  ·exact h.dead l k
 ·rcases get hl with k|k;·cases k
  ·exact h.Cm l cs k
 ·rcases get hl with k|k;·cases k
  ·exact h.BJ l e sz es k
 ·rcases get hl with k|k;·cases k
  ·exact h.maps l ks vs k
theorem gC{n:Nat}{us:List Value}{ms:List Nat}{Q:List AV→List HO→Prop}(hk:gD n us ms H Q):∃E2,H[n]?=some (.ghost E2 us ms)∧Q E2 (H.set n (.ghost [] [] [])):=by
 unfold gD at hk;replace hk:=(Ab _ _ _).1 hk;obtain⟨ob,Ba,hk⟩:=hk;cases ob<;>first|exact hk.elim|skip
 rename_i E2 Tw Ds;obtain⟨⟨rfl,rfl⟩,hk⟩:=hk;rw[AD]at hk;exact⟨E2,Ba,hk⟩
theorem Ak.inline{f:FuncId}{fn:Func}{c:Code}{args:List AV}{K:AV→KK}{X:XX}(hf:P.funcs[f]?=some fn)(hb:fn.body=some c)(hT:BL P T)(hg:B5 P f=true)
  (h:∀(us:List Value)(ms:List Nat),DR fn.ntmps args λE1=>Ac P c E1 (H++[.ghost E us ms]) (tP T fn.results.toList H.length us ms K)
   (λe E1 H1=>match e with|.ret=>tP T fn.results.toList H.length us ms K E1 H1|.panic x=>gD H.length us ms H1 λE2 H2=>X (.panic x) E2 H2|_=>False)):Ak P f args E H K X:=by
 refine⟨hg,λG C mu a w vs hP Ah hr=>(callsIn_wide (n:=0)).1 (callsIn_of_wp_marks (F:=Fence.wide) (n:=0) (by rw[←hP]at hf;rw[←hP];exact hf) hb trivial ?_ rfl)⟩
 subst hP;obtain⟨ms,d1,d2⟩:=Ah.defers;replace h:=h a.tmps.toList ms;unfold DR at h;rw[Dn,CO]at h;let G':Cx:={G with ds:=[],rd:=none,OM:=by intro l h;cases h}
 have hx:=gM d2 Ah.env
 have CM:St G' (args++J5 (fn.ntmps-args.length) (.raw undef)) (H++[.ghost E a.tmps.toList ms]) {tmps:=vs.toArray++G1 (fn.ntmps-vs.toArray.size) undef,defers:=[]} w:=by
  refine⟨C,mu,Ah.c0,Ah.c1,Ah.lt,bQ Ah.heap _ _ _,?_,⟨[],rfl,hx⟩,⟨Ah.Aq.os,Ah.Aq.tape,Ah.Aq.output,Ah.Aq.size,Ah.Aq.block⟩,by have:=Ah.CA.1;simp only[Gk,MX,L3];exact J2 this (Nat.le_add_right _ _),Ah.CA.2⟩
  have hl:=Ar _ hr;have:=AF hr (BG (C:=C) (w:=w) (mu:=mu) (fn.ntmps-args.length));simpa[hl]using this
 have back:∀{C1:Ag}{Hm:Mu}{E1:List AV}{H1:List HO}{a1:Act}{w1:World}{E2:List AV},Az G' C1 Hm E1 H1 a1 w1→H1[H.length]?=some (.ghost E2 a.tmps.toList ms)→Az G C1 Hm E2 (H1.set H.length (.ghost [] [] [])) a w1:=λ{C1 Hm E1 H1 a1 w1 E2} hs HW=>by
  obtain⟨Tk,_,e2⟩:=hs.defers;have e3:Br C1 w1 G.fresh Hm H1 G.K1:=Br.less e2;exact⟨hs.c0,hs.c1,hs.lt,SC hs.heap HW,(e3.Bc _ _ _ _ HW).1,⟨ms,d1,lY e3 HW⟩,⟨hs.Aq.os,hs.Aq.tape,hs.Aq.output,hs.Aq.size,hs.Aq.block⟩,by rw[List.length_set];exact hs.CA.1,hs.CA.2⟩
 have fin:∀E1 H1 a1 w1,tP T fn.results.toList H.length a.tmps.toList ms K E1 H1→St G' E1 H1 a1 w1→LeavesInM (fw none) 0 G.P fn a1.tmps (λe w'=>(∃r v E' H' C' mu',e=.returned v∧K r E' H'∧Az G C' mu' E' H' a w'∧Aj C' w' r mu' v)∨
   (∃x v E' H' C' mu',e=.panicked [{v,recovered:=false}]∧X (.panic x) E' H'∧Az G C' mu' E' H' a w'∧Aj C' w' x mu' v)) a1.defers .returning w1:=by
  rintro E1 H1 a1 w1 hk ⟨C1,Hm,hs⟩;obtain⟨Tk,e1,e2⟩:=hs.defers;rw[show a1.defers=Tk.map mark by simpa[G']using e1]
  refine Ft (G:=G') rfl (by simp) Tk rfl hs e2 λa2 w2 ha fA=>?_
  unfold tP at hk;replace hk:=Ow (G:=G') hT fA _ hk;obtain⟨xs,us,hk,yC,AZ⟩:=hk;replace hk:=gC hk;obtain⟨E2,HW,hk⟩:=hk
  have hm:(fn.results.mapM (Xl a2.tmps)).run G.P w2=.ok us.toArray w2:=by
   rw[Oe];simp only[Sem.run_map,AZ,G2,G']
  have Ho:(results fn a1.tmps).run G.P w2=.ok (if h:us.toArray.size=1 then us.toArray[0]else .tuple us.toArray) w2:=by
   rw[←ha,Ey,JA,hm];rfl
  have hs3:=back fA HW;unfold LeavesIn;split at hk
  ·rename_i x;unfold Aa at yC;obtain⟨u,Tw,rfl,yC,Nq⟩:=yC;unfold Aa at Nq;subst Nq;exact⟨u,by rw[Ho];simp,.inl ⟨x,u,E2,_,C1,Hm,rfl,hk,hs3,yC⟩⟩
  ·rename_i Bu
   have hl:us.length≠1:=λe=>by
    have:=Ar _ yC;rw[e]at this;cases xs with
    |nil=>simp at this
    |cons x xs=>
     cases xs with
     |nil=>exact Bu x rfl
     |cons _ _=>simp at this
   exact⟨.tuple us.toArray,by rw[Ho];simp[hl],.inl ⟨_,.tuple us.toArray,E2,_,C1,Hm,rfl,hk,hs3,by unfold Aj;exact⟨us,rfl,yC⟩⟩⟩
 refine wpIn_mono (h.out 0 G' _ w rfl CM) λe a1 w1 q=>?_
 cases e with
 |normal=>obtain⟨E1,H1,h1,h2⟩:=q;exact fin E1 H1 a1 w1 h1 h2
 |ret=>obtain⟨E1,H1,h1,h2⟩:=q;exact fin E1 H1 a1 w1 h1 h2
 |exit id=>obtain⟨E1,H1,h1,h2⟩:=q;exact h1.elim
 |goto l=>exact q.elim
 |outgrown=>exact q.elim
 |panic ch=>
  obtain⟨x,v,E1,H1,C1,Hm,rfl,hk,hs,TN⟩:=q;obtain⟨Tk,e1,e2⟩:=hs.defers;show LeavesInM (fw none) 0 G.P fn a1.tmps _ a1.defers (.panicking [{v,recovered:=false}]) w1
  rw[show a1.defers=Tk.map mark by simpa[G']using e1]
  have hs0:Az G' C1 Hm [x] H1 {tmps:=#[v],defers:=a1.defers} w1:=hs.frame (by unfold Aa;exact⟨v,[],rfl,TN,by unfold Aa;rfl⟩) rfl
  refine Ft (G:=G') (tm2:=#[v]) rfl (by simp) Tk (a:={tmps:=#[v],defers:=a1.defers}) rfl hs0 e2 λa2 w2 ha fA=>?_
  have LB:Aj C1 w2 x Hm v:=by
   have:=fA.env;rw[ha]at this;unfold Aa at this;obtain⟨v',BV,he,k,_⟩:=this;simp only[PN.injEq]at he;obtain⟨rfl,_⟩:=he;exact k
  replace hk:=gC hk;obtain⟨E2,HW,hk⟩:=hk;exact .inr ⟨x,v,E2,_,C1,Hm,rfl,hk,back fA HW,LB⟩
end
structure Sv where
 a:Option Addr
 n:Nat
 c:Nat
def Sv.v(s:Sv):Value:=.slice s.a s.n s.c
def Sv.nil:Sv:=⟨none,0,0⟩
abbrev Tok:=List (Sv×List (List UInt8))
def MM(s:List UInt8):Value:=.string ⟨s.toArray⟩
def LH(e0:TypeId)(Sw Sr:Nat→Prop)(w:World)(x:Sv×List (List UInt8)):Prop:=
 (x.1=.nil∧x.2=[])∨∃b cap cur rest,x.1=⟨some ⟨b,0,none⟩,x.2.length,cap⟩∧Sw b∧Sr b∧w.heap[b]?=some (.cells cur e0 (0,0))∧cap≤9223372036854775807∧cur.size=cap∧
  cur.toList=x.2.map MM++rest∧(∀v∈cur.toList,v.oneCell'=true)∧∀s∈x.2,s.length≤9223372036854775807
def Sv.CU(s:Sv):Option Nat:=s.a.map (·.block)
def dI(e0:TypeId)(ts:Tok)(Sw Sr:Nat→Prop)(w:World):Prop:=
 (∀x∈ts,LH e0 Sw Sr w x)∧∀(i j:Nat) x y,ts[i]?=some x→ts[j]?=some y→i≠j→∀b,x.1.CU=some b→y.1.CU≠some b
theorem LH.same{e0:TypeId}{Sw Sr:Nat→Prop}{w w':World}{x:Sv×List (List UInt8)}(h:LH e0 Sw Sr w x)(hs:∀b,Sr b→w'.heap[b]?=w.heap[b]?):LH e0 Sw Sr w' x:=by
 rcases h with h|⟨b,cap,cur,rest,h1,h2,h3,h4,h5⟩;·exact .inl h
 ·exact .inr ⟨b,cap,cur,rest,h1,h2,h3,by rw[hs b h3];exact h4,h5⟩
def Gh(e0:TypeId)(ts:Tok):Inv where
 J:=dI e0 ts
 LW:=λSw Sr w w' h hs=>⟨λx hx=>(h.1 x hx).same hs.block,h.2⟩
 Cb:=λ_ _=>True
 nb:=0
section
variable {G:Cx}{C C':Ag}{w w':World}{mu:Mu}{H:List HO}{E:List AV}{a:Act}{T:List TY}{P:Program}
theorem Az.RI(Ah:Az G C mu E H a w){I:Inv}(Ba:H[0]?=some (.inv I)):∃Sw Sr,xA C w G.fresh mu I.Cb I.nb Sw Sr∧I.J Sw Sr w∧
  ∀(In:Inv)(w':World)(DG CX:Nat→Prop),In.Cb=I.Cb→In.nb=I.nb→KH (λb=>b<w.heap.size∧¬Sw b) w w'→(∀b,DG b→Sw b∨w.heap.size≤b)→(∀b,CX b→(Sr b∨w.heap.size≤b)∨∃o,C b o)→(∀b,DG b→CX b)→(∀b,CX b→b<w'.heap.size)→
   In.J DG CX w'→Az G C mu E (H.set 0 (.inv In)) a w':=by
 obtain⟨ms,d1,d2⟩:=Ah.defers;obtain⟨_,Sw,Sr,hf,hJ,hD1,hD2⟩:=d2.Gx 0 I Ba;have h0:0<H.length:=(Ao.1 Ba).1;refine⟨Sw,Sr,hf,hJ,λIn w' DG CX eq1 kW q1 q2 q3 q4 q5 hIn=>?_⟩
 have hx:Ext C C w w':=Ext.of_block (λ_ _ h=>h) λb o hc=>q1.block b ⟨Ah.lt b o hc,λhs=>hf.Gy b o hs hc⟩
 have Fw:∀{i g b},mu i=some g→g.As=some b→w'.heap[b]?=w.heap[b]?:=λ{i g b} hi hg=>q1.block b ⟨(Ah.heap.fresh i g b hi hg).2.1,λhs=>hf.own b (hf.sub b hs) i g hi hg⟩
 have get:∀{i RW},(H.set 0 (.inv In))[i]?=some RW→(i=0∧RW=.inv In)∨(H[i]?=some RW):=λ{i RW} hi=>by
  by_cases e:0=i;·subst e;rw[Ff h0]at hi;simp only[E4.injEq]at hi;exact .inl ⟨rfl,hi.symm⟩
  ·rw[D6 e]at hi;exact .inr hi
 have PK:∀D:Nat×Obj,¬Sr D.1→Ck C w G.fresh mu D→Ck C w' G.fresh mu D:=λD hd m=>by
  refine⟨?_,m.Gy,m.own,m.fr⟩;rw[q1.block D.1 ⟨(Fy.1 m.at_).1,λhs=>hd (hf.sub D.1 hs)⟩];exact m.at_
 have Dt:∀D:Nat×Obj,¬Sr D.1→Ck C w G.fresh mu D→¬CX D.1:=λD hd m hs=>by
  rcases q3 D.1 hs with (k|k)|⟨o,k⟩;·exact hd k
  ·have:=(Fy.1 m.at_).1;omega
  ·exact m.Gy o k
 have gg:∀{i:Nat}{cs:List AV}{us:List Value}{Ds:List Nat},(H.set 0 (.inv In))[i]?=some (.ghost cs us Ds)→H[i]?=some (.ghost cs us Ds):=λ{i cs us Ds} hi=>by
  rcases get hi with⟨_,h⟩|h;·cases h
  ·exact h
 have UX:(∀D∈ms.map (λD=>(D,Fb))++G.K1,¬CX D.1)∧∀(l:Nat)(cs:List AV)(vs:List Value)(Ds:List Nat),(H.set 0 (.inv In))[l]?=some (.ghost cs vs Ds)→∀D∈Ds,¬CX D:=
  ⟨λD hd=>Dt D (hD1 D hd) (d2.marks D hd),λl cs vs Ds hl D hd=>Dt (D,Fb) (hD2 l cs vs Ds (gg hl) D hd) ((d2.Bc l cs vs Ds (gg hl)).2.2 D hd).1⟩
 refine⟨Ah.c0,Ah.c1,λb o hc=>L5 (Ah.lt b o hc) q1.size,⟨λi g hi=>by simpa using Ah.heap.HH i g hi,λi g b hi hg=>?_,Ah.heap.sep,λi hi=>?_,λi cs hi=>?_,λi e sz es hi=>?_,λi ks vs hi=>?_⟩,
  Aa.mono hx _ (Ay.refl _) Ah.env,⟨ms,d1,λi cs us Ds hi=>?_,λi I' hi=>?_,λd hd=>PK d (hD1 d hd) (d2.marks d hd),d2.nd,λl l' cs vs ms cs' BV Ds hl Bq Bu=>d2.sep l l' cs vs ms cs' BV Ds (gg hl) (gg Bq) Bu⟩,?_,by simpa using Ah.CA.1,Ah.CA.2⟩
 ·obtain⟨k1,k2,k3⟩:=Ah.heap.fresh i g b hi hg;exact⟨k1,L5 k2 q1.size,k3⟩
 ·rcases get hi with⟨_,h⟩|h;·cases h
  ·exact Ah.heap.dead i h
 ·rcases get hi with⟨_,h⟩|h;·cases h
  ·obtain⟨b,cur,e,k1,k2,k3,k4⟩:=Ah.heap.Cm i cs h;exact⟨b,cur,e,k1,by rw[Fw k1 rfl];exact k2,Aa.mono hx _ (Ay.refl _) k3,k4⟩
 ·rcases get hi with⟨_,h⟩|h;·cases h
  ·obtain⟨k0,k⟩:=Ah.heap.BJ i e sz es h;refine⟨k0,k.imp id λ⟨b,cap,cur,k1,k2,k3,k4,k5,k6,k7⟩=>⟨b,cap,cur,k1,k2.of_eq (by rw[Fw k1 rfl]),k3,k4,k5,Aa.mono hx _ (Ay.refl _) k6,k7⟩⟩
 ·rcases get hi with⟨_,h⟩|h;·cases h
  ·obtain⟨b,es,cl,k1,k2,k3⟩:=Ah.heap.maps i ks vs h;exact⟨b,es,cl,k1,by rw[Fw k1 rfl];exact k2,k3⟩
 ·rcases get hi with⟨_,h⟩|h;·cases h
  ·obtain⟨k1,k3,k2⟩:=d2.Bc i cs us Ds h;exact⟨Aa.mono hx _ (Ay.refl _) k1,k3,λd hd=>⟨PK (d,Fb) (hD2 i cs us Ds h d hd) (k2 d hd).1,(k2 d hd).2⟩⟩
 ·have fin:∀I',I'=In→i=0→i=0∧∃Sw Sr,xA C w' G.fresh mu I'.Cb I'.nb Sw Sr∧I'.J Sw Sr w'∧(∀D∈ms.map (λD=>(D,Fb))++G.K1,¬Sr D.1)∧∀(l:Nat) cs vs Ds,(H.set 0 (.inv In))[l]?=some (.ghost cs vs Ds)→∀D∈Ds,¬Sr D:=λI' hI' h0'=>by
   subst hI';refine⟨h0',DG,CX,⟨λb hb=>?_,by rw[kW];exact J2 hf.base q1.size,by rw[eq1,kW];exact hf.cb,by rw[kW];exact hf.ob,q4,q5,λb hb i g hi hg=>?_,λb o hb hc=>?_⟩,hIn,UX⟩
   ·rcases q2 b hb with k|k;·exact hf.fr b k
    ·exact .inl (J2 Ah.Aq.size k)
   ·obtain⟨_,k2,k3⟩:=Ah.heap.fresh i g b hi hg;rcases q3 b hb with (k|k)|⟨o,k⟩;·exact hf.own b k i g hi hg
    ·omega
    ·exact absurd k (k3 o)
   ·rcases q2 b hb with k|k;·exact hf.Gy b o k hc
    ·have:=Ah.lt b o hc;omega
  rcases get hi with⟨e,h⟩|h
  ·simp only[HO.inv.injEq]at h;exact fin I' h e
  ·have hi0:=(d2.Gx i I' h).1;subst hi0;rw[Ff h0]at hi;simp only[E4.injEq,HO.inv.injEq]at hi;exact fin I' hi.symm rfl
 ·refine⟨q1.os.trans Ah.Aq.os,q1.tape.trans Ah.Aq.tape,q1.output.trans Ah.Aq.output,J2 Ah.Aq.size q1.size,λk hk hm=>?_⟩
  rw[q1.block k ⟨L5 hk Ah.Aq.size,λhs=>?_⟩]
  ·exact Ah.Aq.block k hk hm
  ·rcases hf.fr k hs with h|h;·omega
   ·exact hm h
theorem Az.owner(Ah:Az G C mu E H a w){I:Inv}(Ba:H[0]?=some (.inv I)):∃Sw Sr,xA C w G.fresh mu I.Cb I.nb Sw Sr∧I.J Sw Sr w∧
  ∀(In:Inv)(w':World)(DG CX:Nat→Prop),In.Cb=I.Cb→In.nb=I.nb→KH (λb=>b<w.heap.size∧¬Sw b) w w'→(∀b,DG b→Sw b∨w.heap.size≤b)→(∀b,CX b→Sr b∨w.heap.size≤b)→(∀b,DG b→CX b)→(∀b,CX b→b<w'.heap.size)→
   In.J DG CX w'→Az G C mu E (H.set 0 (.inv In)) a w':=by
 obtain⟨Sw,Sr,h1,h2,h3⟩:=Ah.RI Ba;exact⟨Sw,Sr,h1,h2,λIn w' DG CX e1 e2 q1 q2 q3=>h3 In w' DG CX e1 e2 q1 q2 λb hb=>.inl (q3 b hb)⟩
theorem Uw:∀{ss:List (List UInt8)} {vs:List Value},Aa C w (ss.map AV.str) (Bb mu) vs→vs=ss.map MM∧∀s∈ss,s.length≤9223372036854775807
 |[],vs,h=>by
  simp only[List.map_nil]at h;unfold Aa at h;exact⟨h,λs hs=>by cases hs⟩
 |s::ss,vs,h=>by
  simp only[J6]at h;unfold Aa at h;obtain⟨v,BV,rfl,h1,h2⟩:=h;unfold Aj at h1;obtain⟨rfl,h3⟩:=h1;obtain⟨rfl,h4⟩:=Uw h2;exact⟨rfl,λx hx=>by rcases M4.1 hx with rfl|hx;exact h3;exact h4 x hx⟩
theorem kS(ss:List (List UInt8)):flat (ss.map AV.str)=ss.map AV.str:=by
 unfold flat;induction ss with
 |nil=>rfl
 |cons s ss ih=>rw[J6,List.flatMap_cons,ih];rfl
theorem Pc{ts:Tok}{j:Nat}{y:Sv×List (List UInt8)}(h:∀(i j:Nat) x y,ts[i]?=some x→ts[j]?=some y→i≠j→∀b,x.1.CU=some b→y.1.CU≠some b)
  (hy:∀(i:Nat) x,ts[i]?=some x→i≠j→∀b,x.1.CU=some b→y.1.CU≠some b):∀(i k:Nat) x z,(ts.set j y)[i]?=some x→(ts.set j y)[k]?=some z→i≠k→∀b,x.1.CU=some b→z.1.CU≠some b:=by
 intro i k x z hi hk Bu b hb
 have get:∀{i:Nat}{x},(ts.set j y)[i]?=some x→(i=j∧x=y)∨(i≠j∧ts[i]?=some x):=λ{i x} hi=>by
  by_cases e:i=j
  ·subst e;have AR:i<ts.length:=by have:=(Ao.1 hi).1;simpa using this
   rw[Ff AR]at hi;simp only[E4.injEq]at hi;exact .inl ⟨rfl,hi.symm⟩
  ·rw[D6 (Ne.symm e)]at hi;exact .inr ⟨e,hi⟩
 rcases get hi with⟨e1,rfl⟩|⟨e1,k1⟩
 ·rcases get hk with⟨e2,rfl⟩|⟨e2,k2⟩;·omega
  ·exact λhz=>hy k z k2 e2 b hz hb
 ·rcases get hk with⟨e2,rfl⟩|⟨e2,k2⟩;·exact hy i x k1 e1 b hb
  ·exact h i k x z k1 k2 Bu b hb
theorem Zw{e0:TypeId}{ts:Tok}(Ah:Az G C mu E H a w)(Ba:H[0]?=some (.inv (Gh e0 ts))){t ty:TypeId}{by':Nat}{z:Value}{i:TypeInfo}(A:Y1 G.P t e0 1 by' z i){j:Nat}{s:Sv}{es ss:List (List UInt8)}(hj:ts[j]?=some (s,es))
  (h1:1≤ss.length) {u:Value} (hu:∃ad c vs,u=.slice (some ad) ss.length c∧vs.length=ss.length*1∧Aa C w (ss.map AV.str) (Bb mu) vs∧(∀j v,vs[j]?=some v→w.cell? (ad.add j)=some v)∧∀v∈vs,v.oneCell'=true)
  (hb:(es.length+ss.length)*by'≤140737488355328) (hm:es.length+ss.length≤9223372036854775807):
  ∃(s':Sv) (w':World),(M5 #[t,t] ty #[s.v,u]).run G.P w=.ok s'.v w'∧Az G C mu E (H.set 0 (.inv (Gh e0 (ts.set j (s',es++ss))))) a w':=by
 obtain⟨Sw,Sr,hf,hJ,key⟩:=Ah.owner Ba;obtain⟨lT,vX⟩:dI e0 ts Sw Sr w:=hJ;obtain⟨ad,c,vs,rfl,V7,hr,Ep,TR⟩:=hu;obtain⟨rfl,hlen⟩:=Uw hr;have Nr:(s,es)∈ts:=J3 hj;have U0:j<ts.length:=(Ao.1 hj).1;have Za2:=lT _ Nr;unfold LH at Za2;simp only at Za2
 -- a new array
 have fresh:∀(w':World)(cap:Nat)(rest:List Value),w'=w.drew.alloc (.cells ((es++ss).map MM++rest).toArray e0)→(es++ss).length+rest.length=cap→cap≤9223372036854775807→(∀v∈rest,v.oneCell'=true)→(∀x∈es,x.length≤9223372036854775807)→
   Az G C mu E (H.set 0 (.inv (Gh e0 (ts.set j (⟨some ⟨w.heap.size,0,none⟩,(es++ss).length,cap⟩,es++ss))))) a w':=by
  rintro w' cap rest rfl hc hcm hro qA;have hold:∀b,b<w.heap.size→(w.drew.alloc (.cells ((es++ss).map MM++rest).toArray e0)).heap[b]?=w.heap[b]?:=λb hb=>heap_alloc_old w.drew _ hb
  refine key _ _ (λb=>Sw b∨b=w.heap.size) (λb=>Sr b∨b=w.heap.size) rfl rfl ⟨rfl,rfl,rfl,by simp,λb hb=>hold b hb.1⟩ (λb hb=>hb.imp id λh=>by omega) (λb hb=>hb.imp id λh=>by omega) (λb hb=>hb.imp (hf.sub b) id)
   (λb hb=>by
    rcases hb with hb|hb
    ·have:=hf.lt b hb;simp;omega
    ·simp;omega) ⟨λx hx=>?_,Pc vX λi x hi Bu b hb=>?_⟩
  ·obtain⟨k,hk⟩:=OL.1 hx;by_cases e:k=j
   ·subst e;rw[Ff U0]at hk;simp only[E4.injEq]at hk;subst hk;refine .inr ⟨w.heap.size,cap,_,rest,rfl,.inr rfl,.inr rfl,heap_alloc_new _ _,hcm,by simp only[Qe,Gk,Gj]at *;omega,rfl,λv hv=>?_,λx hx=>?_⟩
    ·simp only[It]at hv;rcases hv with hv|hv;·obtain⟨y,_,rfl⟩:=Kh.1 hv;rfl
     ·exact hro v hv
    ·rcases It.1 hx with hx|hx;·exact qA x hx
     ·exact hlen x hx
   ·rw[D6 (Ne.symm e)]at hk;rcases lT x (J3 hk)with h|⟨b,YP,cur,eD,q1,q2,q3,q4,q5⟩;·exact .inl h
    ·exact .inr ⟨b,YP,cur,eD,q1,.inl q2,.inl q3,by rw[hold b (hf.lt b q3)];exact q4,q5⟩
  ·rcases lT x (J3 hi)with⟨h,_⟩|⟨b',YP,cur,eD,q1,q2,q3,q4,q5⟩;·rw[h]at hb;cases hb
   ·rw[q1]at hb;simp only[Sv.CU,L4,E4.injEq]at hb;subst hb;have:=hf.lt b' q3;simp only[Sv.CU,L4,ne_eq,E4.injEq];omega
 rcases Za2 with⟨rfl,rfl⟩|⟨b,cap,cur,rest,rfl,Za,WD,hblk,EM,Eh,Yo,hc1,qA⟩
 ·have LP:=run_append_nil (P:=G.P) w t ty e0 i z A.ht A.hi A.hz ad ss.length c (ss.map MM) (by rw[V7,A.hs]) Ep (by omega) (by simp only[L3]at hm;omega) (by rw[A.hb];simp only[L3,Oc]at hb;omega)
  have fF:=grownCap_ge w ss.length 0 e0;have hle:=grownCap_le_maxLen w ss.length 0 e0 (by simp only[maxLen,L3]at *;omega)
  simp only[maxLen]at hle;refine⟨_,_,?_,fresh _ (grownCap w ss.length 0 e0) (Qf z.cells (grownCap w ss.length 0 e0-ss.length)).toList rfl (by rw[Ib A];simp only[List.nil_append];omega) (by omega) (A.one _) (λx hx=>by cases hx)⟩
  show(M5 #[t,t] ty #[.slice none 0 0,_]).run G.P w=_
  rw[LP,Ll];rfl
 ·have hlc:es.length≤cap:=by
   have:=congrArg List.length Yo;simp only[Ls,Gk,Gj]at this;omega
  by_cases Su:es.length+ss.length≤cap
  ·have LP:=run_append_room (P:=G.P) w t ty e0 i A.ht A.hi b es.length cap cur hblk ad ss.length c (ss.map MM) (by rw[V7,A.hs]) Ep TR Su (by rw[A.hs,V7];omega)
   rw[A.hs]at LP;refine⟨⟨some ⟨b,0,none⟩,es.length+ss.length,cap⟩,_,LP,?_⟩
   have Fx:cur.toList.take (es.length*1)++ss.map MM++cur.toList.drop (es.length*1+(ss.map MM).length)=(es++ss).map MM++rest.drop ss.length:=by
    rw[Yo,Nat.mul_one,Qv (by simp),H4]
    congr 1;rw[←Qy,List.drop_left' (by simp),Gj]
   have hrl:rest.length=cap-es.length:=by
    have:=congrArg List.length Yo;simp only[Ls,Gk,Gj]at this;omega
   rw[Fx];have hbs:b<w.heap.size:=hf.lt b WD;refine key _ _ Sw Sr rfl rfl (Ph (λh=>h.2 Za) _) (λb hb=>.inl hb) (λb hb=>.inl hb) hf.sub (λb hb=>by have:=hf.lt b hb;simpa using this) ⟨λx hx=>?_,Pc vX λi' x hi Bu b' LG=>?_⟩
   ·obtain⟨k,hk⟩:=OL.1 hx;by_cases e:k=j
    ·subst e;rw[Ff U0]at hk;simp only[E4.injEq]at hk;subst hk;refine .inr ⟨b,cap,_,rest.drop ss.length,by simp only[Gk],Za,WD,setRow_heap _ _ _ _ _ _ hblk,EM,by simp only[Qe,Gk,Gj,List.length_drop];omega,rfl,λv hv=>?_,λx hx=>?_⟩
     ·simp only[It]at hv;rcases hv with hv|hv;·obtain⟨y,_,rfl⟩:=Kh.1 hv;rfl
      ·exact hc1 v (by rw[Yo];exact I0 _ (List.mem_of_mem_drop hv))
     ·rcases It.1 hx with hx|hx;·exact qA x hx
      ·exact hlen x hx
    ·rw[D6 (Ne.symm e)]at hk;rcases lT x (J3 hk)with h|⟨b',YP,Zgy,eD,q1,q2,q3,q4,q5⟩;·exact .inl h
     ·refine .inr ⟨b',YP,Zgy,eD,q1,q2,q3,?_,q5⟩;rw[setRow_other];·exact q4
      ·intro eb
       subst eb
       exact vX k j x _ hk hj e b' (by rw[q1];rfl) rfl
   ·exact vX i' j x _ hi hj Bu b' LG
  ·have LP:=run_append_grow (P:=G.P) w t ty e0 i z A.ht A.hi A.hz ⟨b,0,none⟩ es.length cap (es.map MM) (by rw[Gj,A.hs];omega)
    (λk v hv=>by
     rw[add_lit]
     refine(Ij hblk) k v ?_
     rw[Yo,Ky (by have:=(Ao.1 hv).1;exact this)]
     exact hv)
    ad ss.length c (ss.map MM) (by rw[V7,A.hs]) Ep (by omega) (by omega) (growslice_fits (by omega) (by rw[A.hb];exact hb))
   have fF:=grownCap_ge w (es.length+ss.length) cap e0;have hle:=grownCap_le_maxLen w (es.length+ss.length) cap e0 (by simp only[maxLen];omega)
   simp only[maxLen]at hle;refine⟨_,_,?_,fresh _ (grownCap w (es.length+ss.length) cap e0) (Qf z.cells (grownCap w (es.length+ss.length) cap e0-(es.length+ss.length))).toList rfl (by rw[Ib A,Gk];omega) (by omega) (A.one _) qA⟩
   show(M5 #[t,t] ty #[.slice _ _ _,_]).run G.P w=_
   rw[LP,List.append_toArray,Ll,←H4,Gk];rfl
end
def Gp(T:List TY)(E:List AV)(H:List HO)(t t':TypeId)(s x:Operand)(K:AV→KK):Prop:=
 match L6 t t' with
 |true=>B6 T t λy=>(match y.k with
  |.slice e Bh by' _=>(match L6 Bh 1&&Nat.ble 1 by' with
   |true=>Dc E s λsv=>Dc E x λxv=>Ee H xv λsz xs=>(match L6 sz 1 with
    |true=>Ej T e λz=>CE z λzc=>(match L6 zc.length 1&&zc.all CJ with
     |true=>∃(ts:Tok) (j:Nat) (s:Sv) (es ss:List (List UInt8)),(sv=.raw s.v∧H[0]?=some (.inv (Gh e ts))∧ts[j]?=some (s,es)∧xs=ss.map AV.str∧1≤ss.length∧(es.length+ss.length)*by'≤140737488355328)∧
      ∀s':Sv,EK H 0 (.inv (Gh e (ts.set j (s',es++ss)))) λH'=>K (.raw s'.v) E H'
     |false=>False)
    |false=>False)
   |false=>False)
  |_=>False)
 |false=>False
def Zx(T:List TY)(E:List AV)(H:List HO)(o:Op)(K:AV→KK):Prop:=
 match o with
 |.call c=>(match c.callee,c.args.toList,c.argTypes.toList with
  |.builtin .append,[s,x],[t,t']=>Gp T E H t t' s x K
  |_,_,_=>False)
 |_=>False
section
variable {G:Cx}{C C':Ag}{w w':World}{mu:Mu}{H:List HO}{E:List AV}{a:Act}{T:List TY}{P:Program}{K:KK}{X:XX}{e0:TypeId}{ts:Tok}
theorem gX(hT:BL G.P T)(h:Az G C mu E H a w){t t' ty:TypeId}{s x:Operand}{K:AV→KK}(hk:Gp T E H t t' s x K):Gn G a w K (M5 #[t,t'] ty #[a.eval s,a.eval x]):=by
 unfold Gp at hk;split at hk;case h_2=>exact hk.elim
 rename_i htt;obtain rfl:=F0 htt;replace hk:=(Ab _ _ _).1 hk;obtain⟨y,hy,hk⟩:=hk
 split at hk;case h_2=>exact hk.elim
 rename_i e Bh by' ag hs
 split at hk;case h_2=>exact hk.elim
 rename_i hp;simp only[C4]at hp;obtain rfl:=F0 hp.1;have ZfU:=MR hp.2;rw[Af,Af]at hk;have Dt:=AT h.env s;have Qw:=AT h.env x;replace hk:=S2 h Qw hk;obtain⟨sz,xs,hk,jR,xR⟩:=hk;split at hk;case h_2=>exact hk.elim
 rename_i bF;obtain rfl:=F0 bF;replace hk:=H8 hT hk;obtain⟨z,ye,PH,hk,Ya⟩:=hk;rw[Am]at hk;split at hk;case h_2=>exact hk.elim
 rename_i GA;simp only[C4]at GA;obtain⟨zv,i',A⟩:=rR C w hT hy hs (Lt 1) PH Ya (F0 GA.1) GA.2;obtain⟨ts,j,sv,es,ss,⟨q1,q2,q3,rfl,q5,q6⟩,hk⟩:=hk;rw[q1]at Dt;have xX:a.eval s=sv.v:=by unfold Aj at Dt;exact Dt
 have hu:∃ad c vs,a.eval x=.slice (some ad) ss.length c∧vs.length=ss.length*1∧Aa C w (ss.map AV.str) (Bb mu) vs∧(∀j v,vs[j]?=some v→w.cell? (ad.add j)=some v)∧∀v∈vs,v.oneCell'=true:=by
  rcases xR with⟨_,k⟩|⟨ad,c,vs,k1,k2,k3,k4,k5⟩
  ·have:=congrArg List.length k;simp at this;subst this;simp at q5
  ·rw[Gj]at k1 k2;rw[kS]at k3;exact⟨ad,c,vs,k1,k2,k3,k4,k5⟩
 have hm:es.length+ss.length≤9223372036854775807:=by
  have:=Nat.le_mul_of_pos_right (es.length+ss.length) (show 0<by' by omega)
  omega
 obtain⟨s',w',k1,k2⟩:=Zw (ty:=ty) h q2 A q3 q5 hu q6 hm;have hk:=hk s';rw[AD]at hk;exact⟨_,s'.v,_,_,C,mu,w',hk,by rw[xX];exact k1,k2,by unfold Aj;rfl⟩
theorem WS(hT:BL G.P T){o:Oper}{K:AV→KK}{Kn:KK}{r:Option Nat}{n:Nat}(h:Zx T E H o.op K)(Ah:Az G C mu E H a w){next:Act→World→Prop}(hn:∀a w,H6 G o K a w→next a w):
  o.wpIn (fw r) n G.P a w next (Ln G Kn X):=by
 unfold Zx at h;split at h;case h_2=>exact h.elim
 rename_i c ho;split at h;case h_2=>exact h.elim
 rename_i s x t t' hc h1 h2;obtain⟨Zf,args,II⟩:=c;simp only at hc h1 h2;subst hc;obtain rfl:args=#[s,x]:=by cases args;simp_all
 obtain rfl:II=#[t,t']:=by cases II;simp_all
 obtain⟨r,v,E',H',C',mu',w',k1,k2,k3,k4⟩:=gX (ty:=o.type) hT Ah h;exact BE (λc hc=>by rw[ho]at hc;cases hc) (AL (X:=X) (Q:=Kn) hn k1 (by simp[execOp,ho,resolve,invoke,builtin,k2]) k3 k4)
theorem Az.zH(h:Az G C mu E [] a w)(e0:TypeId):Az G C mu E [.inv (Gh e0 [])] a w:=by
 obtain⟨ms,d1,d2⟩:=h.defers
 have one:∀{l:Nat}{y:HO},[HO.inv (Gh e0 [])][l]?=some y→l=0∧y=.inv (Gh e0 []):=λ{l y} hl=>by
  cases l with
  |zero=>simp at hl;exact⟨rfl,hl.symm⟩
  |succ l=>simp at hl
 have Mz:∀l g,mu l≠some g:=λl g hl=>by have:=h.heap.HH l g hl;simp at this
 refine⟨h.c0,h.c1,h.lt,⟨λl g hl=>absurd hl (Mz l g),λl g b hl=>absurd hl (Mz l g),λl g b l' g' hl=>absurd hl (Mz l g),λl hl=>?_,λl cs hl=>?_,λl e sz es hl=>?_,λl ks vs hl=>?_⟩,h.env,⟨ms,d1,λl cs vs Ds hl=>?_,λl I hl=>?_,d2.marks,d2.nd,λl l' cs vs ms cs' BV Ds hl=>?_⟩,h.Aq,by have:=h.CA.1;simp at this;simp;omega,h.CA.2⟩
 ·cases (one hl).2
 ·cases (one hl).2
 ·cases (one hl).2
 ·cases (one hl).2
 ·cases (one hl).2
 ·obtain⟨h0,h1⟩:=one hl;simp only[HO.inv.injEq]at h1;subst h1;exact⟨h0,λ_=>False,λ_=>False,⟨λb hb=>hb.elim,Ol _,λ_ _ _=>.inl trivial,λl g b hl=>absurd hl (Mz l g),λ_ h=>h,λ_ h=>h.elim,λ_ h=>h.elim,λ_ _ h=>h.elim⟩,(show dI e0 [] (λ_=>False) (λ_=>False) w from ⟨λx hx=>(by cases hx),λi j x y hi=>(by simp at hi)⟩),λ_ _ h=>h,λl' cs vs Ds Bq=>by cases (one Bq).2⟩
 ·cases (one hl).2
theorem KL.zH(e0:TypeId){c:Code}{K2:DK}{X2:DX}(h:KL P c E [.inv (Gh e0 [])] K X K2 X2):KL P c E [] K X K2 X2:=
 ⟨λn G a w hP hr ⟨C,mu,Ah⟩=>h.out n G a w hP hr ⟨C,mu,Ah.zH e0⟩⟩
theorem Ac.zG{c:Code}(Ba:H[0]?=some (.inv (Gh e0 ts)))(h:Ac P c E (H.set 0 (.inv (Gh e0 (ts++[(Sv.nil,[])])))) K X):Ac P c E H K X:=
 ⟨λn G a w hP ⟨C,mu,Ah⟩=>by
  obtain⟨Sw,Sr,hf,hJ,key⟩:=Ah.owner Ba
  obtain⟨lT,vX⟩:dI e0 ts Sw Sr w:=hJ
  have get:∀{i:Nat}{x},(ts++[(Sv.nil,([]:List (List UInt8)))])[i]?=some x→ts[i]?=some x∨x=(Sv.nil,[]):=λ{i x} hi=>by
   rw[MZ]at hi;split at hi;·exact .inl hi
   ·have:=J3 hi;simp at this
    exact .inr this
  refine h.out n G a w hP ⟨C,mu,key _ w Sw Sr rfl rfl ⟨rfl,rfl,rfl,Lt _,λ_ _=>rfl⟩ (λb hb=>.inl hb) (λb hb=>.inl hb) hf.sub hf.lt ⟨λx hx=>?_,λi j x y hi hj Bu b hb LG=>?_⟩⟩
  ·rcases It.1 hx with hx|hx
   ·exact lT x hx
   ·simp at hx;subst hx
    exact .inl ⟨rfl,rfl⟩
  ·rcases get hi with k|rfl
   ·rcases get hj with k'|rfl;·exact vX i j x y k k' Bu b hb LG
    ·cases LG
   ·cases hb⟩
def Uc(ts:Tok)(x y:AV):Prop:=(x=y∧closed x=true)∨∃(j:Nat) (s:Sv) (ss:List (List UInt8)),ts[j]?=some (s,ss)∧x=.raw s.v∧y=.sl 1 (ss.map AV.str)
def HQ(ts:Tok):List AV→List AV→Prop
 |[],[]=>True
 |x::xs,y::ys=>Uc ts x y∧HQ ts xs ys
 |_,_=>False
def dO(H:List HO)(ts:Tok)(x y:AV):Prop:=Uc ts x y∨(∃cs ds,x=.agg cs∧y=.agg ds∧HQ ts cs ds)∨∃l cs ds,x=.ptr l 0∧y=.at_ ds∧H[l]?=some (.cells cs)∧HQ ts cs ds
def Vn(H:List HO)(ts:Tok):List AV→List AV→Prop
 |[],[]=>True
 |x::xs,y::ys=>dO H ts x y∧Vn H ts xs ys
 |_,_=>False
def T8(H:List HO)(ts:Tok)(x y:AV):Prop:=dO H ts x y∨∃f cs ds,x=.fn f cs∧y=.fn f ds∧Vn H ts cs ds
def Q3(H:List HO)(ts:Tok):List AV→List AV→Prop
 |[],[]=>True
 |x::xs,y::ys=>T8 H ts x y∧Q3 H ts xs ys
 |_,_=>False
theorem CP:∀(xs:List AV),Ap xs=true→HQ ts xs xs
 |[],_=>trivial
 |x::xs,h=>by
  unfold Ap at h;simp only[C4]at h;exact⟨.inl ⟨rfl,h.1⟩,CP xs h.2⟩
theorem Rp{C2:Ag}{b:Nat}{cur:Array Value}{e:TypeId}{fz:Nat×Nat}(hb:w.heap[b]?=some (.cells cur e fz)):∀(ss:List (List UInt8)) (o:Nat) (rest:List Value),cur.toList.drop o=ss.map MM++rest→(∀k,k<ss.length→C2 b (o+k))→(∀s∈ss,s.length≤9223372036854775807)→
  Rows C2 w 1 (ss.map AV.str) b o
 |[],o,rest,_,_,_=>by simp[Rows]
 |s::ss,o,rest,hc,hC,hl=>by
  simp only[J6];unfold Rows
  have h0:cur[o]?=some (MM s):=by
   have:=congrArg (λl:List Value=>l[0]?) hc
   simp only[Qc,Nat.add_zero,J6,On,J4]at this;rw[G4]at this;exact this
  refine⟨rfl,⟨MM s,rfl,⟨by simpa using hC 0 (by simp),by simp[Om,hb,h0]⟩,?_⟩,Rp hb ss (o+1) rest ?_ (λk hk=>by have:=hC (k+1) (by simpa using hk);rwa [show o+1+k=o+(k+1) by omega]) λx hx=>hl x (by simp[hx])⟩
  ·unfold Aj;exact⟨rfl,hl s (by simp)⟩
  ·rw[←Qy,hc];simp
theorem tC{Sw Sr:Nat→Prop}{C2:Ag}{s:Sv}{ss:List (List UInt8)}(h:LH e0 Sw Sr w (s,ss))(hC:∀b,Sr b→s.CU=some b→∀o,C2 b o)(mu:Mu):Aj C2 w (.sl 1 (ss.map AV.str)) mu s.v:=by
 unfold Aj;rcases h with⟨h1,h2⟩|⟨b,cap,cur,rest,h1,h2,h3,h4,h5,h6,h7,h8,h9⟩
 ·simp only at h1 h2;subst h1;subst h2
  exact .inl ⟨⟨none,rfl⟩,rfl⟩
 ·simp only at h1 h2;subst h1
  have hl:ss.length≤cap:=by
   have:=congrArg List.length h7;simp only[Ls,Gk,Gj]at this;omega
  refine .inr ⟨b,0,cap,by simp[Sv.v],by simpa using hl,h5,Rp h4 ss 0 rest (by simpa using h7) (λk _=>hC b h3 rfl _) h9⟩
theorem Q5{Sw Sr:Nat→Prop}{C2:Ag}(JJ:∀x∈ts,LH e0 Sw Sr w x)(hC:∀b,Sr b→∀o,C2 b o)(hx:Ext C C2 w w){x y:AV}{u:Value}(h:Uc ts x y)(hr:Aj C w x mu u):Aj C2 w y Mu.none u:=by
 rcases h with⟨rfl,hc⟩|⟨j,s,ss,hj,rfl,rfl⟩;·exact Aj.mono hx _ (Ay.none _) (A6 _ hc hr)
 ·unfold Aj at hr;subst hr;exact tC (JJ _ (J3 hj)) (λb hb _=>hC b hb) _
theorem KO{Sw Sr:Nat→Prop}{C2:Ag}(JJ:∀x∈ts,LH e0 Sw Sr w x)(hC:∀b,Sr b→∀o,C2 b o)(hx:Ext C C2 w w):∀{xs ys:List AV}{us:List Value},HQ ts xs ys→Aa C w xs mu us→Aa C2 w ys Mu.none us
 |[],[],us,_,hr=>by unfold Aa at*;exact hr
 |[],_::_,_,h,_=>h.elim
 |_::_,[],_,h,_=>h.elim
 |x::xs,y::ys,us,h,hr=>by
  unfold Aa at hr⊢;obtain⟨v,vs,rfl,h1,h2⟩:=hr;exact⟨v,vs,rfl,Q5 JJ hC hx h.1 h1,KO JJ hC hx h.2 h2⟩
theorem WN(Ah:Az G C mu E H a w){Sw Sr:Nat→Prop}(JJ:∀x∈ts,LH e0 Sw Sr w x)(hS:∀b,Sr b→b<w.heap.size){x y:AV}{u:Value}(h:dO H ts x y)(hr:Aj C w x mu u):Aj (Df w) w y Mu.none u:=by
 have hx:Ext C (Df w) w w:=.of_block (λb o hc=>Ah.lt b o hc) λ_ _ _=>rfl
 rcases h with h|⟨cs,ds,rfl,rfl,h⟩|⟨l,cs,ds,rfl,rfl,hl,h⟩;·exact Q5 JJ (λb hb _=>hS b hb) hx h hr
 ·unfold Aj at hr⊢;obtain⟨vs,rfl,h2⟩:=hr;exact⟨vs,rfl,KO JJ (λb hb _=>hS b hb) hx h h2⟩
 ·unfold Aj at hr;obtain⟨b,hm,rfl⟩:=hr;obtain⟨b',cur,e,k1,k2,k3,k4⟩:=Ah.heap.Cm l cs hl;rw[hm]at k1;simp only[E4.injEq,GO.CU.injEq]at k1;subst k1;have k5:=KO JJ (λb hb _=>hS b hb) hx h k3
  unfold Aj;refine⟨b,0,rfl,(Co _ _).2 λi hi=>?_⟩
  have hlen:=Ar _ k5;have hir:=((AI _).1 k5).2 i hi (by omega)
  have AR:b<w.heap.size:=(Fy.1 k2).1;refine⟨cur.toList[i],k4 _ (JB _),⟨AR,?_⟩,hir⟩;rw[Oc];have:cur[i]?=some cur.toList[i]:=by rw[←G4];exact AO _
  simp[Om,k2,this]
theorem T9(Ah:Az G C mu E H a w){Sw Sr:Nat→Prop}(JJ:∀x∈ts,LH e0 Sw Sr w x)(hS:∀b,Sr b→b<w.heap.size):∀{xs ys:List AV}{us:List Value},Vn H ts xs ys→Aa C w xs mu us→Aa (Df w) w ys Mu.none us
 |[],[],us,_,hr=>by unfold Aa at*;exact hr
 |[],_::_,_,h,_=>h.elim
 |_::_,[],_,h,_=>h.elim
 |x::xs,y::ys,us,h,hr=>by
  unfold Aa at hr⊢;obtain⟨v,vs,rfl,h1,h2⟩:=hr;exact⟨v,vs,rfl,WN Ah JJ hS h.1 h1,T9 Ah JJ hS h.2 h2⟩
theorem KN(Ah:Az G C mu E H a w){Sw Sr:Nat→Prop}(JJ:∀x∈ts,LH e0 Sw Sr w x)(hS:∀b,Sr b→b<w.heap.size):∀{xs ys:List AV}{us:List Value},Q3 H ts xs ys→Aa C w xs mu us→Aa (Df w) w ys Mu.none us
 |[],[],us,_,hr=>by unfold Aa at*;exact hr
 |[],_::_,_,h,_=>h.elim
 |_::_,[],_,h,_=>h.elim
 |x::xs,y::ys,us,h,hr=>by
  unfold Aa at hr⊢;obtain⟨v,vs,rfl,h1,h2⟩:=hr;refine⟨v,vs,rfl,?_,KN Ah JJ hS h.2 h2⟩;rcases h.1 with k|⟨f,cs,ds,rfl,rfl,k⟩;·exact WN Ah JJ hS k h1
  ·unfold Aj at h1⊢;obtain⟨us,rfl,h3⟩:=h1;exact⟨us,rfl,T9 Ah JJ hS k h3⟩
theorem Ak.Zag{f:FuncId}{as as':List AV}{v:AV}{K:AV→KK}(Ba:H[0]?=some (.inv (Gh e0 ts)))(hv:Q3 H ts as as')(LF:Aw P f as' (λr=>r=v))(hm:Bi v=true)(hk:K v E H):Ak P f as E H K X:=by
 refine⟨LF.Ed,λG C mu a w vs hP Ah hr=>?_⟩
 obtain⟨Sw,Sr,hf,hJ,key⟩:=Ah.owner Ba;obtain⟨lT,vX⟩:dI e0 ts Sw Sr w:=hJ;refine(LF.out (Df w) w vs (MF Ah) (KN Ah lT hf.lt hv hr)).mono λe w' ⟨r,u,h1,h2,h3,h4⟩=>?_
 subst h2;exact .inl ⟨r,u,E,H,_,mu,h1,hk,Ah.below h3,A9 _ hm h4⟩
def GM(ts:Tok):List AV→List AV→Prop
 |[],[]=>True
 |x::xs,y::ys=>(∃cs ds,x=.agg cs∧y=.agg ds∧HQ ts cs ds)∧GM ts xs ys
 |_,_=>False
theorem Q4:∀{xs ys:List AV},HQ ts xs ys→ys.length=xs.length
 |[],[],_=>rfl
 |[],_::_,h=>h.elim
 |_::_,[],h=>h.elim
 |x::xs,y::ys,h=>by simp[Q4 h.2]
theorem IQ{sz:Nat}:∀{xs ys:List AV},GM ts xs ys→(∀a∈xs,a.cells.length=sz)→ys.length=xs.length∧∀a∈ys,a.cells.length=sz
 |[],[],_,_=>⟨rfl,λa ha=>by cases ha⟩
 |[],_::_,h,_=>h.elim
 |_::_,[],h,_=>h.elim
 |x::xs,y::ys,h,hs=>by
  obtain⟨⟨cs,ds,rfl,rfl,h1⟩,h2⟩:=h;obtain⟨k1,k2⟩:=IQ h2 λa ha=>hs a (by simp[ha])
  refine⟨by simp[k1],λa ha=>?_⟩
  rcases M4.1 ha with rfl|ha
  ·have:=hs (.agg cs) (by simp)
   show ds.length=sz
   rw[Q4 h1];exact this
  ·exact k2 a ha
theorem JO{Sw Sr:Nat→Prop}{C2:Ag}(JJ:∀x∈ts,LH e0 Sw Sr w x)(hC:∀b,Sr b→∀o,C2 b o)(hx:Ext C C2 w w):∀{xs ys:List AV}{us:List Value},GM ts xs ys→Aa C w (flat xs) mu us→Aa C2 w (flat ys) Mu.none us
 |[],[],us,_,hr=>by
  have e:flat ([]:List AV)=[]:=rfl;rw[e]at *;unfold Aa at*;exact hr
 |[],_::_,_,h,_=>h.elim
 |_::_,[],_,h,_=>h.elim
 |x::xs,y::ys,us,h,hr=>by
  obtain⟨⟨cs,ds,rfl,rfl,h1⟩,h2⟩:=h;have e1:flat (.agg cs::xs)=cs++flat xs:=rfl;have e2:flat (.agg ds::ys)=ds++flat ys:=rfl;rw[e1]at hr;rw[e2];have hl:=Ar _ hr;rw[Gk]at hl;have r1:=hr.take cs.length;have r2:=hr.drop cs.length;rw[List.take_left]at r1;rw[List.drop_left]at r2;have:=AF (KO JJ hC hx h1 r1) (JO JJ hC hx h2 r2);rwa [List.take_append_drop]at this
theorem Ac.Zck{c:Code}{l:Nat}{e:TypeId}{sz:Nat}{rows rows':List AV}(Ba:H[0]?=some (.inv (Gh e0 ts)))(hl:H[l]?=some (.arr e sz rows))(hv:GM ts rows rows')
  (h:Ac P c E ((H.set 0 (.ghost [] [] [])).set l (.arr e sz rows')) K X):Ac P c E H K X:=
 ⟨λn G a w hP ⟨C,mu,Ah⟩=>by
  obtain⟨ms,d1,d2⟩:=Ah.defers
  obtain⟨_,Sw,Sr,hf,hJ,hD1,hD2⟩:=d2.Gx 0 _ Ba
  obtain⟨lT,vX⟩:dI e0 ts Sw Sr w:=hJ
  let C2:Ag:=λb o=>C b o∨Sw b
  have hx:Ext C C2 w w:=.of_block (λ_ _ h=>.inl h) λ_ _ _=>rfl
  have hJw:∀x∈ts,LH e0 Sw Sw w x:=λx hx=>by
   rcases lT x hx with k|⟨b,cap,cur,rest,q1,q2,q3,q⟩;·exact .inl k
   ·exact .inr ⟨b,cap,cur,rest,q1,q2,q2,q⟩
  have Sz:l≠0:=λe=>by subst e;rw[Ba]at hl;cases hl
  have Zfn:0<H.length:=(Ao.1 Ba).1
  have Zfm:l<H.length:=(Ao.1 hl).1
  have get:∀{i:Nat}{RW:HO},((H.set 0 (.ghost [] [] [])).set l (.arr e sz rows'))[i]?=some RW→(i=0∧RW=.ghost [] [] [])∨(i=l∧RW=.arr e sz rows')∨(i≠0∧i≠l∧H[i]?=some RW):=λ{i RW} hi=>by
   by_cases e1:i=l
   ·subst e1;rw[Ff (by simpa using Zfm)]at hi
    simp only[E4.injEq]at hi;exact .inr (.inl ⟨rfl,hi.symm⟩)
   ·rw[D6 (Ne.symm e1)]at hi;by_cases e2:i=0
    ·subst e2;rw[Ff Zfn]at hi;simp only[E4.injEq]at hi;exact .inl ⟨rfl,hi.symm⟩
    ·rw[D6 (Ne.symm e2)]at hi
     exact .inr (.inr ⟨e2,e1,hi⟩)
  have PK:∀D:Nat×Obj,¬Sr D.1→Ck C w G.fresh mu D→Ck C2 w G.fresh mu D:=λD hd m=>⟨m.at_,λo hc=>hc.elim (m.Gy o) λk=>hd (hf.sub _ k),m.own,m.fr⟩
  refine h.out n G a w hP ⟨C2,mu,λb o hc=>.inl (Ah.c0 b o hc),λb o hc=>hc.elim (Ah.c1 b o) λk=>.inr (hf.fr b k),λb o hc=>hc.elim (Ah.lt b o) λk=>hf.lt b (hf.sub b k),
   ⟨λi g hi=>by simpa using Ah.heap.HH i g hi,λi g b hi hg=>?_,Ah.heap.sep,λi hi=>?_,λi cs hi=>?_,λi e' BD es hi=>?_,λi ks vs hi=>?_⟩,Aa.mono hx _ (Ay.refl _) Ah.env,
   ⟨ms,d1,λi cs us Ds hi=>?_,λi I' hi=>?_,λd hd=>PK d (hD1 d hd) (d2.marks d hd),d2.nd,λi i' cs vs oO cs' BV Tk hi EY Bu=>?_⟩,Ah.Aq,by simpa using Ah.CA.1,Ah.CA.2⟩
  ·obtain⟨k1,k2,k3⟩:=Ah.heap.fresh i g b hi hg
   exact⟨k1,k2,λo hc=>hc.elim (k3 o) λk=>hf.own b (hf.sub b k) i g hi hg⟩
  ·rcases get hi with⟨_,k⟩|⟨_,k⟩|⟨_,_,k⟩
   ·cases k
   ·cases k
   ·exact Ah.heap.dead i k
  ·rcases get hi with⟨_,k⟩|⟨_,k⟩|⟨_,_,k⟩
   ·cases k
   ·cases k
   ·obtain⟨b,cur,e',k1,k2,k3,k4⟩:=Ah.heap.Cm i cs k
    exact⟨b,cur,e',k1,k2,Aa.mono hx _ (Ay.refl _) k3,k4⟩
  ·rcases get hi with⟨_,k⟩|⟨rfl,k⟩|⟨_,_,k⟩
   ·cases k
   ·simp only[HO.arr.injEq]at k;obtain⟨rfl,rfl,rfl⟩:=k;obtain⟨k0,k⟩:=Ah.heap.BJ i e' BD rows hl;obtain⟨m1,m2⟩:=IQ hv k0;refine⟨m2,k.imp (λ⟨q1,q2⟩=>⟨q1,?_⟩) λ⟨b,cap,cur,k1,k2,k3,k4,k5,k6,k7⟩=>⟨b,cap,cur,by rw[m1];exact k1,k2,by rw[m1];exact k3,k4,k5,?_,k7⟩⟩
    ·subst q2;exact Lu m1
    ·rw[m1];exact Aa.mono (Ext.refl _ _) _ (Ay.none _) (JO hJw (λb hb o=>.inr hb) hx hv k6)
   ·obtain⟨k0,k⟩:=Ah.heap.BJ i e' BD es k
    exact⟨k0,k.imp id λ⟨b,cap,cur,k1,k2,k3,k4,k5,k6,k7⟩=>⟨b,cap,cur,k1,k2,k3,k4,k5,Aa.mono hx _ (Ay.refl _) k6,k7⟩⟩
  ·rcases get hi with⟨_,k⟩|⟨_,k⟩|⟨_,_,k⟩
   ·cases k
   ·cases k
   ·exact Ah.heap.maps i ks vs k
  ·rcases get hi with⟨_,k⟩|⟨_,k⟩|⟨_,_,k⟩
   ·simp only[HO.ghost.injEq]at k;obtain⟨rfl,rfl,rfl⟩:=k;exact⟨by unfold Aa;rfl,Lv,λD hD=>by cases hD⟩
   ·cases k
   ·obtain⟨k1,k3,k2⟩:=d2.Bc i cs us Ds k;exact⟨Aa.mono hx _ (Ay.refl _) k1,k3,λd hd=>⟨PK (d,Fb) (hD2 i cs us Ds k d hd) (k2 d hd).1,(k2 d hd).2⟩⟩
  ·rcases get hi with⟨_,k⟩|⟨_,k⟩|⟨k0,_,k⟩;·cases k
   ·cases k
   ·exact absurd (d2.Gx i I' k).1 k0
  ·rcases get hi with⟨_,k⟩|⟨_,k⟩|⟨_,_,k⟩
   ·simp only[HO.ghost.injEq]at k;obtain⟨rfl,rfl,rfl⟩:=k;intro D hD;cases hD
   ·cases k
   ·rcases get EY with⟨_,k'⟩|⟨_,k'⟩|⟨_,_,k'⟩
    ·simp only[HO.ghost.injEq]at k';obtain⟨rfl,rfl,rfl⟩:=k';intro D _ hD;cases hD
    ·cases k'
    ·exact d2.sep i i' cs vs oO cs' BV Tk k k' Bu⟩
theorem gQ{x:AV}(h:closed x=true):T8 H ts x x:=.inl (.inl (.inl ⟨rfl,h⟩))
theorem MG{x:AV}(h:closed x=true):Uc ts x x:=.inl ⟨rfl,h⟩
theorem mD{l:Nat}{cs ds:List AV}(hl:H[l]?=some (.cells cs))(h:HQ ts cs ds):dO H ts (.ptr l 0) (.at_ ds):=.inr (.inr ⟨l,cs,ds,rfl,rfl,hl,h⟩)
theorem Zb9{l:Nat}{cs ds:List AV}(hl:H[l]?=some (.cells cs))(h:HQ ts cs ds):T8 H ts (.ptr l 0) (.at_ ds):=.inl (mD hl h)
theorem Zey{cs ds:List AV}(h:HQ ts cs ds):T8 H ts (.agg cs) (.agg ds):=.inl (.inr (.inl ⟨cs,ds,rfl,rfl,h⟩))
theorem yZ{f:FuncId}{cs ds:List AV}(h:Vn H ts cs ds):T8 H ts (.fn f cs) (.fn f ds):=.inr ⟨f,cs,ds,rfl,rfl,h⟩
theorem Zcb{j:Nat}{s:Sv}{ss:List (List UInt8)}(h:ts[j]?=some (s,ss)):Uc ts (.raw s.v) (.sl 1 (ss.map AV.str)):=.inr ⟨j,s,ss,h,rfl,rfl⟩
theorem Ak.QO{f:FuncId}{as as':List AV}{v:AV}{K:AV→KK}(hv:Q3 H [] as as')(LF:Aw P f as' (λr=>r=v))(hm:Bi v=true)(hk:K v E H):Ak P f as E H K X:=by
 refine⟨LF.Ed,λG C mu a w vs hP Ah hr=>?_⟩
 refine(LF.out (Df w) w vs (MF Ah) (KN (e0:=0) (Sw:=λ_=>False) (Sr:=λ_=>False) Ah (λx hx=>by cases hx) (λ_ h=>h.elim) hv hr)).mono λe w' ⟨r,u,h1,h2,h3,h4⟩=>?_
 subst h2;exact .inl ⟨r,u,E,H,_,mu,h1,hk,Ah.below h3,A9 _ hm h4⟩
end
section
variable {G:Cx}{C:Ag}{w:World}{mu:Mu}{H:List HO}{E:List AV}{a:Act}{P:Program}
def Dj:AV→AV
 |.agg cs=>.agg (cs.map WQ)
 |.lit b=>.bool b
 |x=>x
theorem Ra:∀{cs:List AV}{vs:List Value},Aa C w cs mu vs→Aa C w (cs.map WQ) mu vs
 |[],_,h=>h
 |c::cs,vs,h=>by
  simp only[J6];unfold Aa at h⊢;obtain⟨v,us,rfl,h1,h2⟩:=h;exact⟨v,us,rfl,gV h1,Ra h2⟩
theorem Pq:∀{es:List AV}{vs:List Value},Aa C w (flat es) mu vs→Aa C w (flat (es.map Dj)) mu vs
 |[],_,h=>h
 |x::es,vs,h=>by
  have hc:∀{as bs:List AV}{us:List Value},Aa C w (as++bs) mu us→∃u1 u2,us=u1++u2∧Aa C w as mu u1∧Aa C w bs mu u2:=by
   intro as;induction as with
   |nil=>intro bs us h;exact⟨[],us,rfl,by unfold Aa;rfl,h⟩
   |cons c as ih=>
    intro bs us h;rw[On]at h;unfold Aa at h;obtain⟨v,BV,rfl,h2,h3⟩:=h;obtain⟨u1,u2,rfl,h4,h5⟩:=ih h3;exact⟨v::u1,u2,rfl,by unfold Aa;exact⟨v,u1,rfl,h2,h4⟩,h5⟩
  rw[show flat (x::es)=x.cells++flat es from by simp[flat]]at h
  obtain⟨u1,u2,rfl,h1,h2⟩:=hc h;rw[show flat ((x::es).map Dj)=(Dj x).cells++flat (es.map Dj)from by simp[flat]]
  refine AF ?_ (Pq h2)
  cases x<;>first|exact h1|(simp only[Dj,AV.cells]at *;exact Ra h1)|(
   simp only[Dj,AV.cells]at *;unfold Aa at*;obtain⟨v,BV,h3,h4,h5⟩:=h1;exact⟨v,BV,h3,by unfold Aj at*;exact h4,h5⟩)
theorem Az.Dj(Ah:Az G C mu E H a w)(l:Nat){e:TypeId}{sz:Nat}{es:List AV}(hl:H[l]?=some (.arr e sz es)):Az G C mu E (H.set l (.arr e sz (es.map Dj))) a w:=by
 have AR:l<H.length:=(Ao.1 hl).1
 have hg:∀{k:Nat}{ob:HO},(H.set l (.arr e sz (es.map Av.Dj)))[k]?=some ob→(k=l∧ob=.arr e sz (es.map Av.Dj))∨H[k]?=some ob:=λ{k ob} hk=>by
  by_cases MB:k=l
  ·subst MB;rw[Ff AR]at hk;exact .inl ⟨rfl,(E4.inj hk).symm⟩
  ·rw[D6 (λe=>MB e.symm)]at hk;exact .inr hk
 have HW:∀{k:Nat}{ob:HO},(H.set l (.arr e sz (es.map Av.Dj)))[k]?=some ob→(∀e sz es,ob≠.arr e sz es)→H[k]?=some ob:=λ{k ob} hk Bu=>by
  rcases hg hk with⟨_,h⟩|h;·exact absurd h (Bu _ _ _)
  ·exact h
 refine⟨Ah.c0,Ah.c1,Ah.lt,⟨λi g hi=>by simpa using Ah.heap.HH i g hi,Ah.heap.fresh,Ah.heap.sep,λk hk=>Ah.heap.dead k (HW hk (by intros;simp)),λk cs hk=>Ah.heap.Cm k cs (HW hk (by intros;simp)),λk e' BD Cf hk=>?_,λk ks vs hk=>Ah.heap.maps k ks vs (HW hk (by intros;simp))⟩,Ah.env,?_,Ah.Aq,by simpa using Ah.CA.1,Ah.CA.2⟩
 ·rcases hg hk with⟨rfl,h⟩|h
  ·cases h;obtain⟨k1,k2⟩:=Ah.heap.BJ k e sz es hl;refine⟨λx hx=>?_,?_⟩
   ·obtain⟨y,hy,rfl⟩:=Kh.1 hx;have:=k1 y hy;cases y<;>first|exact this|(simp only[AV.cells]at this;show(List.map Av.WQ _).length=sz;rw[Gj];exact this)
   ·rcases k2 with⟨k2,rfl⟩|⟨b,cap,cur,k2,k3,k4,k5,k6,k7,k8⟩;·exact .inl ⟨k2,rfl⟩
    ·refine .inr ⟨b,cap,cur,by rw[Gj];exact k2,k3,by rw[Gj];exact k4,k5,k6,?_,k8⟩
     rw[Gj];exact Pq k7
  ·exact Ah.heap.BJ k e' BD Cf h
 ·obtain⟨ms,d1,d2⟩:=Ah.defers
  exact⟨ms,d1,⟨λk cs' vs gm hk=>d2.Bc k cs' vs gm (HW hk (by intros;simp)),λk I hk=>by
   obtain⟨h0,Sw,Sr,q1,q2,q3,q4⟩:=d2.Gx k I (HW hk (by intros;simp))
   exact⟨h0,Sw,Sr,q1,q2,q3,λk' cs' vs gm Hc=>q4 k' cs' vs gm (HW Hc (by intros;simp))⟩,d2.marks,d2.nd,λk k' cs' vs gm cs2 sW gm2 hk Hc=>d2.sep k k' cs' vs gm cs2 sW gm2 (HW hk (by intros;simp)) (HW Hc (by intros;simp))⟩⟩
theorem Ac.Dj(l:Nat){e:TypeId}{sz:Nat}{es Cf:List AV}{c:Code}{K:KK}{X:XX}(hl:H[l]?=some (.arr e sz es))(he:es.map Av.Dj=Cf)(h:Ac P c E (H.set l (.arr e sz Cf)) K X):Ac P c E H K X:=by
 subst he;refine⟨λn G a w hP Ah=>?_⟩
 obtain⟨C,mu,Ah⟩:=Ah;exact h.out n G a w hP ⟨C,mu,Ah.Dj l hl⟩
theorem Ac.wT(l j:Nat){cs:List AV}{k:IntKind}{v:Int}{c:Code}{K:KK}{X:XX}(hl:H[l]?=some (.cells cs))(hj:cs[j]?=some (.int k v))(h:DF k v→Ac P c E H K X):Ac P c E H K X:=by
 refine⟨λn G a w hP Ah=>?_⟩
 obtain⟨C,mu,Ah⟩:=Ah;refine(h ?_).out n G a w hP ⟨C,mu,Ah⟩;obtain⟨b,cur,e,k1,k2,k3,k4⟩:=Ah.heap.Cm l cs hl;have AR:=(Ao.1 hj).1;have hlen:=Ar _ k3;have hr:=((AI _).1 k3).2 j AR (by omega)
 have e2:cs[j]=.int k v:=by rw[AO AR]at hj;exact E4.inj hj
 rw[e2]at hr;unfold Aj at hr;exact hr.2
end
section
variable {G:Cx}{C:Ag}{w w':World}{mu:Mu}{H:List HO}{E:List AV}{a:Act}{T:List TY}{P:Program}{ops:Array Oper}{n0 i j la:Nat}{o oi oj:Oper}{we nr:List Nat}{K:KK}{X:XX}
def gN(T:List TY)(la:Nat)(o:Oper)(E:List AV)(H:List HO)(K:KK):Prop:=
 match o.guard with
 |some _=>False
 |none=>match o.op with
  |.store t ad x=>(match o.dst with
   |some _=>False
   |none=>Dc E ad λp=>(match p with
    |.el l _ _ _=>(l=la∧Px (AM E x)=true)∧Cg T E H t ad x (λ_ E' H'=>K E' H')
    |_=>False))
  |.call c=>(match c.callee,c.args.toList,c.argTypes.toList with
   |.builtin .append,[s,x],[t,t']=>Dc E x λxv=>(match xv with
    |.sl _ _=>la=0∧Gp T E H t t' s x (λv E' H'=>Bx E' o.dst v λHp=>K Hp H')
    |_=>False)
   |_,_,_=>False)
  |_=>False
theorem RV{t:TypeId}{ad x:Operand}{K:AV→KK}{l z i k:Nat}(hp:AM E ad=.el l z i k)(h:Cg T E H t ad x K):
  ∃b,K (.raw undef) E (H.set l b)∧∀(E2:List AV)(H2:List HO),AM E2 ad=AM E ad→AM E2 x=AM E x→H2[l]?=H[l]?→∀K':AV→KK,K' (.raw undef) E2 (H2.set l b)→Cg T E2 H2 t ad x K':=by
 unfold Cg at h;obtain⟨y,hy,h⟩:=(Ab _ _ _).1 h;rw[Af,Af,Am,hp]at h;split at h;case h_2=>exact h.elim
 rename_i hc;simp only at h;obtain⟨ob,Ba,h⟩:=(Ab _ _ _).1 h;split at h;case h_2=>exact h.elim
 split at h;case h_2=>exact h.elim
 rename_i hb;obtain⟨Gu,hold,h⟩:=h;rw[Am]at h;split at h;case h_2=>exact h.elim
 rename_i GA;split at h
 ·rename_i kB;rw[AD]at h;refine⟨_,h,λE2 H2 e1 e2 e3 K' k=>?_⟩
  unfold Cg;refine(Ab _ _ _).2 ⟨y,hy,?_⟩;rw[Af,Af,Am,e1,e2,hp];simp only[hc];refine(Ab _ _ _).2 ⟨_,by rw[e3];exact Ba,?_⟩
  simp only[hb];refine⟨Gu,hold,?_⟩;rw[Am];simp only[GA,kB];rw[AD];exact k
 ·rename_i kB;rw[Cn,AD]at h;refine⟨_,h,λE2 H2 e1 e2 e3 K' k=>?_⟩
  unfold Cg;refine(Ab _ _ _).2 ⟨y,hy,?_⟩;rw[Af,Af,Am,e1,e2,hp];simp only[hc];refine(Ab _ _ _).2 ⟨_,by rw[e3];exact Ba,?_⟩
  simp only[hb];refine⟨Gu,hold,?_⟩;rw[Am];simp only[GA,kB];rw[Cn,AD];exact k
theorem iZ{t t':TypeId}{s x:Operand}{K:AV→KK}{sz:Nat}{xs:List AV}(hx:AM E x=.sl sz xs)(h:Gp T E H t t' s x K):
  ∃S:AV→HO→Prop,(∀v b,S v b→K v E (H.set 0 b))∧∀(E2:List AV)(H2:List HO),AM E2 s=AM E s→AM E2 x=AM E x→H2[0]?=H[0]?→∀K':AV→KK,(∀v b,S v b→K' v E2 (H2.set 0 b))→Gp T E2 H2 t t' s x K':=by
 unfold Gp at h;split at h;case h_2=>exact h.elim
 rename_i ht;obtain⟨y,hy,h⟩:=(Ab _ _ _).1 h;split at h;case h_2=>exact h.elim
 rename_i e Bh by' ag hk
 split at h;case h_2=>exact h.elim
 rename_i hb;rw[Af,Af,hx]at h
 obtain⟨ts,j,sv,es,ss,hq,hs,sL⟩:∃(ts:Tok) (j:Nat) (s':Sv) (es ss:List (List UInt8)),(AM E s=.raw s'.v∧H[0]?=some (.inv (Gh e ts))∧ts[j]?=some (s',es)∧xs=ss.map AV.str∧1≤ss.length∧(es.length+ss.length)*by'≤140737488355328)∧
   (∀s':Sv,K (.raw s'.v) E (H.set 0 (.inv (Gh e (ts.set j (s',es++ss))))))∧∀(E2:List AV)(H2:List HO),AM E2 s=AM E s→AM E2 x=AM E x→H2[0]?=H[0]?→∀K':AV→KK,(∀s':Sv,K' (.raw s'.v) E2 (H2.set 0 (.inv (Gh e (ts.set j (s',es++ss))))))→Gp T E2 H2 t t' s x K':=by
  simp only[Ee]at h;split at h;case h_2=>exact h.elim
  rename_i hz;obtain⟨z,h,jR⟩:=Fp h;rw[Am]at h;split at h;case h_2=>exact h.elim
  rename_i hc;obtain⟨ts,j,sv,es,ss,hq,h⟩:=h;refine⟨ts,j,sv,es,ss,hq,λs'=>by have:=h s';rwa [AD]at this,λE2 H2 e1 e2 e3 K' k=>?_⟩
  unfold Gp;simp only[ht];refine(Ab _ _ _).2 ⟨y,hy,?_⟩;simp only[hk,hb];rw[Af,Af,e1,e2,hx];simp only[Ee,hz];refine jR _ ?_;rw[Am];simp only[hc];exact⟨ts,j,sv,es,ss,⟨hq.1,by rw[e3];exact hq.2.1,hq.2.2⟩,λs'=>by rw[AD];exact k s'⟩
 exact⟨λv b=>∃s':Sv,v=.raw s'.v∧b=.inv (Gh e (ts.set j (s',es++ss))),λv b ⟨s',hv,hb⟩=>by subst hv;subst hb;exact hs s',λE2 H2 e1 e2 e3 K' k=>sL E2 H2 e1 e2 e3 K' λs'=>k _ _ ⟨s',rfl,rfl⟩⟩
theorem tX(h:gN T la o E H K):∃S:AV→HO→Prop,(∀v b,S v b→K (A5 E o.dst v) (H.set la b))∧
  ∀(E2:List AV)(H2:List HO),(∀y∈o.op.operands,AM E2 y=AM E y)→H2[la]?=H[la]?→∀K':KK,(∀v b,S v b→K' (A5 E2 o.dst v) (H2.set la b))→gN T la o E2 H2 K':=by
 obtain⟨dst,op,ty,pos,aft,gd⟩:=o;unfold gN at h;cases gd with
 |some g=>exact h.elim
 |none=>
  cases op<;>first|exact h.elim|skip
  ·rename_i t ad x;cases dst with
   |some d=>exact h.elim
   |none=>
    simp only at h;rw[Af]at h;split at h;case h_2=>exact h.elim
    rename_i l z i k hp;obtain⟨⟨rfl,hn⟩,h⟩:=h;obtain⟨b,k1,k2⟩:=RV hp h;refine⟨λv b'=>v=.raw undef∧b'=b,λv b' ⟨hv,hb⟩=>by subst hv;subst hb;exact k1,λE2 H2 he hl K' k=>?_⟩
    have e1:AM E2 ad=AM E ad:=he ad (by simp[L2])
    have e2:AM E2 x=AM E x:=he x (by simp[L2])
    unfold gN;simp only;rw[Af,e1,hp];simp only;exact⟨⟨trivial,by rw[e2];exact hn⟩,k2 E2 H2 e1 e2 hl _ (k _ _ ⟨rfl,rfl⟩)⟩
  ·rename_i c;obtain⟨Zf,args,II⟩:=c;simp only at h;split at h;case h_2=>exact h.elim
   rename_i s x t t' h2 h3;rw[Af]at h;split at h;case h_2=>exact h.elim
   rename_i sz xs hx;obtain⟨rfl,h⟩:=h;obtain⟨S,k1,k2⟩:=iZ hx h;refine⟨S,λv b hs=>by have:=k1 v b hs;rwa [Ax]at this,λE2 H2 he hl K' k=>?_⟩
   obtain rfl:args=#[s,x]:=by cases args;simp_all
   have e1:AM E2 s=AM E s:=he s (by simp[L2,Call.operands])
   have e2:AM E2 x=AM E x:=he x (by simp[L2,Call.operands])
   unfold gN;simp only[h3];rw[Af,e2,hx];simp only;exact⟨trivial,k2 E2 H2 e1 e2 hl _ λv b hs=>by rw[Ax];exact k v b hs⟩
theorem lZ(hT:BL G.P T)(Ah:Az G C mu E H a w){Kn:KK}{r:Option Nat}{n:Nat}(h:gN T la o E H K){Kr:KK}(hk:∀E H,K E H→Kr E H):
  M3 o (yielded ops a.tmps)=true∧o.wpIn (fw r) n G.P a w (λa w=>∃E' H',Kr E' H'∧St G E' H' a w) (Ln G Kn X):=by
 obtain⟨dst,op,ty,pos,aft,gd⟩:=o;unfold gN at h;cases gd with
 |some g=>exact h.elim
 |none=>
  refine⟨by simp[M3],?_⟩
  cases op<;>first|exact h.elim|skip
  ·rename_i t ad x;cases dst with
   |some d=>exact h.elim
   |none=>
    simp only at h;rw[Af]at h;split at h;case h_2=>exact h.elim
    rename_i l z i k hp;obtain⟨⟨rfl,hn⟩,h⟩:=h;refine DM (al:=none) (K:=λ_ E' H'=>K E' H') hT ?_ Ah λa' w' hp=>?_
    ·unfold RJ;simp only;rw[Af,hp];simp only;rw[Af];exact(OV hn).2 h
    ·obtain⟨r,E',H',Hc,C',mu',CM⟩:=hp;exact⟨E',H',hk _ _ Hc,C',mu',by simpa[A5]using CM⟩
  ·rename_i c;obtain⟨Zf,args,II⟩:=c;simp only at h;split at h;case h_2=>exact h.elim
   rename_i s x t t' h2 h3;rw[Af]at h;split at h;case h_2=>exact h.elim
   obtain⟨rfl,h⟩:=h;refine WS (X:=X) (Kn:=Kn) (K:=λv E' H'=>Bx E' dst v λHp=>K Hp H') hT ?_ Ah λa' w' hp=>?_
   ·unfold Zx;simp only[h2,h3];exact h
   ·obtain⟨r,E',H',Hc,C',mu',CM⟩:=hp;rw[Ax]at Hc;exact⟨_,H',hk _ _ Hc,C',mu',CM⟩
def VC(la:Nat)(E:List AV):List Operand→Bool
 |[]=>true
 |y::r=>(match C8 la (AM E y)with|true=>false|false=>VC la E r)
theorem Rz:∀{l:List Operand},VC la E l=true→∀y∈l,C8 la (AM E y)=false
 |[],_,y,h=>by cases h
 |x::l,h,y,hy=>by
  unfold VC at h;split at h;·cases h
  ·rename_i h0;rcases M4.1 hy with rfl|hy;·exact h0
   ·exact Rz h y hy
theorem sU(fD:n0+i≠la)(hnr:xI oi=true∨∀y∈oi.op.operands,C8 la (AM E y)=false)(p1:∀t,oi.dst=some t→t∉oj.looksAt ops)(p2:∀t,oi.dst=some t→oj.dst≠some t)(p3:∀t,oj.dst=some t→t∉oi.looksAt ops){Kw:KK}
  (h:Fa P T ops.toList n0 i oi E H λE' H'=>gN T la oj E' H' Kw):gN T la oj E H (λE1 H1=>(∀y∈oi.op.operands,AM E1 y=AM E y)∧Fa P T ops.toList n0 i oi E1 H1 Kw):=by
 have key:∃vi NZ,gN T la oj (A5 E oi.dst vi) (BQ H (n0+i) NZ) Kw∧∀v b,∀K':KK,K' (A5 (A5 E oj.dst v) oi.dst vi) (BQ (H.set la b) (n0+i) NZ)→Fa P T ops.toList n0 i oi (A5 E oj.dst v) (H.set la b) K':=by
  rcases hnr with yG|hnr
  ·obtain⟨Sm,UT,xO,X3,X9,pG⟩:=oi;unfold xI at yG;simp only at yG
   obtain⟨hg,d,hd⟩:pG=none∧∃d,Sm=some d:=by
    cases UT<;>first|cases yG|skip
    ·rename_i x;cases x<;>first|cases yG|skip
     cases pG<;>cases Sm<;>simp at yG
     exact⟨rfl,_,rfl⟩
    ·cases pG<;>cases Sm<;>simp at yG
     exact⟨rfl,_,rfl⟩
   subst hg;subst hd
   have pv:∀{E:List AV}{H:List HO}{K:KK},Fa P T ops.toList n0 i {dst:=some d,op:=UT,type:=xO,pos:=X3,after:=X9,guard:=none} E H K↔Bg T E H UT λv=>Py v λv=>K (E.set d v) H:=λ{E H K}=>by
    cases UT<;>first|cases yG|skip
    all_goals
     unfold Fa Tn rK Bg;simp only[Af,Pg,Ax,A5]
   have noH:∀{E:List AV}{H H':List HO}{K:AV→Prop},Bg T E H UT K→Bg T E H' UT K:=λ{E H H' K} h=>by
    cases UT<;>first|cases yG|skip
    all_goals exact h
   rw[pv]at h;obtain⟨r,hr,SF⟩:=GG h;obtain⟨u,h1,hu,_,_⟩:=Ht hr;refine⟨u,none,h1,λv b K' k=>?_⟩
   rw[pv];have ag:=CG (o:={dst:=some d,op:=UT,type:=xO,pos:=X3,after:=X9,guard:=none}) (ops:=ops) (x:=v) (E:=E) p3;exact noH (H:=H) (SF (A5 E oj.dst v) H ag.1 (λ_ _ _ _ _ h=>h) _ (hu _ k))
  ·obtain⟨vi,NZ,di,ki,ti⟩:=DA h;refine⟨vi,NZ,ki,λv b K' k=>ti _ _ (CG p3) (λy hy l ob hr hl=>?_) (D6 (Ne.symm fD)) K' k⟩
   have Bu:la≠l:=λe=>by subst e;rw[hnr y hy]at hr;cases hr
   rw[D6 Bu];exact hl
 obtain⟨vi,NZ,ki,ti⟩:=key;have ag:=CG (x:=vi) (E:=E) p1;obtain⟨S,k1,k2⟩:=tX ki
 have Ye:H[la]?=(BQ H (n0+i) NZ)[la]?:=by
  cases NZ with
  |none=>rfl
  |some y=>simp only[BQ];rw[D6 fD]
 refine k2 E H (λy hy=>(ag.1 y hy).symm) Ye _ λv b hs=>⟨(CG (x:=v) (E:=E) p3).1,ti v b _ ?_⟩
 have:=k1 v b hs;rw[H9 p2]at this
 have e:(BQ H (n0+i) NZ).set la b=BQ (H.set la b) (n0+i) NZ:=by
  cases NZ with
  |none=>rfl
  |some y=>simp only[BQ];exact List.set_comm _ _ fD
 rw[e]at this;exact this
def Wl(P:Program)(T:List TY)(ops:Array Oper)(n0:Nat)(la:Nat→Nat)(we:List Nat)(j:Nat)(Kn:KK)(E:List AV)(H:List HO):Prop:=
 match ops[j]? with
 |none=>Kn E H
 |some o=>match A4 we j with
  |false=>Fa P T ops.toList n0 j o E H Kn
  |true=>∃Kw:KK,gN T (la j) o E H Kw∧∀E H,Kw E H→Kn E H
def Fg(P:Program)(T:List TY)(ops:Array Oper)(n0:Nat)(la:Nat→Nat)(we:List Nat)(K:KK):Nat→Array Bool→List AV→List HO→Prop
 |0,listed,E,H=>Sat P E H→FP .any ops listed=[]∧K E H
 |fuel+1,listed,E,H=>Sat P E H→(FP .any ops listed=[]→K E H)∧
  ∀i∈FP .any ops listed,Wl P T ops n0 la we i (Fg P T ops n0 la we K fuel (listed.setIfInBounds i true)) E H
variable {la:Nat→Nat}
theorem cN(hT:BL G.P T){r:Option Nat}{n:Nat}{Kn K:KK}(h:Wl G.P T ops n0 la we i Kn E H)(Ah:Az G C mu E H a w):
  wpOpIn (fw r) n G.P ops (Ln G K X) i (λa w=>∃E' H',Kn E' H'∧St G E' H' a w) a w:=by
 unfold Wl at h;unfold wpOpIn;split;·rename_i ho;rw[ho]at h;exact⟨E,H,h,C,mu,Ah⟩
 ·rename_i o ho;rw[ho]at h;simp only at h;split at h
  ·rcases MQ hT ho h Ah with⟨hw,h⟩|⟨hw,h⟩;·rw[if_pos hw];exact h
   ·rw[if_neg (by simp[hw])];exact⟨λ_ _=>trivial,h⟩
  ·obtain⟨Kw,h,hKw⟩:=h;obtain⟨hw,h⟩:=lZ (X:=X) (Kn:=K) (r:=r) (n:=n) hT Ah (K:=Kw) h hKw;rw[if_pos hw];exact h
theorem P3(hT:BL G.P T){r:Option Nat}{n:Nat}:∀(fuel:Nat)(listed:Array Bool)(E:List AV)(H:List HO)(a:Act)(w:World),Fg G.P T ops n0 la we K fuel listed E H→St G E H a w→wpAnyIn (fw r) n G.P .any ops (Ln G K X) fuel listed a w
 |0,listed,E,H,a,w,h,Ah=>by
  unfold Fg at h;obtain⟨h1,h2⟩:=h ⟨G,a,w,rfl,Ah⟩;exact⟨h1,E,H,h2,Ah⟩
 |fuel+1,listed,E,H,a,w,h,Ah=>by
  unfold Fg at h;obtain⟨h1,h2⟩:=h ⟨G,a,w,rfl,Ah⟩;refine⟨λh0=>⟨E,H,h1 h0,Ah⟩,λi hi=>?_⟩
  obtain⟨C,mu,Ah⟩:=Ah;exact wpOpIn_mono (λa' w' ⟨E',H',k1,k2⟩=>P3 hT fuel _ E' H' a' w' k1 k2) (cN hT (h2 i hi) Ah)
theorem mV(hT:BL P T)(hs:Sat P E H)(hi:ops[i]?=some oi)(hj:ops[j]?=some oj)(N4:i≠j)(SH:oi.apart ops oj=true){Ki Kj:KK}
  (h:Fa P T ops.toList n0 i oi E H Ki) (hk:∀E' H',Sat P E' H'→Ki E' H'→Fa P T ops.toList n0 j oj E' H' Kj):
  Fa P T ops.toList n0 j oj E H λE1 H1=>(∀y∈oi.op.operands,AM E1 y=AM E y)∧Fa P T ops.toList n0 i oi E1 H1 Kj:=by
 obtain⟨p1,p2,p3⟩:=Ou SH;obtain⟨vi,NZ,di,ki,ti⟩:=DA h;have refl:∀o:Oper,Eg ops.toList E E o:=λo=>⟨λ_ _=>rfl,λ_ _ _ _ _ _ _=>rfl⟩
 have Fv:Sat P (A5 E oi.dst vi) (BQ H (n0+i) NZ):=GR hT hi (ti E H (refl oi) (λ_ _ _ _ _ h=>h) rfl _ ⟨rfl,rfl⟩) hs
 have h2:=hk _ _ Fv ki;obtain⟨vj,obj,dj,kj,tj⟩:=DA h2;have ag:=CG (x:=vi) (E:=E) p1
 have dj':∀x,obj=some x→H[n0+j]?=some .dead:=λx hx=>by
  have:=dj x hx;cases NZ with
  |none=>exact this
  |some y=>simp only[BQ]at this;rwa [D6 (by omega)]at this
 have sne:∀(x:Option HO)(s t:Nat),s≠t→(BQ H s x)[t]?=H[t]?:=λx s t Ah=>by
  cases x with
  |none=>rfl
  |some y=>simp only[BQ];rw[D6 Ah]
 have agj:=CG (x:=vj) (E:=E) p3;refine tj E H ag.symm (Sq hs ag.1 di) (sne _ _ _ (by omega)).symm _ ⟨agj.1,?_⟩
 refine ti _ _ agj (Yc hs dj') (sne _ _ _ (by omega)) _ ?_
 ·rw[H9 p2,Ul (show n0+i≠n0+j by omega)]at kj
  exact kj
theorem P5(hT:BL P T)(fD:∀j,A4 we j=true→la j<n0)(hi:ops[i]?=some oi)(V6:A4 we i=false){U:Nat→Bool}(hUi:U i=true){hw:Bool}
  (vV:∀j oj,U j=true→j≠i→ops[j]?=some oj→∃e∈oj.after,Ob .any e=true∧U e.on=true):
  ∀(fuel:Nat)(listed:Array Bool)(E:List AV)(H:List HO),(∀j,U j=true→listed.getD j false=false)→
   (∀j oj,ops[j]?=some oj→U j=false→listed.getD j true=false→(A4 we j=false∨hw=true)∧oi.apart ops oj=true)→
   i∈FP .any ops listed→(hw=true→xI oi=true∨∀j,A4 we j=true→∀y∈oi.op.operands,C8 (la j) (AM E y)=false)→Fa P T ops.toList n0 i oi E H (Fg P T ops n0 la we K fuel (listed.setIfInBounds i true))→Fg P T ops n0 la we K (fuel+1) listed E H:=by
 intro fuel;induction fuel with
 |zero=>
  intro listed E H hU SH hr hnr h;unfold Fg;intro hs;refine⟨λh0=>(by rw[h0]at hr;cases hr),λj hj=>?_⟩
  by_cases Gz:j=i;·subst Gz;unfold Wl;rw[hi];simp only;rw[V6];exact h
  ·obtain⟨Km,oj,Ei,B7⟩:=mem_ready.1 hj;exfalso;obtain⟨vi,NZ,di,ki,ti⟩:=DA h;have Fv:Sat P (A5 E oi.dst vi) (BQ H (n0+i) NZ):=GR hT hi (ti E H ⟨λ_ _=>rfl,λ_ _ _ _ _ _ _=>rfl⟩ (λ_ _ _ _ _ h=>h) rfl _ ⟨rfl,rfl⟩) hs
   unfold Fg at ki;have:=ready_mono hj Gz;rw[(ki Fv).1]at this;cases this
 |succ fuel ih=>
  intro listed E H hU SH hr hnr h;unfold Fg;intro hs;refine⟨λh0=>(by rw[h0]at hr;cases hr),λj hj=>?_⟩
  by_cases Gz:j=i;·subst Gz;unfold Wl;rw[hi];simp only;rw[V6];exact h
  ·obtain⟨Km,oj,Ei,B7⟩:=mem_ready.1 hj
   have bW:U j=false:=by
    cases hu:U j with
    |false=>rfl
    |true=>
     obtain⟨e,he,hb,Wz⟩:=vV j oj hu Gz Ei;have:=B7 e he hb;rw[hU _ Wz]at this;cases this
   obtain⟨bA,OR⟩:=SH j oj Ei bW Km
   have rest:∀E1 H1,(∀y∈oi.op.operands,AM E1 y=AM E y)→Fa P T ops.toList n0 i oi E1 H1 (Fg P T ops n0 la we K fuel ((listed.setIfInBounds j true).setIfInBounds i true))→Fg P T ops n0 la we K (fuel+1) (listed.setIfInBounds j true) E1 H1:=λE1 H1 he k=>by
    refine ih (listed.setIfInBounds j true) E1 H1 (λk hk=>?_) (λk ok hk hu TO=>?_) (ready_mono hr (Ne.symm Gz)) (λh=>(hnr h).imp id λh j hj y hy=>by rw[he y hy];exact h j hj y hy) k
    ·have Bu:j≠k:=λhe=>by subst he;rw[bW]at hk;cases hk
     rw[getD_set_ne false Bu];exact hU k hk
    ·refine SH k ok hk hu ?_;by_cases PL:j=k;·subst PL;exact Km
     ·rw[getD_set_ne true PL]at TO;exact TO
   unfold Wl;rw[Ei];simp only
   cases Yj:A4 we j with
   |false=>
    simp only
    have hc:=mV (Kj:=Fg P T ops n0 la we K fuel ((listed.setIfInBounds i true).setIfInBounds j true)) hT hs hi Ei (Ne.symm Gz) OR h λE' H' Fv k=>by
     unfold Fg at k;have:=(k Fv).2 j (ready_mono hj Gz);unfold Wl at this;rw[Ei]at this;simp only at this;rw[Yj]at this;exact this
    refine BF hc λE1 H1 k=>rest E1 H1 k.1 ?_
    rw[Lr _ _ Gz];exact k.2
   |true=>
    simp only
    have hww:hw=true:=by
     rcases bA with k|k;·rw[Yj]at k;cases k
     ·exact k
    obtain⟨p1,p2,p3⟩:=Ou OR;obtain⟨vi,NZ,di,ki,ti⟩:=DA h;have refl:Eg ops.toList E E oi:=⟨λ_ _=>rfl,λ_ _ _ _ _ _ _=>rfl⟩
    have Fv:Sat P (A5 E oi.dst vi) (BQ H (n0+i) NZ):=GR hT hi (ti E H refl (λ_ _ _ _ _ h=>h) rfl _ ⟨rfl,rfl⟩) hs
    unfold Fg at ki;have hd:=(ki Fv).2 j (ready_mono hj Gz);unfold Wl at hd;rw[Ei]at hd;simp only at hd;rw[Yj]at hd
    obtain⟨Kw,Bj,Gf⟩:=hd;have h3:=ti E H refl (λ_ _ _ _ _ h=>h) rfl (λE' H'=>gN T (la j) oj E' H' Kw) Bj
    refine⟨_,sU (by have:=fD j Yj;omega) ((hnr hww).imp id λh=>h j Yj) p1 p2 p3 h3,λE1 H1 k=>rest E1 H1 k.1 (BF k.2 λE2 H2 k2=>?_)⟩
    rw[Lr _ _ Gz];exact Gf _ _ k2
def qR(ops:Array Oper)(we:List Nat)(listed:Array Bool)(k:Nat)(hw:Bool)(U:List Nat):Bool:=
 match ops[k]? with
 |none=>false
 |some ok=>A4 U k&&(OP ops.size).all (λj=>(!A4 U j||(!listed.getD j false))&&match ops[j]? with
   |none=>true
   |some oj=>(match A4 U j with
    |true=>L6 j k||oj.after.any (λe=>Ob .any e&&A4 U e.on)
    |false=>listed.getD j true||((!A4 we j||hw)&&ok.apart ops oj)))&&U.all λj=>decide (j<ops.size)
def nW(ops:Array Oper)(we nr:List Nat):List Nat→Array Bool→Bool
 |[],listed=>(FP .any ops listed).isEmpty
 |k::r,listed=>(match A4 we k with
  |true=>(FP .any ops listed == [k])
  |false=>(FP .any ops listed).contains k&&qR ops we listed k (A4 nr k||(match ops[k]? with|some o=>xI o|none=>false)) (Ek ops k))&&nW ops we nr r (listed.setIfInBounds k true)
def zM(P:Program)(T:List TY)(ops:List Oper)(n0:Nat)(la:Nat→Nat)(we nr:List Nat):List Nat→List AV→List HO→KK→Prop
 |[],E,H,K=>K E H
 |k::r,E,H,K=>B6 ops k λo=>match A4 we k with
  |false=>(match A4 nr k with
   |true=>(we.all λj=>VC (la j) E o.op.operands.toList)=true∧Fa P T ops n0 k o E H λE H=>zM P T ops n0 la we nr r E H K
   |false=>Fa P T ops n0 k o E H λE H=>zM P T ops n0 la we nr r E H K)
  |true=>gN T (la k) o E H (λE H=>zM P T ops n0 la we nr r E H K)
theorem Lm(hT:BL P T)(fD:∀j,A4 we j=true→la j<n0):∀(l:List Nat)(listed:Array Bool)(E:List AV)(H:List HO),
  nW ops we nr l listed=true→zM P T ops.toList n0 la we nr l E H K→Fg P T ops n0 la we K l.length listed E H
 |[],listed,E,H,hB,h=>by
  unfold Fg;unfold zM at h;exact λ_=>⟨by simpa[nW]using hB,h⟩
 |k::l,listed,E,H,hB,h=>by
  simp only[nW,C4]at hB;obtain⟨Nx,kG⟩:=hB;unfold zM at h;replace h:=(Ab _ _ _).1 h;obtain⟨o,h0,h⟩:=h
  have h0:ops[k]?=some o:=by simpa using h0
  cases hw:A4 we k with
  |false=>
   rw[hw]at h Nx;simp only[C4]at Nx h;obtain⟨hr,hf⟩:=Nx;rw[h0]at hf;simp only at hf;generalize hww:(A4 nr k||xI o)=ww at hf
   unfold qR at hf;rw[h0]at hf;simp only[C4,LA,Mo]at hf;obtain⟨⟨vW,B7⟩,AR⟩:=hf;have lt:∀j,A4 (Ek ops k) j=true→j<ops.size:=λj hj=>by simpa using AR j (G9 hj)
   have up:∀j oj,A4 (Ek ops k) j=true→j≠k→ops[j]?=some oj→∃e∈oj.after,Ob .any e=true∧A4 (Ek ops k) e.on=true:=λj oj hu PL Ei=>by
    have:=(B7 j (lt j hu)).2;rw[Ei]at this;simp only[hu]at this;simp only[Lw]at this;rcases this with h1|h1;·exact absurd (F0 h1) PL
    ·obtain⟨e,he,h2⟩:=PO.1 h1;simp only[C4]at h2;exact⟨e,he,h2⟩
   have un:∀j,A4 (Ek ops k) j=true→listed.getD j false=false:=λj hu=>by
    have:=(B7 j (lt j hu)).1;simpa[hu]using this
   have apt:∀j oj,ops[j]?=some oj→A4 (Ek ops k) j=false→listed.getD j true=false→(A4 we j=false∨ww=true)∧o.apart ops oj=true:=λj oj Ei hu TO=>by
    have U0:=(Fy.1 Ei).1;have:=(B7 j U0).2;rw[Ei]at this;simp only[hu]at this;simp only[TO,Lw,C4,Lx,P8,false_or]at this;exact this
   cases hp:A4 nr k with
   |false=>
    rw[hp]at h;refine P5 hT fD h0 hw (U:=A4 (Ek ops k)) vW (hw:=ww) up l.length listed E H un apt (by simpa using hr) (λh=>.inl ?_) (BF h λE' H' h'=>Lm hT fD l _ E' H' kG h')
    rw[hp,Bool.false_or]at hww;rw[hww];exact h
   |true=>
    rw[hp]at h;refine P5 hT fD h0 hw (U:=A4 (Ek ops k)) vW (hw:=ww) up l.length listed E H un apt (by simpa using hr) (λ_=>.inr λj hj y hy=>Rz (LA.1 h.1 j (G9 hj)) y (by simpa using hy)) (BF h.2 λE' H' h'=>Lm hT fD l _ E' H' kG h')
  |true=>
   rw[hw]at h Nx;simp only at h Nx;have hr:FP .any ops listed=[k]:=by simpa using Nx
   show Fg P T ops n0 la we K (l.length+1) listed E H
   unfold Fg;intro hs;refine⟨λh0=>(by rw[hr]at h0;cases h0),λj hj=>?_⟩
   rw[hr]at hj;obtain rfl:j=k:=by simpa using hj
   unfold Wl;rw[h0];simp only;rw[hw];simp only
   exact⟨_,h,λE1 H1 hh=>Lm hT fD l _ E1 H1 kG hh⟩
theorem Ac.yS{id:Nat}(la:Nat→Nat)(l im we nr:List Nat)(hT:BL P T)(hm:P.follows .mixedOrders=true)(hB:(L6 l.length ops.size&&nW ops we nr l (G1 ops.size false))=true)(fD:(we.all λj=>Nat.ble (la j+1) H.length)=true)
  (h:zM P T ops.toList H.length la we nr l E (H++VG im ops.size) K):Ac P (.region id ops true) E H K X:=by
 refine⟨λn G a w hP Ah=>?_⟩
 subst hP;obtain⟨C,mu,Ah⟩:=Ah;have CM:Az G C mu E H a w.drew:=Ah.drew;have fA:=CM.pad im ops.size;simp only[C4]at hB;have hl:=F0 hB.1;have h1:=Lm (ops:=ops) (n0:=H.length) (we:=we) (nr:=nr) (K:=K) hT (λj hj=>MR (LA.1 fD j (G9 hj))) l (G1 ops.size false) E _ hB.2 h
 rw[hl]at h1;refine wpIn_region_any hm ?_;have h2:=P3 (X:=X) (r:=G.rd) (n:=n) hT _ _ _ _ a _ h1 ⟨C,mu,fA⟩;simpa using h2
end
section
variable {G:Cx}{C C2:Ag}{w:World}{mu:Mu}{H:List HO}{E:List AV}{a:Act}{T:List TY}{P:Program}{K:KK}{X:XX}{e0:TypeId}{ts:Tok}
def xC(H:List HO)(ts:Tok)(x y:AV):Prop:=Uc ts x y∨∃l sz e rows rows',x=.own l sz 0 rows.length∧y=.sl sz rows'∧H[l]?=some (.arr e sz rows)∧GM ts rows rows'
def Zr(H:List HO)(ts:Tok):List AV→List AV→Prop
 |[],[]=>True
 |x::xs,y::ys=>xC H ts x y∧Zr H ts xs ys
 |_,_=>False
def Zca(H:List HO)(ts:Tok)(x y:AV):Prop:=T8 H ts x y∨∃l cs ds,x=.ptr l 0∧y=.at_ ds∧H[l]?=some (.cells cs)∧Zr H ts cs ds
def Zq(H:List HO)(ts:Tok):List AV→List AV→Prop
 |[],[]=>True
 |x::xs,y::ys=>Zca H ts x y∧Zq H ts xs ys
 |_,_=>False
theorem mE(Ah:Az G C mu E H a w){Sw Sr:Nat→Prop}(JJ:∀x∈ts,LH e0 Sw Sr w x)(hS:∀b,Sr b→b<w.heap.size){x y:AV}{u:Value}(h:xC H ts x y)(hr:Aj C w x mu u):Aj (Df w) w y Mu.none u:=by
 have hx:Ext C (Df w) w w:=.of_block (λb o hc=>Ah.lt b o hc) λ_ _ _=>rfl
 rcases h with h|⟨l,sz,e,rows,rows',rfl,rfl,hl,h⟩;·exact Q5 JJ (λb hb _=>hS b hb) hx h hr
 ·obtain⟨hz,h2⟩:=Ah.heap.BJ l e sz rows hl;obtain⟨m1,m2⟩:=IQ h hz;unfold Aj at hr⊢;obtain⟨x,hm,hle,MA,rfl⟩:=hr;rcases h2 with⟨h2,rfl⟩|⟨b,cap,cur,h3,⟨fz,h4,Nu⟩,h5,h6,h7,h8,h9⟩
  ·rw[hm]at h2;simp only[E4.injEq,GO.arr.injEq]at h2;subst h2;exact .inl ⟨⟨_,rfl⟩,Lu m1⟩
  ·rw[hm]at h3;simp only[E4.injEq,GO.arr.injEq]at h3;subst h3;have h8':=JO JJ (λb hb _=>hS b hb) hx h h8
   have f2:b<w.heap.size:=(Fy.1 h4).1;refine .inr ⟨b,0,cap,by simp[BP,m1],by omega,h6,(DJ rows' 0).2 λi hi=>⟨m2 _ (JB hi),(Co _ _).2 λj hj=>?_⟩⟩
   have hei:rows'[i]?=some rows'[i]:=AO hi;obtain⟨r,hr⟩:=GL rows' m2 i _ hei;have N0:=(AI _).1 h8';have Eh:=m2 _ (JB hi);have JF:=BA rows' m2;have hmul:(i+1)*sz≤rows'.length*sz:=OQ _ hi;rw[Nat.add_mul]at hmul;have UY:rows.length*sz≤cap*sz:=OQ _ h5;have hmm:rows'.length*sz=rows.length*sz:=by rw[m1]
   have IJ:cur.toList.length=cap*sz:=by simpa using h7
   have hk:i*sz+j<(flat rows').length:=by omega
   have Hc:i*sz+j<(cur.toList.take (rows.length*sz)).length:=by rw[N0.1];exact hk
   have EX:=N0.2 (i*sz+j) hk Hc
   have U3:(flat rows')[i*sz+j]=rows'[i].cells[j]:=by
    have e1:((flat rows').drop (i*sz))[j]?=(rows'[i].cells++r)[j]?:=by rw[hr]
    rw[Qc,AO hk,Ky hj,AO hj]at e1;simpa using e1
   rw[U3,List.getElem_take]at EX;have AR:i*sz+j<cur.toList.length:=by omega
   have e5:cur[i*sz+j]?=some cur.toList[i*sz+j]:=by rw[←G4];exact AO AR
   refine⟨cur.toList[i*sz+j],h9 _ (JB _),⟨f2,?_⟩,EX⟩;rw[Oc];simp[Om,h4,e5]
theorem Ub(Ah:Az G C mu E H a w){Sw Sr:Nat→Prop}(JJ:∀x∈ts,LH e0 Sw Sr w x)(hS:∀b,Sr b→b<w.heap.size):∀{xs ys:List AV}{us:List Value},Zr H ts xs ys→Aa C w xs mu us→Aa (Df w) w ys Mu.none us
 |[],[],us,_,hr=>by unfold Aa at*;exact hr
 |[],_::_,_,h,_=>h.elim
 |_::_,[],_,h,_=>h.elim
 |x::xs,y::ys,us,h,hr=>by
  unfold Aa at hr⊢;obtain⟨v,vs,rfl,h1,h2⟩:=hr;exact⟨v,vs,rfl,mE Ah JJ hS h.1 h1,Ub Ah JJ hS h.2 h2⟩
theorem Ua(Ah:Az G C mu E H a w){Sw Sr:Nat→Prop}(JJ:∀x∈ts,LH e0 Sw Sr w x)(hS:∀b,Sr b→b<w.heap.size):∀{xs ys:List AV}{us:List Value},Zq H ts xs ys→Aa C w xs mu us→Aa (Df w) w ys Mu.none us
 |[],[],us,_,hr=>by unfold Aa at*;exact hr
 |[],_::_,_,h,_=>h.elim
 |_::_,[],_,h,_=>h.elim
 |x::xs,y::ys,us,h,hr=>by
  unfold Aa at hr⊢;obtain⟨v,vs,rfl,h1,h2⟩:=hr;refine⟨v,vs,rfl,?_,Ua Ah JJ hS h.2 h2⟩;rcases h.1 with k|⟨l,cs,ds,rfl,rfl,hl,k⟩
  ·have k2:Q3 H ts [x] [y]:=⟨k,trivial⟩;have:=KN Ah JJ hS k2 (us:=[v]) (by unfold Aa;exact⟨v,[],rfl,h1,by unfold Aa;rfl⟩)
   unfold Aa at this;obtain⟨v',BV,he,k3,_⟩:=this;simp only[PN.injEq]at he;obtain⟨rfl,_⟩:=he;exact k3
  ·unfold Aj at h1;obtain⟨b,hm,rfl⟩:=h1;obtain⟨b',cur,e,k1,k2,k3,k4⟩:=Ah.heap.Cm l cs hl;rw[hm]at k1;simp only[E4.injEq,GO.CU.injEq]at k1;subst k1;have k5:=Ub Ah JJ hS k k3;unfold Aj;refine⟨b,0,rfl,(Co _ _).2 λi hi=>?_⟩
   have hlen:=Ar _ k5;have hir:=((AI _).1 k5).2 i hi (by omega)
   have AR:b<w.heap.size:=(Fy.1 k2).1;refine⟨cur.toList[i],k4 _ (JB _),⟨AR,?_⟩,hir⟩;rw[Oc];have:cur[i]?=some cur.toList[i]:=by rw[←G4];exact AO _
   simp[Om,k2,this]
theorem Ak.uD{f:FuncId}{as as':List AV}{v:AV}{K:AV→KK}(Ba:H[0]?=some (.inv (Gh e0 ts)))(hv:Zq H ts as as')(LF:Aw P f as' (λr=>r=v))(hm:Bi v=true)(hk:K v E H):Ak P f as E H K X:=by
 refine⟨LF.Ed,λG C mu a w vs hP Ah hr=>?_⟩
 obtain⟨Sw,Sr,hf,hJ,key⟩:=Ah.owner Ba;obtain⟨lT,vX⟩:dI e0 ts Sw Sr w:=hJ;refine(LF.out (Df w) w vs (MF Ah) (Ua Ah lT hf.lt hv hr)).mono λe w' ⟨r,u,h1,h2,h3,h4⟩=>?_
 subst h2;exact .inl ⟨r,u,E,H,_,mu,h1,hk,Ah.below h3,A9 _ hm h4⟩
end
section
variable {G:Cx}{C:Ag}{w:World}{mu:Mu}{H:List HO}{E:List AV}{a:Act}{P:Program}
def LN:AV→AV
 |.lit b=>.bool b
 |.raw (.slice none 0 0)=>.sl 1 []
 |x=>x
def DN:AV→AV
 |.agg cs=>.agg (cs.map LN)
 |x=>LN x
theorem jB{x:AV}{v:Value}(h:Aj C w x mu v):Aj C w (LN x) mu v:=by
 unfold LN;split;·unfold Aj at*;exact h
 ·unfold Aj at*;exact .inl ⟨⟨none,h⟩,rfl⟩
 ·exact h
theorem RX:∀{cs:List AV}{vs:List Value},Aa C w cs mu vs→Aa C w (cs.map LN) mu vs
 |[],_,h=>h
 |c::cs,vs,h=>by
  simp only[J6];unfold Aa at h⊢;obtain⟨v,us,rfl,h1,h2⟩:=h;exact⟨v,us,rfl,jB h1,RX h2⟩
theorem Pw(x:AV):(DN x).cells=x.cells.map LN:=by
 cases x with
 |agg cs=>rfl
 |lit b=>rfl
 |raw v=>
  simp only[DN];unfold LN;split<;>simp_all[AV.cells,LN]
 |_=>rfl
theorem aK(es:List AV):flat (es.map DN)=(flat es).map LN:=by
 induction es with
 |nil=>rfl
 |cons x es ih=>
  rw[show flat (x::es)=x.cells++flat es from by simp[flat],H4,←ih,←Pw]
  simp[flat]
theorem Az.DN(Ah:Az G C mu E H a w)(l:Nat){e:TypeId}{sz:Nat}{es:List AV}(hl:H[l]?=some (.arr e sz es)):Az G C mu E (H.set l (.arr e sz (es.map Av.DN))) a w:=by
 have AR:l<H.length:=(Ao.1 hl).1
 have hg:∀{k:Nat}{ob:HO},(H.set l (.arr e sz (es.map Av.DN)))[k]?=some ob→(k=l∧ob=.arr e sz (es.map Av.DN))∨H[k]?=some ob:=λ{k ob} hk=>by
  by_cases MB:k=l
  ·subst MB;rw[Ff AR]at hk;exact .inl ⟨rfl,(E4.inj hk).symm⟩
  ·rw[D6 (λe=>MB e.symm)]at hk;exact .inr hk
 have HW:∀{k:Nat}{ob:HO},(H.set l (.arr e sz (es.map Av.DN)))[k]?=some ob→(∀e sz es,ob≠.arr e sz es)→H[k]?=some ob:=λ{k ob} hk Bu=>by
  rcases hg hk with⟨_,h⟩|h;·exact absurd h (Bu _ _ _)
  ·exact h
 refine⟨Ah.c0,Ah.c1,Ah.lt,⟨λi g hi=>by simpa using Ah.heap.HH i g hi,Ah.heap.fresh,Ah.heap.sep,λk hk=>Ah.heap.dead k (HW hk (by intros;simp)),λk cs hk=>Ah.heap.Cm k cs (HW hk (by intros;simp)),λk e' BD Cf hk=>?_,λk ks vs hk=>Ah.heap.maps k ks vs (HW hk (by intros;simp))⟩,Ah.env,?_,Ah.Aq,by simpa using Ah.CA.1,Ah.CA.2⟩
 ·rcases hg hk with⟨rfl,h⟩|h
  ·cases h;obtain⟨k1,k2⟩:=Ah.heap.BJ k e sz es hl;refine⟨λx hx=>?_,?_⟩
   ·obtain⟨y,hy,rfl⟩:=Kh.1 hx;have:=k1 y hy;rw[Pw,Gj];exact this
   ·rcases k2 with⟨k2,rfl⟩|⟨b,cap,cur,k2,k3,k4,k5,k6,k7,k8⟩;·exact .inl ⟨k2,rfl⟩
    ·refine .inr ⟨b,cap,cur,by rw[Gj];exact k2,k3,by rw[Gj];exact k4,k5,k6,?_,k8⟩
     rw[Gj];exact(by rw[aK];exact RX k7)
  ·exact Ah.heap.BJ k e' BD Cf h
 ·obtain⟨ms,d1,d2⟩:=Ah.defers
  exact⟨ms,d1,⟨λk cs' vs gm hk=>d2.Bc k cs' vs gm (HW hk (by intros;simp)),λk I hk=>by
   obtain⟨h0,Sw,Sr,q1,q2,q3,q4⟩:=d2.Gx k I (HW hk (by intros;simp))
   exact⟨h0,Sw,Sr,q1,q2,q3,λk' cs' vs gm Hc=>q4 k' cs' vs gm (HW Hc (by intros;simp))⟩,d2.marks,d2.nd,λk k' cs' vs gm cs2 sW gm2 hk Hc=>d2.sep k k' cs' vs gm cs2 sW gm2 (HW hk (by intros;simp)) (HW Hc (by intros;simp))⟩⟩
theorem Ak.DN(l:Nat){f:FuncId}{args:List AV}{e:TypeId}{sz:Nat}{es Cf:List AV}{K:AV→KK}{X:XX}(hl:H[l]?=some (.arr e sz es))(he:es.map Av.DN=Cf)(h:Ak P f args E (H.set l (.arr e sz Cf)) K X):Ak P f args E H K X:=by
 subst he;exact⟨h.Ed,λG C mu a w vs hP Ah hr=>h.out G C mu a w vs hP (Ah.DN l hl) hr⟩
theorem Ac.Zcw(t sz:Nat){c:Code}{K:KK}{X:XX}(he:E[t]?=some (.raw (.slice none 0 0)))(h:Ac P c (E.set t (.sl sz [])) H K X):Ac P c E H K X:=by
 refine⟨λn G a w hP Ah=>?_⟩
 obtain⟨C,mu,Ah⟩:=Ah;refine h.out n G a w hP ⟨C,mu,Ah.frame ?_ rfl⟩;obtain⟨h1,h2⟩:=(AI _).1 Ah.env;refine(AI _).2 ⟨by simpa using h1,λi hi EY=>?_⟩
 have hiE:i<E.length:=by simpa using hi
 by_cases hti:t=i
 ·subst hti;rw[List.getElem_set_self];have:=h2 t hiE EY;rw[AO hiE]at he;rw[E4.inj he]at this;unfold Aj at this⊢;exact .inl ⟨⟨none,this⟩,rfl⟩
 ·rw[List.getElem_set_ne hti];exact h2 i hiE EY
end
section
variable {G:Cx}{C:Ag}{w:World}{mu:Mu}{H:List HO}{E:List AV}{a:Act}{P:Program}{T:List TY}{K:KK}{X:XX}
theorem Wv(w:World)(cur:Array Value)(e:TypeId):(w.alloc (.cells cur e)).freeze ⟨w.heap.size,cur.size,none⟩ 1=w.alloc (.cells cur e (cur.size,cur.size+1)):=by
 have h1:∀o:Obj,(w.alloc o).heap=w.heap.push o:=λo=>rfl
 unfold World.freeze;simp only[Nat.one_ne_zero,if_false]
 have h2:(w.alloc (.cells cur e)).heap.modify w.heap.size (λ
   |.cells c elem (lo,hi)=>.cells c elem (if lo == hi then (cur.size,cur.size+1)else (min lo cur.size,max hi (cur.size+1)))
   |o=>o)=w.heap.push (.cells cur e (cur.size,cur.size+1)):=by
  rw[h1];apply Array.ext_getElem?;intro i;rw[MW];by_cases hi:w.heap.size=i
  ·subst hi;simp
  ·rw[if_neg hi,O4,O4];simp[Ne.symm hi]
 exact congrArg (λh=>{w.alloc (.cells cur e)with heap:=h}) h2
def obK(T:List TY)(E:List AV)(H:List HO)(s d:TypeId)(x:Operand)(K:AV→KK):Prop:=
 B6 T s λys=>B6 T d λyd=>Dc E x λv=>match ys.k,yd.k with
  |.string,.slice e Bh _ _=>(match v with
   |.str l=>(match L6 Bh 1 with
    |true=>B6 T e λye=>(match ye.k with
     |.int .u8=>K (.own H.length 1 0 l.length) E (H++[.arr e 1 (l.map λb=>.int .u8 b.toNat)])
     |_=>False)
    |false=>False)
   |_=>False)
  |_,_=>False
theorem Zcv(hT:BL G.P T)(h:Az G C mu E H a w){s d:TypeId}{x:Operand}{K:AV→KK}(hk:obK T E H s d x K):Gn G a w K (convert s d (a.eval x)):=by
 unfold obK at hk;replace hk:=(Ab _ _ _).1 hk;obtain⟨ys,xP,hk⟩:=hk
 replace hk:=(Ab _ _ _).1 hk;obtain⟨yd,xQ,hk⟩:=hk
 rw[Af]at hk;have Qw:=AT h.env x;split at hk;case h_2=>exact hk.elim
 rename_i e Bh by' ag h1 h2
 have Y6:=hT.string xP h1;obtain⟨hud,Eh,vQ,_⟩:=hT.slice xQ h2;split at hk;case h_2=>exact hk.elim
 rename_i l Yb;rw[Yb]at Qw;obtain⟨sH,bI⟩:=Bt Qw;split at hk;case h_2=>exact hk.elim
 rename_i hb;obtain rfl:=F0 hb;replace hk:=(Ab _ _ _).1 hk;obtain⟨ye,PH,hk⟩:=hk
 split at hk;case h_2=>exact hk.elim
 rename_i vK;have Wz:=hT.int PH vK;rw[sH]
 obtain⟨w1,cap,hch,Ah,EM,hcm⟩:∃w1 cap,(choose (.appendCap l.length 0 e)).run G.P w=.ok cap w1∧Az G C mu E H a w1∧(l.length≤cap∨l.length=0)∧cap≤9223372036854775807:=by
  rw[run_choose];split
  ·rename_i hf;refine⟨w,0,rfl,h,?_,by omega⟩
   simp[Question.forced]at hf
  ·refine⟨w.drew,_,rfl,h.drew,.inl ?_,?_⟩;·exact grownCap_ge w l.length 0 e
   ·exact J2 (grownCap_le_maxLen w l.length 0 e (by simp only[maxLen];omega)) (by simp[maxLen])
 have fL:l.length≤cap:=by omega
 obtain⟨cur,hcd⟩:∃c:Array Value,(l.toArray.map λb=>Value.int .u8 b.toNat)++G1 (cap-l.length) (.int .u8 0)=c:=⟨_,rfl⟩
 have Yo:cur.size=cap:=by rw[←hcd];simp;omega
 have EN:(w1.alloc (.cells cur e)).heap[w1.heap.size]?=some (.cells cur e (0,0)):=heap_alloc_new _ _;have bD:(w1.alloc (.cells cur e)).shape? w1.heap.size=some (e,cur.size):=by unfold World.shape?;rw[EN]
 have IJ:cur.toList=(l.map λb=>Value.int .u8 b.toNat)++J5 (cap-l.length) (.int .u8 0):=by rw[←hcd];simp
 have TR:∀v∈cur.toList,v.oneCell'=true:=λv hv=>by
  rw[IJ]at hv;rcases It.1 hv with hv|hv
  ·obtain⟨b,_,rfl⟩:=Kh.1 hv;rfl
  ·rw[List.eq_of_mem_replicate hv];rfl
 have Sx:∀l:List UInt8,Aa C w1 (l.map λb=>AV.int .u8 b.toNat) (Bb mu) (l.map λb=>Value.int .u8 b.toNat):=λl=>by
  induction l with
  |nil=>unfold Aa;rfl
  |cons b l ih=>
   simp only[J6];unfold Aa;refine⟨_,_,rfl,?_,ih⟩;unfold Aj;exact⟨rfl,pE.2 ⟨by omega,by have:=b.toNat_lt;omega⟩⟩
 have m:=Ah.alloc (.cells cur e (cur.size,cur.size+1)) (.arr e 1 (l.map λb=>.int .u8 b.toNat)) (Ww H _) (.arr (.slice (some ⟨w1.heap.size,0,none⟩) l.length cap)) (by simp[GO.As]) (by simp) (by simp) (λe' BD Cf yO=>by
  simp only[HO.arr.injEq]at yO;obtain⟨rfl,rfl,rfl⟩:=yO;refine⟨λy hy=>?_,cap,cur,by simp,⟨_,rfl,.inr rfl⟩,by simpa using fL,hcm,by simpa using Yo,?_,TR⟩
  ·obtain⟨b,_,rfl⟩:=Kh.1 hy;rfl
  ·rw[SV,IJ];simp only[Gj,Nat.mul_one];rw[Qv (by simp)]
   exact Sx l)
 refine⟨_,.slice (some ⟨w1.heap.size,0,none⟩) l.length cap,_,_,_,_,_,hk,?_,m,?_⟩
 ·simp only[convert,JA,run_underlying Y6,run_underlying hud,run_underlying Wz,G2,Conv.stringToBytes,DZ,hch];simp only[hcd,newRow,markStringish,JA,run_newObj,World.alloc_eq,Mq,G2,run_shape,bD,run_freeze,Wv]
 ·unfold Aj;exact⟨_,Mu.Au _ _ _,by simp[Da],by simp only[Da,Jx];exact⟨fL,hcm⟩,by simp[BP]⟩
def ZU(P:Program)(T:List TY)(ops:List Oper)(own:List Nat):Nat→List Oper→List AV→List HO→KK→XX→Prop
 |_,[],E,H,K,_=>K E H
 |k,o::r,E,H,K,X=>match A4 own k with
  |true=>(match o.guard,o.op with
   |none,.convert s d x=>obK T E H s d x λv E' H'=>Bx E' o.dst v λHp=>ZU P T ops own (k+1) r Hp H' K X
   |_,_=>False)
  |false=>vY ops E o.guard
   (λE=>RJ none P T E H o.op (λv E' H'=>Bx E' o.dst v λHp=>ZU P T ops own (k+1) r Hp H' K X) X)
   (λE=>Bx E o.dst (.raw undef) λE'=>ZU P T ops own (k+1) r E' H K X)
theorem IY(hT:BL G.P T){r:Option Nat}{n:Nat}{ops:Array Oper}{own:List Nat}:∀(l:List Oper){k:Nat}{C:Ag}{mu:Mu}{E:List AV}{H:List HO}{a:Act}{w:World},ZU G.P T ops.toList own k l E H K X→Az G C mu E H a w→wpListIn (fw r) n G.P ops (Ln G K X) l a w
 |[],_,_,_,_,_,_,_,h,Ah=>⟨_,_,h,_,_,Ah⟩
 |o::l,k,C,mu,E,H,a,w,h,Ah=>by
  unfold ZU at h;unfold wpListIn;split at h
  ·split at h
   ·rename_i s d x hg ho;rw[if_pos (by simp[M3,hg])]
    obtain⟨v,u,E',H',C',mu',w',h1,h2,h3,h4⟩:=Zcv hT Ah h
    have hwp:o.wp G.P a w (λa' w'=>wpListIn (fw r) n G.P ops (Ln G K X) l a' w') (Ln G K X):=by
     refine AL (G:=G) (o:=o) (X:=X) (Q:=K) (K:=λv E' H'=>Bx E' o.dst v λHp=>ZU G.P T ops.toList own (k+1) l Hp H' K X) (λa' w' hp=>?_) h1 (A0 (by simp[execOp,ho]) h2) h3 h4
     obtain⟨y,E2,H2,k1,C2,Y5,k2⟩:=hp;rw[Ax]at k1;exact IY hT l k1 k2
    exact BE (λc hc=>by rw[ho]at hc;cases hc) hwp
   ·exact h.elim
  ·rcases Hd rfl Ah h with⟨hw,E',h1,h2⟩|⟨hw,E',h1,h2⟩
   ·rw[if_pos hw];refine DM hT h1 h2 λa' w' hp=>?_
    obtain⟨x,Hp,H',h3,C',mu',h4⟩:=hp;rw[Ax]at h3;exact IY hT l h3 h4
   ·rw[if_neg (by simp[hw])]
    rw[Ax]at h1;exact⟨λ_ _=>trivial,IY hT l h1 (h2.frame (Be h2.env o.dst (by unfold Aj;rfl)) (put_defers _ _ _))⟩
theorem Ac.zP(own:List Nat)(hT:BL P T){id:Nat}{ops:Array Oper}(h:ZU P T ops.toList own 0 ops.toList E H K X):Ac P (.region id ops false) E H K X:=by
 refine⟨λn G a w hP Ah=>?_⟩
 obtain⟨C,mu,Ah⟩:=Ah;subst hP;exact wpIn_region_list (IY hT _ h Ah)
end
def oI:Inv where
 J:=λ_ _ _=>True
 LW:=λ_ _ _ _ _ _=>trivial
 Cb:=λ_ _=>True
 nb:=0
def wrP(b:Nat):Value:=.pointer (some ⟨b,0,none⟩)
section
variable {G:Cx}{C C':Ag}{w w':World}{mu:Mu}{H:List HO}{E:List AV}{a:Act}{Ts:List TY}{P:Program}{K:KK}{X:XX}{T e:TypeId}{b:Nat}{bs out:List UInt8}
theorem Az.Zai(h:Az G C mu E [] a w):Az G C mu E [.inv oI] a w:=by
 obtain⟨ms,d1,d2⟩:=h.defers
 have one:∀{l:Nat}{y:HO},[HO.inv oI][l]?=some y→l=0∧y=.inv oI:=λ{l y} hl=>by
  cases l with
  |zero=>simp at hl;exact⟨rfl,hl.symm⟩
  |succ l=>simp at hl
 have Mz:∀l g,mu l≠some g:=λl g hl=>by have:=h.heap.HH l g hl;simp at this
 refine⟨h.c0,h.c1,h.lt,⟨λl g hl=>absurd hl (Mz l g),λl g b hl=>absurd hl (Mz l g),λl g b l' g' hl=>absurd hl (Mz l g),λl hl=>?_,λl cs hl=>?_,λl e sz es hl=>?_,λl ks vs hl=>?_⟩,h.env,
  ⟨ms,d1,λl cs us Ds hl=>?_,λl I hl=>?_,d2.marks,d2.nd,λl l' cs vs ms cs' BV Ds hl=>?_⟩,h.Aq,J2 h.CA.1 (Ol _),h.CA.2⟩
 ·cases (one hl).2
 ·cases (one hl).2
 ·cases (one hl).2
 ·cases (one hl).2
 ·cases (one hl).2
 ·obtain⟨h0,h1⟩:=one hl;simp only[HO.inv.injEq]at h1;subst h1;exact⟨h0,λ_=>False,λ_=>False,⟨λb hb=>hb.elim,Ol _,λ_ _ _=>.inl trivial,λl g b hl=>absurd hl (Mz l g),λ_ h=>h,λ_ h=>h.elim,λ_ h=>h.elim,λ_ _ h=>h.elim⟩,trivial,λ_ _ h=>h,λ_ _ _ _ _ _ _ h=>h⟩
 ·cases (one hl).2
theorem Ac.Zai{c:Code}(h:Ac P c E [.inv oI] K X):Ac P c E [] K X:=
 ⟨λn G a w hP ⟨C,mu,Ah⟩=>h.out n G a w hP ⟨C,mu,Ah.Zai⟩⟩
end
def Le(x y:AV):Prop:=∀(C:Ag)(w:World)(mu:Mu)(v:Value),Aj C w x mu v→Aj C w y mu v
inductive Les:List AV→List AV→Prop
 |nil:Les [] []
 |cons {x y:AV} {xs ys:List AV}:Le x y→Les xs ys→Les (x::xs) (y::ys)
theorem Le.refl(x:AV):Le x x:=λ_ _ _ _ h=>h
theorem Le.nil(sz:Nat):Le (.raw (.slice none 0 0)) (.sl sz []):=λ_ _ _ _ h=>by
 unfold Aj at*;exact .inl ⟨⟨none,h⟩,rfl⟩
theorem Les.Zco{C:Ag}{w:World}{mu:Mu}{xs ys:List AV}(h:Les xs ys):∀{vs:List Value},Aa C w xs mu vs→Aa C w ys mu vs:=by
 induction h with
 |nil=>exact λh=>h
 |cons h1 _ ih=>
  intro vs h;unfold Aa at h⊢;obtain⟨v,BV,k1,k2,k3⟩:=h;exact⟨v,BV,k1,h1 _ _ _ _ k2,ih k3⟩
theorem Le.agg{xs ys:List AV}(h:Les xs ys):Le (.agg xs) (.agg ys):=λ_ _ _ _ k=>by
 unfold Aj at*;obtain⟨vs,k1,k2⟩:=k;exact⟨vs,k1,h.Zco k2⟩
theorem Aw.Wu{P:Go.Program}{f:Nat}{args args':List AV}{R:AV→Prop}(hl:Les args args')(h:Aw P f args' R):Aw P f args R:=
 ⟨h.Ed,λC w vs h1 h2=>h.out C w vs h1 (hl.Zco h2)⟩
section
variable {P:Program}{T:List TY}{E:List AV}{H:List HO}{K:KK}{X:XX}
def mT:Code→Bool
 |.region _ _ false=>true
 |.cond _ _ _=>true
 |.block _ _=>true
 |.scope _=>true
 |.skip=>true
 |.label _=>true
 |.exit _=>true
 |.ret=>true
 |.seq _ _=>true
 |_=>false
def xF(P:Program)(T:List TY)(E:List AV)(H:List HO)(K:KK)(X:XX):Code→Prop
 |.region _ ops false=>Xo P T ops.toList ops.toList E H K X
 |.cond c x y=>Dc E c λv=>match v with
  |.lit t=>(match t with|true=>Ac P x E H K X|false=>Ac P y E H K X)
  |.bool t=>(t=true→Ac P x E H K X)∧(t=false→Ac P y E H K X)
  |_=>False
 |.block id b=>Ac P b E H K λe E H=>match e with
  |.exit i=>(match L6 i id with|true=>K E H|false=>X (.exit i) E H)
  |.ret=>X .ret E H
  |.panic x=>X (.panic x) E H
 |.scope b=>Ac P b E H K X
 |.skip=>K E H
 |.label _=>K E H
 |.exit id=>X (.exit id) E H
 |.ret=>X .ret E H
 |.seq x y=>Ac P x E H (λE H=>Ac P y E H K X) X
 |_=>False
theorem Ac.st{c:Code}(hT:BL P T)(hb:mT c=true)(h:xF P T E H K X c):Ac P c E H K X:=by
 unfold mT at hb;split at hb;·exact Ac.xG hT h
 ·exact Ac.zS h
 ·exact Ac.tK h
 ·exact Ac.tI h
 ·exact Ac.zO h
 ·exact Ac.tJ h
 ·exact Ac.zR h
 ·exact Ac.Zcl h
 ·exact Ac.seq h
 ·cases hb
end
section
variable {G:Cx}{C:Ag}{w w':World}{mu:Mu}{H:List HO}{E:List AV}{a:Act}{P:Program}
def Zcj(H:List HO)(x y:AV):Prop:=(closed x=true∧y=x)∨∃l cs,x=.ptr l 0∧H[l]?=some (.cells cs)∧Ap cs=true∧y=.at_ cs
def Jp(H:List HO):List AV→List AV→Prop
 |[],[]=>True
 |x::xs,y::ys=>Zcj H x y∧Jp H xs ys
 |_,_=>False
theorem Jp.ptr{l:Nat}{cs:List AV}{xs ys:List AV}(hl:H[l]?=some (.cells cs))(hc:Ap cs=true)(h:Jp H xs ys):Jp H (.ptr l 0::xs) (.at_ cs::ys):=⟨.inr ⟨l,cs,rfl,hl,hc,rfl⟩,h⟩
def Zs(C:Ag)(mu:Mu)(H:List HO):Ag:=λb o=>C b o∨∃l cs,H[l]?=some (.cells cs)∧mu l=some (.CU b)
theorem Q7:Ext C (Zs C mu H) w w:=⟨λ_ _ h=>.inl h,λ_ _ _=>rfl⟩
theorem sY(h:Az G C mu E H a w):∀b o,Zs C mu H b o→b<w.heap.size:=λb o hb=>by
 rcases hb with hb|⟨l,cs,hl,hm⟩;·exact h.lt b o hb
 ·exact(h.heap.fresh l _ b hm rfl).2.1
theorem tH(h:Az G C mu E H a w){x y:AV}{v:Value}(hs:Zcj H x y)(hr:Aj C w x mu v):Aj (Zs C mu H) w y Mu.none v:=by
 rcases hs with⟨hc,rfl⟩|⟨l,cs,rfl,hl,hc,rfl⟩;·exact Aj.mono Q7 _ (Ay.refl _) (A6 _ hc hr)
 ·obtain⟨b,cur,e,k1,k2,k3,k4⟩:=h.heap.Cm l cs hl;unfold Aj at hr;obtain⟨b',k5,rfl⟩:=hr;rw[k1]at k5;simp only[E4.injEq,GO.CU.injEq]at k5;subst k5;unfold Aj;refine⟨b,0,rfl,(Co _ _).2 λi hi=>?_⟩
  obtain⟨hlen,Sx⟩:=(AI _).1 (Aa.mono (Q7 (mu:=mu) (H:=H)) _ (Ay.refl _) (A1 _ hc k3));have EY:i<cur.toList.length:=by omega
  refine⟨cur.toList[i],k4 _ (JB EY),⟨.inr ⟨l,cs,hl,k1⟩,?_⟩,Sx i hi EY⟩;rw[Oc];have hci:cur[i]?=some cur.toList[i]:=by simp at EY;simp[EY]
  simp[Om,k2,hci]
theorem Xa(h:Az G C mu E H a w):∀{xs ys:List AV}{vs:List Value},Jp H xs ys→Aa C w xs mu vs→Aa (Zs C mu H) w ys Mu.none vs
 |[],[],_,_,hr=>by unfold Aa at*;exact hr
 |x::xs,y::ys,_,hs,hr=>by
  unfold Aa at hr⊢;obtain⟨v,BV,rfl,h2,h3⟩:=hr;exact⟨v,BV,rfl,tH h hs.1 h2,Xa h hs.2 h3⟩
 |[],_::_,_,hs,_=>hs.elim
 |_::_,[],_,hs,_=>hs.elim
def xK(r:AV):Prop:=Bi r=true∨∃ks vs,r=.mp ks vs∧Ct ks=true∧Ct vs=true
theorem tU(h:Az G C mu E H a w)(hb:Below w.heap.size w w'){r:AV}{v:Value}(ho:xK r)(hr:Aj (Kc (Zs C mu H) w.heap.size w'.heap.size) w' r Mu.none v):Aj (Kc C w.heap.size w'.heap.size) w' r mu v:=by
 rcases ho with ho|⟨ks,vs,rfl,hk,hv⟩;·exact A9 _ ho hr
 ·unfold Aj at hr⊢;rcases hr with hr|⟨b,es,clock,h1,h2,h3,h4,h5⟩;·exact .inl hr
  ·refine .inr ⟨b,es,clock,h1,?_,h3,Cj _ hk h4,Cj _ hv h5.1,h5.2⟩;rcases h2 with (h2|⟨l,cs,hl,hm⟩)|h2;·exact .inl h2
   ·obtain⟨b',cur,e,k1,k2,_⟩:=h.heap.Cm l cs hl;rw[hm]at k1;simp only[E4.injEq,GO.CU.injEq]at k1;subst k1;rw[hb.block b (h.heap.fresh l _ b hm rfl).2.1,k2]at h3;cases h3
   ·exact .inr h2
theorem Ak.K4{f:FuncId}{args args':List AV}{R:AV→Prop}{K:AV→KK}{X:XX}(hc:Aw P f args' R)(hs:Jp H args args')(hk:∀r,R r→xK r∧K r E H):Ak P f args E H K X:=by
 refine⟨hc.Ed,λG C mu a w us hP Ah hr=>?_⟩
 have ZfL:Zh (Zs C mu H) w:=Ah.Ze.mono Q7 (sY Ah)
 exact(hc.out (Zs C mu H) w us.toArray.toList ZfL (by simpa using Xa Ah hs hr)).mono λe w' ⟨r,u,k1,k2,k3,k4⟩=>by
  obtain⟨ho,hK⟩:=hk r k2;exact .inl ⟨r,u,E,H,_,mu,k1,hK,Ah.below k3,tU Ah k3 ho k4⟩
end
open Go.ChangeMaps (setBlock)
def Hj(es:Array MapEntry)(i:Nat):Nat:=match es[i]? with|some e=>e.born|none=>0
def ItJ(ks vs:List AV)(r:Nat)(d:List Nat)(Sw Sr:Nat→Prop)(w:World):Prop:=
 (Sw r∧Sr r)∧((ks=[]∧vs=[]∧d=[]∧w.heap[r]?=some (.mapIter none 0 #[] 0))∨
  ∃m es clock seen,Sr m∧w.heap[m]?=some (.map es clock)∧w.heap[r]?=some (.mapIter (some m) clock seen clock)∧E8 es.toList clock∧
   (∀(C:Ag)(w':World),Aa C w' ks Mu.none (es.toList.map MapEntry.key)∧Aa C w' vs Mu.none (es.toList.map MapEntry.val))∧
   seen.toList=d.map (Hj es)∧(∀i∈d,i<es.size)∧d.Nodup)
def sS(ks vs:List AV)(r:Nat)(d:List Nat):Inv where
 J:=ItJ ks vs r d
 LW:=λSw Sr w w' ⟨h0,h⟩ hs=>⟨h0,h.imp (λ⟨h1,h2,h3,h4⟩=>⟨h1,h2,h3,(hs.block r h0.2).trans h4⟩) λ⟨m,es,clock,seen,h1,h2,h3,h4⟩=>⟨m,es,clock,seen,h1,(hs.block m h1).trans h2,(hs.block r h0.2).trans h3,h4⟩⟩
 Cb:=λ_ _=>True
 nb:=0
theorem dB{es:Array MapEntry}(hn:(es.toList.map (·.born)).Nodup){i j:Nat}(hi:i<es.size)(hj:j<es.size)(h:Hj es i=Hj es j):i=j:=by
 unfold Hj at h;rw[J1 hi,J1 hj]at h;simp only at h;have h1:(es.toList.map (·.born))[i]'(by simpa using hi)=(es.toList.map (·.born))[j]'(by simpa using hj):=by simpa using h
 rcases Nat.lt_trichotomy i j with N4|N4|N4;·exact absurd h1 (Og.1 hn i j _ _ N4)
 ·exact N4
 ·exact absurd h1.symm (Og.1 hn j i _ _ N4)
theorem XS{es:Array MapEntry}{clock:Nat}(hb:E8 es.toList clock){seen:Array Nat}{d:List Nat}(hs:seen.toList=d.map (Hj es))(hd:∀i∈d,i<es.size)(i:Nat)(hi:i<es.size):es[i]∈(leftOf es seen).toList↔i∉d:=by
 have hm:seen.contains es[i].born=true↔i∈d:=by
  rw[Array.contains_iff_mem,←Array.mem_toList_iff,hs,Kh];have hbi:Hj es i=es[i].born:=by unfold Hj;rw[J1 hi]
  constructor
  ·rintro⟨j,hj,e⟩;rw[←hbi]at e;rw[←dB hb.2 (hd j hj) hi e];exact hj
  ·intro h;exact⟨i,h,hbi⟩
 unfold leftOf;simp only[Pl,Qx,Array.getElem_mem_toList,true_and];rw[Lx,←Bool.not_eq_true,hm]
section
variable {G:Cx}{C:Ag}{w w':World}{mu:Mu}{H:List HO}{E:List AV}{a:Act}{T:List TY}{P:Program}
theorem Az.Nn(h:Az G C mu E H a w){I:Inv}(Ba:H[0]?=some (.inv I))(hCb:I.Cb=oI.Cb)(lP:I.nb=oI.nb):Az G C mu E (H.set 0 (.inv oI)) a w:=by
 obtain⟨Sw,Sr,hf,hJ,key⟩:=h.RI Ba;exact key oI w Sw Sr hCb.symm lP.symm ⟨rfl,rfl,rfl,Lt _,λ_ _=>rfl⟩ (λ_ h=>.inl h) (λ_ h=>.inl (.inl h)) hf.sub hf.lt trivial
theorem Ac.Nn{ks vs:List AV}{r:Nat}{d:List Nat}{c:Code}{K:KK}{X:XX}(Ba:H[0]?=some (.inv (sS ks vs r d)))(h:Ac P c E (H.set 0 (.inv oI)) K X):Ac P c E H K X:=
 ⟨λn G a w hP ⟨C,mu,Ah⟩=>h.out n G a w hP ⟨C,mu,Ah.Nn Ba rfl rfl⟩⟩
def Sg(T:List TY)(E:List AV)(H:List HO)(o:Op)(K:AV→KK):Prop:=
 match o with
 |.range t x=>B6 T t λy=>match y.k with
  |.map _ _=>(match AM E x with
   |.mp ks vs=>(Ct ks=true∧Ct vs=true)∧H[0]?=some (.inv oI)∧∀r,K (.raw (wrP r)) E (H.set 0 (.inv (sS ks vs r [])))
   |_=>False)
  |_=>False
 |_=>False
def V1(E:List AV)(H:List HO)(o:Op)(K:AV→KK):Prop:=
 match o with
 |.next it false=>∃ks vs r d,AM E it=.raw (wrP r)∧H[0]?=some (.inv (sS ks vs r d))∧(d.length=ks.length→K (.tuple [.lit false]) E H)∧
   ∀i k v,i∉d→ks[i]?=some k→vs[i]?=some v→K (.tuple [.lit true,k,v]) E (H.set 0 (.inv (sS ks vs r (d++[i]))))
 |_=>False
def Sh(E:List AV)(H:List HO)(o:Op)(K:AV→KK):Prop:=
 match o with
 |.entry it=>∃ks vs r d i k v,AM E it=.raw (wrP r)∧H[0]?=some (.inv (sS ks vs r (d++[i])))∧ks[i]?=some k∧vs[i]?=some v∧K (.tuple [k,v]) E H
 |_=>False
theorem aX(hT:BL G.P T)(h:Az G C mu E H a w){t:TypeId}{x:Operand}{K:AV→KK}(hk:Sg T E H (.range t x) K):Gn G a w K (Instr.range t (a.eval x)):=by
 unfold Sg at hk;simp only at hk;replace hk:=(Ab _ _ _).1 hk;obtain⟨y,hy,hk⟩:=hk
 split at hk;case h_2=>exact hk.elim
 rename_i kt vt V5;have hu:=hT.map hy V5;have hx:=AT h.env x;split at hk;case h_2=>exact hk.elim
 rename_i ks vs jZ;obtain⟨⟨UZ,hmv⟩,Ba,hk⟩:=hk;rw[jZ]at hx;unfold Aj at hx;obtain⟨Sw,Sr,hf,hJ,key⟩:=h.RI Ba;rcases hx with⟨h1,rfl,rfl⟩|⟨m,es,clock,h1,h2,h3,h4,h5,h6⟩
 ·refine⟨_,_,_,_,_,_,_,hk w.heap.size,by rw[h1];exact run_range_nilMap w t _ _ hu,key (sS [] [] w.heap.size []) (w.alloc (.mapIter none 0 #[] 0)) (λk=>k=w.heap.size) (λk=>k=w.heap.size) rfl rfl
   ⟨rfl,rfl,rfl,by simp,λk hk=>heap_alloc_old w _ hk.1⟩ (λk hk=>.inr (by omega)) (λk hk=>.inl (.inr (by omega))) (λ_ h=>h) (λk hk=>by subst hk;simp)
   ⟨⟨rfl,rfl⟩,.inl ⟨rfl,rfl,rfl,heap_alloc_new w _⟩⟩,by unfold Aj;rfl⟩
 ·have Zfi:=h.lt m 0 h2
  refine⟨_,_,_,_,_,_,_,hk w.heap.size,by rw[h1];exact run_range_map w t _ _ m es clock hu h3,key (sS ks vs w.heap.size []) (w.alloc (.mapIter (some m) clock #[] clock)) (λk=>k=w.heap.size) (λk=>k=w.heap.size∨k=m) rfl rfl
   ⟨rfl,rfl,rfl,by simp,λk hk=>heap_alloc_old w _ hk.1⟩ (λk hk=>.inr (by omega)) (λk hk=>hk.elim (λe=>.inl (.inr (by omega))) λe=>.inr ⟨0,by rw[e];exact h2⟩) (λ_ h=>.inl h) (λk hk=>by rcases hk with rfl|rfl<;>simp<;>omega)
   ⟨⟨rfl,.inl rfl⟩,.inr ⟨m,es,clock,#[],.inr rfl,by rw[heap_alloc_old w _ Zfi];exact h3,heap_alloc_new w _,h6,λC' w'=>⟨Cj _ UZ h4,Cj _ hmv h5⟩,rfl,λi hi=>(by cases hi),Lv⟩⟩,by unfold Aj;rfl⟩
theorem IW{C:Ag}{w:World}{mu:Mu}{xs:List AV}{us:List Value}(h:Aa C w xs mu us){i:Nat}{x:AV}{u:Value}(hx:xs[i]?=some x)(hu:us[i]?=some u):Aj C w x mu u:=by
 obtain⟨hi,rfl⟩:=Ao.1 hx;obtain⟨hj,rfl⟩:=Ao.1 hu;exact((AI _).1 h).2 i hi hj
theorem jO(h:Az G C mu E H a w){it:Operand}{ty:TypeId}{K:AV→KK}(hk:V1 E H (.next it false) K):Gn G a w K (Instr.next (a.eval it) false ty):=by
 unfold V1 at hk;simp only at hk;obtain⟨ks,vs,r,d,jZ,Ba,pW,bK⟩:=hk;have hx:=AT h.env it;rw[jZ]at hx;unfold Aj at hx;obtain⟨Sw,Sr,hf,hJ,key⟩:=h.RI Ba;obtain⟨⟨j1,j2⟩,hJ⟩:ItJ ks vs r d Sw Sr w:=hJ;rw[hx]
 have Zg4:H.set 0 (.inv (sS ks vs r d))=H:=by
  obtain⟨h0,e⟩:=Ao.1 Ba;apply Oh;intro i;by_cases hi:0=i;·subst hi;rw[Ff h0,Ba]
  ·rw[D6 hi]
 rcases hJ with⟨rfl,rfl,rfl,hr⟩|⟨m,es,clock,seen,j3,j4,j5,j6,j7,j8,j9,j10⟩
 ·refine⟨_,.tuple #[.bool false],_,_,C,mu,w,pW rfl,?_,h,by unfold Aj;exact⟨[.bool false],rfl,by unfold Aa;exact⟨_,_,rfl,Gt,by unfold Aa;rfl⟩⟩⟩
  simp only[wrP,Instr.next,getObj,JA,Sem.run,hr,Result.andThen];rfl
 ·have MB:ks.length=es.size:=by have:=Ar _ (j7 C w).1;simpa using this.symm
  have V7:vs.length=es.size:=by have:=Ar _ (j7 C w).2;simpa using this.symm
  rcases run_next_at (P:=G.P) w ty r m clock clock seen es clock j5 j4 (λx hx=>j6.1 x hx) (Lt _)with⟨h0,AZ⟩|⟨e,he,w1,Bj,AZ⟩
  ·have B7:∀i,i<es.size→i∈d:=λi hi=>by
    by_cases hid:i∈d;·exact hid
    ·have:=(XS j6 j8 j9 i hi).2 hid;have h0':(leftOf es seen).toList=[]:=Lu (by simpa using h0)
     rw[h0']at this;cases this
   have QA:d.length=es.size:=by
    have h1:d.length≤es.size:=by
     have:=List.Nodup.length_le_of_subset j10 (l₂:=OP es.size) λi hi=>Mo.2 (j9 i hi)
     simpa using this
    have h2:es.size≤d.length:=by
     have:=List.Nodup.length_le_of_subset (List.nodup_range (n:=es.size)) (l₂:=d) λi hi=>B7 i (Mo.1 hi)
     simpa using this
    omega
   exact⟨_,_,_,_,C,mu,w,pW (by omega),AZ,h,by unfold Aj;exact⟨[.bool false],rfl,by unfold Aa;exact⟨_,_,rfl,Gt,by unfold Aa;rfl⟩⟩⟩
  ·have hem:e∈es.toList:=by
    unfold leftOf at he;simp only[Pl,Qx]at he;exact he.1
   obtain⟨i,hi,hie⟩:=M1.1 hem;have EY:i<es.size:=by simpa using hi
   have Zdo:es[i]=e:=by simpa using hie
   have hid:i∉d:=(XS j6 j8 j9 i EY).1 (by rw[Zdo];exact he)
   have hki:ks[i]?=some ks[i]:=AO (by omega)
   have Tl:vs[i]?=some vs[i]:=AO (by omega)
   have hmr:m≠r:=λe=>by rw[e]at j4;rw[j4]at j5;cases j5
   have N5:∀b:Nat,w1.heap[b]?=w.heap[b]?:=λb=>by rcases Bj with h|h<;>rw[h]<;>rfl
   have yB:w1.heap.size=w.heap.size:=by rcases Bj with h|h<;>rw[h]<;>rfl
   have Ze4:r<w.heap.size:=hf.lt r j2
   have bE:(setBlock w1 r (.mapIter (some m) clock (seen.push e.born) clock)).heap[r]?=some (.mapIter (some m) clock (seen.push e.born) clock):=by
    simp[setBlock,yB,Ze4]
   have TQ:∀b,b≠r→(setBlock w1 r (.mapIter (some m) clock (seen.push e.born) clock)).heap[b]?=w.heap[b]?:=λb hb=>by
    rw[←N5 b];simp only[setBlock];rw[Array.getElem?_setIfInBounds_ne (Ne.symm hb)]
   have Eh:(setBlock w1 r (.mapIter (some m) clock (seen.push e.born) clock)).heap.size=w.heap.size:=by simp[setBlock,yB]
   refine⟨_,_,_,_,C,mu,_,bK i ks[i] vs[i] hid hki Tl,AZ,key (sS ks vs r (d++[i])) _ Sw Sr rfl rfl
    ⟨by rcases Bj with rfl|rfl<;>rfl,by rcases Bj with rfl|rfl<;>rfl,by rcases Bj with rfl|rfl<;>rfl,Nat.le_of_eq Eh.symm,λb hb=>TQ b λe=>hb.2 (by rw[e];exact j1)⟩
    (λ_ h=>.inl h) (λ_ h=>.inl (.inl h)) hf.sub (λb hb=>by rw[Eh];exact hf.lt b hb)
    ⟨⟨j1,j2⟩,.inr ⟨m,es,clock,seen.push e.born,j3,by rw[TQ m hmr];exact j4,bE,j6,j7,?_,?_,?_⟩⟩,?_⟩
   ·rw[Mn,j8,H4];have:Hj es i=e.born:=by unfold Hj;rw[J1 EY,Zdo]
    simp[this]
   ·intro q hq;rcases It.1 hq with hq|hq;·exact j9 q hq
    ·rw[Qd.1 hq];exact EY
   ·exact Mi.2 ⟨j10,by simp,λx hx y hy=>by rw[Qd.1 hy];exact λe=>hid (e▸hx)⟩
   ·unfold Aj;refine⟨[.bool true,e.key,e.val],rfl,?_⟩;have r1:Aj C (setBlock w1 r (.mapIter (some m) clock (seen.push e.born) clock)) ks[i] Mu.none e.key:=IW (j7 C _).1 hki (by rw[Ju,AO hi,hie];rfl)
    have r2:Aj C (setBlock w1 r (.mapIter (some m) clock (seen.push e.born) clock)) vs[i] Mu.none e.val:=IW (j7 C _).2 Tl (by rw[Ju,AO hi,hie];rfl)
    unfold Aa;refine⟨_,_,rfl,Gt,?_⟩;unfold Aa;refine⟨_,_,rfl,Aj.mono (Ext.refl _ _) _ (Ay.none mu) r1,?_⟩;unfold Aa;refine⟨_,_,rfl,Aj.mono (Ext.refl _ _) _ (Ay.none mu) r2,?_⟩;unfold Aa;rfl
theorem aY(h:Az G C mu E H a w){it:Operand}{K:AV→KK}(hk:Sh E H (.entry it) K):Gn G a w K (Instr.entry (a.eval it)):=by
 unfold Sh at hk;simp only at hk;obtain⟨ks,vs,r,d,i,k,v,jZ,Ba,hki,Tl,hk⟩:=hk;have hx:=AT h.env it;rw[jZ]at hx;unfold Aj at hx;obtain⟨Sw,Sr,hf,hJ,key⟩:=h.RI Ba;obtain⟨⟨j1,j2⟩,hJ⟩:ItJ ks vs r (d++[i]) Sw Sr w:=hJ;rw[hx];rcases hJ with⟨_,_,hd,_⟩|⟨m,es,clock,seen,j3,j4,j5,j6,j7,j8,j9,j10⟩;·simp at hd
 ·have hi:i<es.size:=j9 i (by simp)
  have jS:seen=(seen.pop).push es[i].born:=by
   apply Array.toList_inj.1;rw[Mn,Array.toList_pop,j8,H4];have:Hj es i=es[i].born:=by unfold Hj;rw[J1 hi]
   simp[this]
  rw[jS]at j5;refine⟨_,_,_,_,C,mu,w,hk,run_entry_at (P:=G.P) w r m clock seen.pop es clock es[i] j5 j4 (by simp) j6.2,h,?_⟩
  unfold Aj;refine⟨[es[i].key,es[i].val],rfl,?_⟩;have Qz:i<es.toList.length:=by simpa using hi
  have r1:Aj C w k Mu.none es[i].key:=IW (j7 C w).1 hki (by rw[Ju,AO Qz];simp)
  have r2:Aj C w v Mu.none es[i].val:=IW (j7 C w).2 Tl (by rw[Ju,AO Qz];simp)
  unfold Aa;refine⟨_,_,rfl,Aj.mono (Ext.refl _ _) _ (Ay.none mu) r1,?_⟩;unfold Aa;refine⟨_,_,rfl,Aj.mono (Ext.refl _ _) _ (Ay.none mu) r2,?_⟩;unfold Aa;rfl
end
open Go.MapKept (modify_keys)
structure gK(P:Program)(kt:TypeId)(pk:AV→Prop):Prop where
 law:Go.Maps.Keyed P kt
 free:∀a,pk a→Bi a=true
 reads:∀(C:Ag)(w:World)(mu:Mu)(a:AV)(v:Value),pk a→Aj C w a mu v→∃l,keyOf P kt v=some l
 inj:∀(C:Ag)(w:World)(a b:AV)(v:Value),pk a→pk b→Aj C w a Mu.none v→Aj C w b Mu.none v→a=b
 det:∀(C:Ag)(w:World)(a:AV)(u v:Value),pk a→Aj C w a Mu.none u→Aj C w a Mu.none v→u=v
section
variable {G:Cx}{C:Ag}{w w':World}{mu:Mu}{H:List HO}{E:List AV}{a:Act}{T:List TY}{P:Program}
theorem YE{kt:TypeId}{pk:AV→Prop}(K:gK P kt pk){k:AV}{kv:Value}(hk:pk k)(hr:Aj C w k mu kv){ks:List AV}{es:List MapEntry}(vJ:∀a∈ks,pk a)(hn:ks.Nodup)(hR:Aa C w ks Mu.none (es.map MapEntry.key)):
  ((Instr.findKey kt kv es).run P w=.ok none w∧k∉ks)∨∃j e,(Instr.findKey kt kv es).run P w=.ok (some (j,e.val)) w∧es[j]?=some e∧e.key=kv∧ks[j]?=some k:=by
 have sO:=A9 (C':=C) (w':=w) (mu':=Mu.none) _ (K.free k hk) hr;obtain⟨l,hl⟩:=K.reads C w Mu.none k kv hk sO;have hlen:es.length=ks.length:=by have:=Ar _ hR;simpa using this
 have Zft:∀e∈es,∃l,keyOf P kt e.key=some l:=λe he=>by
  obtain⟨i,hi,rfl⟩:=M1.1 he;have Qz:i<ks.length:=by omega
  exact K.reads C w Mu.none ks[i] _ (vJ _ (JB Qz)) (IW hR (AO Qz) (by rw[Ju,AO hi];rfl))
 have Zcm:∀(j:Nat)(e:MapEntry),es[j]?=some e→∃x,ks[j]?=some x∧pk x∧Aj C w x Mu.none e.key:=λj e he=>by
  have hj:=(Ao.1 he).1;have bL:j<ks.length:=by omega
  exact⟨ks[j],AO bL,vJ _ (JB bL),IW hR (AO bL) (by rw[Ju,he];rfl)⟩
 rcases K.law.find w hl es Zft with⟨h1,h2⟩|⟨j,e,h1,h2,h3⟩
 ·refine .inl ⟨h1,λhm=>?_⟩
  obtain⟨i,hi,e⟩:=M1.1 hm;have Qz:i<es.length:=by omega
  obtain⟨x,q1,q2,q3⟩:=Zcm i es[i] (AO Qz);rw[AO hi]at q1;simp only[E4.injEq]at q1;rw[←q1,e]at q3;exact h2 es[i] (JB Qz) (K.det C w k _ _ hk q3 sO)
 ·obtain⟨x,q1,q2,q3⟩:=Zcm j e h2;rw[h3]at q3;exact .inr ⟨j,e,h1,h2,h3,by rw[q1,K.inj C w x k kv q2 hk q3 sO]⟩
def Vt(P:Program)(T:List TY)(E:List AV)(H:List HO)(o:Op)(K:AV→KK):Prop:=
 match o with
 |.lookup t x k ok=>B6 T t λy=>match y.k with
  |.map kt vt=>∃pk,gK P kt pk∧pk (AM E k)∧Mj H (AM E x) λks vs=>((∀a∈ks,pk a)∧ks.Nodup)∧
    ((AM E k∉ks→HN T vt λz=>(match ok with|true=>K (.tuple [z,.lit false]) E H|false=>z.force λz=>K z E H))∧
     ∀(j:Nat)(v:AV),ks[j]?=some (AM E k)→vs[j]?=some v→(match ok with|true=>K (.tuple [v,.lit true]) E H|false=>K v E H))
  |_=>False
 |_=>False
def ZD(P:Program)(T:List TY)(E:List AV)(H:List HO)(o:Op)(K:AV→KK):Prop:=
 match o with
 |.mapUpdate t m k x=>B6 T t λy=>match y.k with
  |.map kt _=>∃pk,gK P kt pk∧(pk (AM E k)∧Bi (AM E x)=true)∧(match AM E m with
   |.om l=>B6 H l λob=>(match ob with
    |.map ks vs=>((∀a∈ks,pk a)∧ks.Nodup)∧
      ((AM E k∉ks→K (.raw undef) E (H.set l (.map (ks++[AM E k]) (vs++[AM E x]))))∧∀j:Nat,ks[j]?=some (AM E k)→K (.raw undef) E (H.set l (.map ks (vs.set j (AM E x)))))
    |_=>False)
   |_=>False)
  |_=>False
 |_=>False
theorem iC(hT:BL G.P T)(h:Az G C mu E H a w){t:TypeId}{x k:Operand}{ok:Bool}{K:AV→KK}(hk:Vt G.P T E H (.lookup t x k ok) K):Gn G a w K (Instr.lookup t (a.eval x) (a.eval k) ok):=by
 unfold Vt at hk;simp only at hk;replace hk:=(Ab _ _ _).1 hk;obtain⟨y,hy,hk⟩:=hk
 split at hk;case h_2=>exact hk.elim
 rename_i kt vt V5;have hu:=hT.map hy V5;obtain⟨pk,KT,lN,hk⟩:=hk;have hx:=AT h.env x;have sN:=AT h.env k;obtain⟨ks,vs,es,⟨⟨vJ,N2⟩,Mz,ZeM⟩,hR,hV,Y9⟩:=XM h.heap hx hk;have sO:=A9 (C':=C) (w':=w) (mu':=Mu.none) _ (KT.free _ lN) sN;obtain⟨l,hl⟩:=KT.reads C w Mu.none _ _ lN sO;have qF:(Instr.checkKey es.isEmpty 10000 kt (a.eval k)).run G.P w=.ok () w:=KT.law.check w es.isEmpty hl
 have AZ:(Instr.lookup t (a.eval x) (a.eval k) ok).run G.P w=((do
   let (v,ok') ←match ←Instr.findKey kt (a.eval k) es.toList with
    |some (_,v)=>pure (v,true)
    |none=>pure (←zeroValue vt,false)
   pure (if ok then Value.tuple #[v,.bool ok']else v):Sem Value)).run G.P w:=by
  rcases Y9 with⟨e1,rfl⟩|⟨b,clock,e1,hb⟩
  ·rw[e1];simp only[Instr.lookup,JA,run_underlying hu,G2,Mq];rw[qF];rfl
  ·rw[e1];simp only[Instr.lookup,JA,run_underlying hu,G2,Go.MapKept.run_getObj_map hb,Mq];rw[qF];rfl
 have V7:es.toList.length=vs.length:=by have:=Ar _ hV;simpa using this
 rcases YE KT lN sN vJ N2 hR with⟨hf,hnm⟩|⟨j,e,hf,he,vK,hkj⟩
 ·obtain⟨r,z,q1,q2,q3⟩:=WH (C:=C) (w:=w) (mu:=mu) hT (Mz hnm);cases ok with
  |true=>exact⟨_,.tuple #[z,.bool false],_,_,C,mu,w,q1,by rw[AZ];simp[hf,q3],h,by unfold Aj;exact⟨[z,.bool false],rfl,by unfold Aa;exact⟨_,_,rfl,q2,by unfold Aa;exact⟨_,_,rfl,Gt,by unfold Aa;rfl⟩⟩⟩⟩
  |false=>exact⟨_,z,_,_,C,mu,w,(AV.AK _ _).1 q1,by rw[AZ];simp[hf,q3],h,q2⟩
 ·have U0:j<es.toList.length:=(Ao.1 he).1;have hvj:vs[j]?=some vs[j]:=AO (by omega)
  have q1:=ZeM j vs[j] hkj hvj;have q2:Aj C w vs[j] Mu.none e.val:=IW hV hvj (by rw[Ju,he];rfl)
  have q2:=Aj.mono (Ext.refl _ _) _ (Ay.none mu) q2;cases ok with
  |true=>exact⟨_,.tuple #[e.val,.bool true],_,_,C,mu,w,q1,by rw[AZ];simp[hf],h,by unfold Aj;exact⟨[e.val,.bool true],rfl,by unfold Aa;exact⟨_,_,rfl,q2,by unfold Aa;exact⟨_,_,rfl,Gt,by unfold Aa;rfl⟩⟩⟩⟩
  |false=>exact⟨_,e.val,_,_,C,mu,w,q1,by rw[AZ];simp[hf],h,q2⟩
theorem mY(hT:BL G.P T)(h:Az G C mu E H a w){t:TypeId}{m k x:Operand}{K:AV→KK}(hk:ZD G.P T E H (.mapUpdate t m k x) K):
  ∃E' H' C' mu' w',K (.raw undef) E' H'∧(Instr.mapUpdate t (a.eval m) (a.eval k) (a.eval x)).run G.P w=.ok () w'∧Az G C' mu' E' H' a w':=by
 unfold ZD at hk;simp only at hk;replace hk:=(Ab _ _ _).1 hk;obtain⟨y,hy,hk⟩:=hk
 split at hk;case h_2=>exact hk.elim
 rename_i kt vt V5;have hu:=hT.map hy V5;obtain⟨pk,KT,⟨lN,MA⟩,hk⟩:=hk;have hm:=AT h.env m;have sN:=AT h.env k;have Qw:=AT h.env x;split at hk;case h_2=>exact hk.elim
 rename_i l hme;rw[hme]at hm;replace hk:=(Ab _ _ _).1 hk;obtain⟨ob,Ba,hk⟩:=hk
 cases ob<;>first|exact hk.elim|skip
 rename_i ks vs;simp only at hk;obtain⟨⟨vJ,N2⟩,pW,bK⟩:=hk;obtain⟨b,es,clock,h1,h2,h3⟩:=h.heap.maps l ks vs Ba;unfold Aj at hm;obtain⟨b',h4,h5⟩:=hm;rw[h1]at h4;simp only[E4.injEq,GO.CU.injEq]at h4;subst h4;have hkm:=KT.free _ lN;have sO:=A9 (C':=C) (w':=w) (mu':=Mu.none) _ hkm sN;obtain⟨lit,hl⟩:=KT.reads C w Mu.none _ _ lN sO;have qF:(Instr.checkKey false 10000 kt (a.eval k)).run G.P w=.ok () w:=KT.law.check w false hl;rcases YE KT lN sN vJ N2 (h3.2 C w).1 with⟨hf,hnm⟩|⟨j,e,hf,he,vK,hkj⟩
 ·refine⟨_,_,C,mu,w.putObj b (.map (es.push {key:=a.eval k,val:=a.eval x,born:=clock}) (clock+1)),pW hnm,?_,h.RE h1 h2 Ba ?_⟩
  ·simp only[Instr.mapUpdate,JA,run_underlying hu,G2,h5,Go.MapKept.run_getObj_map h2,qF,hf];exact Go.MapKept.run_setObj_map _ h2
  ·refine⟨by rw[Mn];exact h3.1.push _ _,λC' w'=>?_⟩
   simp only[Mn,H4,J6,List.map_nil]
   exact⟨AF (h3.2 C' w').1 (by unfold Aa;exact⟨_,_,rfl,A9 _ hkm sN,by unfold Aa;rfl⟩),
    AF (h3.2 C' w').2 (by unfold Aa;exact⟨_,_,rfl,A9 _ MA Qw,by unfold Aa;rfl⟩)⟩
 ·have vZ:es[j]?=some e:=by simpa using he
  refine⟨_,_,C,mu,w.putObj b (.map (es.modify j λe=>{e with key:=a.eval k,val:=a.eval x}) clock),bK j hkj,?_,h.RE h1 h2 Ba ?_⟩
  ·simp only[Instr.mapUpdate,JA,run_underlying hu,G2,h5,Go.MapKept.run_getObj_map h2,qF,hf,vZ,L4,Option.getD_some,vK,KT.law.stays w hl];exact Go.MapKept.run_setObj_map _ h2
  ·refine⟨h3.1.of_map ?_,λC' w'=>?_⟩
   ·apply Oh;intro i;simp only[Ju,G4,MW];by_cases N4:j=i;·subst N4;rw[vZ];simp
    ·simp[N4]
   have e1:(es.modify j λe=>{e with key:=a.eval k,val:=a.eval x}).toList.map MapEntry.key=es.toList.map MapEntry.key:=modify_keys j _ (λe' qB=>by
    rw[vZ]at qB;simp only[E4.injEq]at qB;subst qB;exact vK.symm)
   have e2:(es.modify j λe=>{e with key:=a.eval k,val:=a.eval x}).toList.map MapEntry.val=(es.toList.map MapEntry.val).set j (a.eval x):=by
    apply Oh;intro i;simp only[Ju,G4,MW,List.getElem?_set,Gj,Ls];by_cases N4:j=i
    ·subst N4;have AR:j<es.size:=by have:=(Ao.1 he).1;simpa using this
     simp[vZ,AR]
    ·simp[N4]
   rw[e1,e2];exact⟨(h3.2 C' w').1,Xm (h3.2 C' w').2 (A9 _ MA Qw) j⟩
def W7(T:List TY)(E:List AV)(H:List HO)(o:Op)(K:AV→KK):Prop:=
 match o with
 |.call c=>(match c.callee with
  |.builtin .clear=>(match c.args.toList,c.argTypes.toList with
   |[x],[t]=>B6 T t λy=>(match y.k with
    |.map _ _=>(match AM E x with
     |.om l=>B6 H l λob=>(match ob with|.map _ _=>K (.tuple []) E (H.set l (.map [] []))|_=>False)
     |_=>False)
    |_=>False)
   |_,_=>False)
  |_=>False)
 |_=>False
theorem ZE(hT:BL G.P T)(h:Az G C mu E H a w){t ty:TypeId}{x:Operand}{y:TY}{kt vt:Nat}(hy:T[t]?=some y)(V5:y.k=.map kt vt){l:Nat}(hx:AM E x=.om l){ks vs:List AV}(Ba:H[l]?=some (.map ks vs)){K:AV→KK}(hk:K (.tuple []) E (H.set l (.map [] []))):
  Gn G a w K (QE #[t] ty #[a.eval x]):=by
 have hu:=hT.map hy V5;have hm:=AT h.env x;rw[hx]at hm;obtain⟨b,es,clock,h1,h2,h3⟩:=h.heap.maps l ks vs Ba;unfold Aj at hm;obtain⟨b',h4,h5⟩:=hm;rw[h1]at h4;simp only[E4.injEq,GO.CU.injEq]at h4;subst h4;refine⟨_,.tuple #[],_,_,C,mu,w.putObj b (.map #[] clock),hk,?_,h.RE h1 h2 Ba ⟨E8.nil _,λC' w'=>⟨by unfold Aa;rfl,by unfold Aa;rfl⟩⟩,by unfold Aj;exact⟨[],rfl,by unfold Aa;rfl⟩⟩
 have bE:=Go.MapKept.run_setObj_map (P:=G.P) (Obj.map #[] clock) h2;simp only[QE,h5,JA,run_underlying hu,G2,Go.MapKept.run_getObj_map h2];simp[JA,run_underlying hu,Go.MapKept.run_getObj_map h2,bE,World.putObj];try rfl
end
def uJ(n:Nat):List Nat→Bool
 |[]=>false
 |m::l=>bif L6 n m then true else uJ n l
section
variable {G:Cx}{C:Ag}{w w':World}{mu:Mu}{H:List HO}{E:List AV}{a:Act}{T:List TY}{P:Program}{K:KK}{X:XX}
def spK(P:Program)(T:List TY)(E:List AV)(H:List HO)(o:Op)(K:AV→KK):Prop:=
 match o with
 |.range t x=>Sg T E H (.range t x) K
 |.next x b=>V1 E H (.next x b) K
 |.entry x=>Sh E H (.entry x) K
 |.lookup t x k ok=>Vt P T E H (.lookup t x k ok) K
 |.mapUpdate t m k x=>ZD P T E H (.mapUpdate t m k x) K
 |.call c=>W7 T E H (.call c) K
 |_=>False
theorem ZB(hT:BL G.P T){o:Oper}{K:AV→KK}{Kn:KK}{r:Option Nat}{n:Nat}(h:spK G.P T E H o.op K)(Ah:Az G C mu E H a w){next:Act→World→Prop}(hn:∀a w,H6 G o K a w→next a w):
  o.wpIn (fw r) n G.P a w next (Ln G Kn X):=by
 unfold spK at h;cases ho:o.op<;>rw[ho]at h<;>first|exact h.elim|skip
 case lookup t x k ok=>
  obtain⟨r,v,E',H',C',mu',w',k1,k2,k3,k4⟩:=iC hT Ah h;exact BE (λc hc=>by rw[ho]at hc;cases hc) (AL (X:=X) (Q:=Kn) hn k1 (A0 (by simp[execOp,ho]) k2) k3 k4)
 case mapUpdate t m k x=>
  obtain⟨E',H',C',mu',w',h1,h2,h3⟩:=mY hT Ah h;refine BE (λc hc=>by rw[ho]at hc;cases hc) ?_
  unfold Oper.wp;have:(execOp a.eval o).run G.P w=.ok .skip w':=by simp[execOp,ho,h2]
  rw[this];exact hn _ _ ⟨_,E',H',h1,C',mu',h3.frame (Be h3.env o.dst (by unfold Aj;rfl)) (put_defers _ _ _)⟩
 case range t x=>
  obtain⟨r,v,E',H',C',mu',w',k1,k2,k3,k4⟩:=aX hT Ah h;exact BE (λc hc=>by rw[ho]at hc;cases hc) (AL (X:=X) (Q:=Kn) hn k1 (A0 (by simp[execOp,ho]) k2) k3 k4)
 case next x b=>
  cases b with
  |true=>exact h.elim
  |false=>
   obtain⟨r,v,E',H',C',mu',w',k1,k2,k3,k4⟩:=jO (ty:=o.type) Ah h;exact BE (λc hc=>by rw[ho]at hc;cases hc) (AL (X:=X) (Q:=Kn) hn k1 (A0 (by simp[execOp,ho]) k2) k3 k4)
 case entry x=>
  obtain⟨r,v,E',H',C',mu',w',k1,k2,k3,k4⟩:=aY Ah h;exact BE (λc hc=>by rw[ho]at hc;cases hc) (AL (X:=X) (Q:=Kn) hn k1 (A0 (by simp[execOp,ho]) k2) k3 k4)
 case call c=>
  simp only at h;unfold W7 at h;simp only at h;split at h;case h_2=>exact h.elim
  rename_i hc;split at h;case h_2=>exact h.elim
  rename_i x t h1 h2;obtain⟨Zf,args,II⟩:=c;simp only at hc h1 h2;subst hc;obtain rfl:args=#[x]:=by cases args;simp_all
  obtain rfl:II=#[t]:=by cases II;simp_all
  replace h:=(Ab _ _ _).1 h;obtain⟨y,hy,h⟩:=h
  split at h;case h_2=>exact h.elim
  rename_i kt vt V5;split at h;case h_2=>exact h.elim
  rename_i l hl;replace h:=(Ab _ _ _).1 h;obtain⟨ob,Ba,h⟩:=h
  cases ob<;>first|exact h.elim|skip
  rename_i ks vs;obtain⟨r,v,E',H',C',mu',w',k1,k2,k3,k4⟩:=ZE (ty:=o.type) hT Ah hy V5 hl Ba h;exact BE (λc hc=>by rw[ho]at hc;cases hc) (AL (X:=X) (Q:=Kn) hn k1 (by simp[execOp,ho,resolve,invoke,builtin,k2]) k3 k4)
def Uy(P:Program)(T:List TY)(ops:List Oper)(sp:List Nat):Nat→List Oper→List AV→List HO→KK→XX→Prop
 |_,[],E,H,K,_=>K E H
 |n,o::r,E,H,K,X=>vY ops E o.guard
   (λE=>match uJ n sp with
    |true=>spK P T E H o.op (λv E' H'=>Bx E' o.dst v λHp=>Uy P T ops sp (n+1) r Hp H' K X)
    |false=>RJ none P T E H o.op (λv E' H'=>Bx E' o.dst v λHp=>Uy P T ops sp (n+1) r Hp H' K X) X)
   (λE=>Bx E o.dst (.raw undef) λE'=>Uy P T ops sp (n+1) r E' H K X)
theorem IX(hT:BL G.P T){r:Option Nat}{n:Nat}{ops:Array Oper}{sp:List Nat}{K:KK}{X:XX}:∀(l:List Oper)(k:Nat){C:Ag}{mu:Mu}{E:List AV}{H:List HO}{a:Act}{w:World},Uy G.P T ops.toList sp k l E H K X→Az G C mu E H a w→wpListIn (fw r) n G.P ops (Ln G K X) l a w
 |[],k,_,_,_,_,_,_,h,Ah=>⟨_,_,h,_,_,Ah⟩
 |o::l,k,C,mu,E,H,a,w,h,Ah=>by
  unfold Uy at h;unfold wpListIn;rcases Hd rfl Ah h with⟨hw,E',h1,h2⟩|⟨hw,E',h1,h2⟩
  ·rw[if_pos hw];split at h1
   ·refine ZB hT h1 h2 λa' w' hp=>?_
    obtain⟨x,Hp,H',h3,C',mu',h4⟩:=hp;rw[Ax]at h3;exact IX hT l (k+1) h3 h4
   ·refine DM hT h1 h2 λa' w' hp=>?_
    obtain⟨x,Hp,H',h3,C',mu',h4⟩:=hp;rw[Ax]at h3;exact IX hT l (k+1) h3 h4
  ·rw[if_neg (by simp[hw])]
   rw[Ax]at h1;exact⟨λ_ _=>trivial,IX hT l (k+1) h1 (h2.frame (Be h2.env o.dst (by unfold Aj;rfl)) (put_defers _ _ _))⟩
theorem Ac.Ex(sp:List Nat)(hT:BL P T){id:Nat}{ops:Array Oper}(h:Uy P T ops.toList sp 0 ops.toList E H K X):Ac P (.region id ops false) E H K X:=
 ⟨λn G a w hP Ah=>by
  obtain⟨C,mu,Ah⟩:=Ah
  subst hP
  exact wpIn_region_list (IX hT _ 0 h Ah)⟩
end
structure sD(P:Program)(f:FuncId)(cap:List AV)(xs:List (List AV)):Prop where
 Ed:B5 P f=true
 out:∀(l:Nat)(I:Nat→Inv)(Ix:Inv)(C:Ag)(w:World)(us:List Value)(Sw Sr:Nat→Prop),(∀Sw Sr w,¬(I xs.length).J Sw Sr w)→Zh C w→(I 0).Cb=C→(I 0).nb=w.heap.size→
  (∀b o,Sw b→¬C b o)→(∀b,Sw b→Sr b)→(∀b,Sr b→b<w.heap.size)→(I 0).J Sw Sr w→Aa C w cap Mu.none us→
  (∀k x,xs[k]?=some x→KJ P (.func (.yield l) #[] #[]) x (I k) (I (k+1)) Ix)→
  Calls P f (Oi (.yield l) #[] #[]::us).toArray w λe w'=>∃v DG CX,e=.returned v∧Ix.J DG CX w'
def V2(Ix:Inv):KK:=λ_ H=>B6 H 0 λob=>match ob with|.inv J=>J=Ix|_=>False
section
variable {T:List TY}{P:Program}
theorem Ac.never{c:Code}{E:List AV}{H:List HO}{K:KK}{X:XX}{I:Inv}(Ba:H[0]?=some (.inv I))(Mz:∀Sw Sr w,¬I.J Sw Sr w):Ac P c E H K X:=
 ⟨λn G a w hP ⟨C,mu,Ah⟩=>by
  obtain⟨ms,_,x⟩:=Ah.defers
  obtain⟨_,Sw,Sr,_,hJ,_⟩:=x.Gx 0 I Ba
  exact absurd hJ (Mz Sw Sr w)⟩
theorem sD.Ai{f:FuncId}{fn:Func}{c:Code}{cap:List AV}{xs:List (List AV)}(hf:P.funcs[f]?=some fn)(hb:fn.body=some c)(hT:BL P T)(hg:B5 P f=true)(Ho:fn.results=#[])
  (h:∀(l:Nat)(I:Nat→Inv)(Ix:Inv),(∀Sw Sr w,¬(I xs.length).J Sw Sr w)→(∀k x,xs[k]?=some x→KJ P (.func (.yield l) #[] #[]) x (I k) (I (k+1)) Ix)→
   DR fn.ntmps (.raw (.func (.yield l) #[] #[])::cap) λE=>Ac P c E [.inv (I 0)] (V2 Ix) (λe E H=>match e with|.ret=>V2 Ix E H|_=>False)):sD P f cap xs:=by
 refine⟨hg,λl I Ix C w us Sw Sr Mz AR hCb lP Ko OK Dt hJ hr hy=>(callsIn_wide (n:=0)).1 (callsIn_of_wp_marks (F:=Fence.wide) (n:=0) hf hb trivial ?_ rfl)⟩
 have h:=h l I Ix Mz hy;unfold DR at h;rw[Dn,CO]at h;let G:Cx:={P:=P,C0:=C,M0:=Sw,W0:=w,Zb:=⟨AR,λb o hc hs=>Ko b o hs hc⟩}
 have fC:Aa C w (AV.raw (.func (.yield l) #[] #[])::cap) Mu.none (Oi (.yield l) #[] #[]::us):=by
  unfold Aa;exact⟨_,_,rfl,by unfold Aj;rfl,hr⟩
 have Ah:St G ((AV.raw (.func (.yield l) #[] #[])::cap)++J5 (fn.ntmps-(AV.raw (.func (.yield l) #[] #[])::cap).length) (.raw undef)) [.inv (I 0)]
   {tmps:=(Oi (.yield l) #[] #[]::us).toArray++G1 (fn.ntmps-(Oi (.yield l) #[] #[]::us).toArray.size) undef,defers:=[]} w:=by
  refine⟨C,Mu.none,λ_ _ h=>h,λ_ _ h=>.inl h,AR.lt,⟨λ_ _ h=>(by cases h),λ_ _ _ h=>(by cases h),λ_ _ _ _ _ h=>(by cases h),λi hi=>rfl,λi cs hi=>?_,λi e sz es hi=>?_,λi ks vs hi=>?_⟩,?_,⟨[],rfl,?_⟩,⟨rfl,rfl,rfl,Lt _,λ_ _ _=>rfl⟩,Ol _,λ_ _ h=>absurd h (Qj _)⟩
  ·cases i<;>simp at hi
  ·cases i<;>simp at hi
  ·cases i<;>simp at hi
  ·have hl:=Ar _ fC;have:=AF fC (BG (C:=C) (w:=w) (mu:=Mu.none) (fn.ntmps-(AV.raw (.func (.yield l) #[] #[])::cap).length));simpa[←hl,Ar _ hr]using this
  ·refine⟨λi cs vs ms hi=>?_,λi J hi=>?_,λD hD=>(by cases hD),Lv,λi i' cs vs ms cs' BV Ds hi=>?_⟩
   ·cases i<;>simp at hi
   ·cases i with
    |succ i=>simp at hi
    |zero=>
     simp only[J4,E4.injEq,HO.inv.injEq]at hi;subst hi;exact⟨rfl,Sw,Sr,⟨λb hb=>.inr hb,by rw[lP];exact Lt _,λb o hc=>.inl (by rw[hCb];exact hc),λ_ _ _ h=>(by cases h),OK,Dt,λ_ _ _ _ h=>(by cases h),Ko⟩,hJ,λD hD=>(by cases hD),λi cs vs ms hi=>by cases i<;>simp at hi⟩
   ·cases i<;>simp at hi
 have fin:∀E H a w',V2 Ix E H→St G E H a w'→LeavesInM (fw none) 0 P fn a.tmps (λe w'=>∃v DG CX,e=.returned v∧Ix.J DG CX w') a.defers .returning w':=by
  rintro E H a w' hk ⟨C',mu',Ah⟩;unfold V2 at hk;replace hk:=(Ab _ _ _).1 hk;obtain⟨ob,Ba,hk⟩:=hk
  cases ob<;>first|exact hk.elim|skip
  rename_i J;obtain⟨ms,d1,d2⟩:=Ah.defers;rw[show a.defers=ms.map mark by simpa[G]using d1]
  refine GJ (G:=G) rfl ms rfl Ah d2 λa' Lo ha Fv=>?_
  obtain⟨Ds,_,x2⟩:=Fv.defers;obtain⟨_,DG,CX,_,Yu,_⟩:=x2.Gx 0 J Ba
  have HV:(results fn a.tmps).run P Lo=.ok (.tuple #[]) Lo:=by
   rw[Ey,Ho];simp
  refine⟨_,HV,_,DG,CX,rfl,?_⟩;obtain rfl:=hk;exact Yu
 refine wpIn_mono (h.out 0 G _ w rfl Ah) λe a w' q=>?_
 cases e with
 |normal=>obtain⟨E,H,h1,h2⟩:=q;exact fin E H a w' h1 h2
 |ret=>obtain⟨E,H,h1,h2⟩:=q;exact fin E H a w' h1 h2
 |exit id=>obtain⟨E,H,h1,h2⟩:=q;exact h1.elim
 |panic ch=>obtain⟨x,v,E,H,C,mu,_,h1,_⟩:=q;exact h1.elim
 |goto l=>exact q.elim
 |outgrown=>exact q.elim
end
section
variable {G:Cx}{C:Ag}{w w':World}{mu:Mu}{H:List HO}{E:List AV}{a:Act}{T:List TY}{P:Program}
theorem Ac.Z4{g:Operand}{ps:Array Tmp}{assign body:Code}{E E0:List AV}{H:List HO}{K:KK}{X:XX}{f:FuncId}{cap:List AV}{xs:List (List AV)}
  (hE:sB E E0) (hg:AM E g=.fn f cap) (hc:Ap cap=true) (JE:sD P f cap xs) (hH:CD H=true)
  (Hs:List Value→Nat→List HO) (Hx:List Value→AE→List HO→Prop) (h0:∀vs,Hs vs 0=H++[.ghost E0 vs []]) (D5:∀vs k,CD (Hs vs k)=true∧(Hs vs k)[H.length]?=some (.ghost E0 vs [])∧Cq (Hs vs k) (Hs vs k) True)
  (round:∀vs k x,xs[k]?=some x→x.length=ps.size∧Ac P assign (Jo ps.toList x E0) (Hs vs k)
   (λE2 H2=>Ac P body E2 H2 (λ_ H'=>Kk H' (Hs vs (k+1)) True) (λe _ H'=>(∃c,Ge e=some c)∧Hx vs e H'∧CD H'=true∧H'[H.length]?=some (.ghost E0 vs []))) (λ_ _ _=>False))
  (Yr:∀vs,∃(q:Nat) (e:TypeId) (sz:Nat) (es:List AV) (x:AV),(Hs vs xs.length)[q]?=some (HO.arr e sz es)∧x∈es∧x.cells.length≠sz) (exit:∀vs e H',Hx vs e H'→X e E0 H'):Ac P (.rangeFunc g ps assign body) E H K X:=by
 refine⟨λn G a w hP Ah=>?_⟩
 obtain⟨C,mu,Ah⟩:=Ah;obtain⟨ms,hd,hx⟩:=Ah.defers;subst hP;refine wpIn_rangeFunc λfn _=>?_
 obtain⟨l,D,new,W1,he,Sz,Wb,BC,TN⟩:=S1 (P:=G.P) Ah hx (BS hH) (CF hH) fn a.tmps ps assign body;obtain⟨vs,La⟩:∃vs,vs=a.tmps.toList:=⟨_,rfl⟩;obtain⟨ready,Cu⟩:∃o,o=Obj.loop (CR fn a.tmps ps assign body D .ready none):=⟨_,rfl⟩;rw[←Cu]at TN;have hE0:Aa C W1 E0 mu vs:=by rw[La];exact KI hE BC.env
 have Ym:=AT BC.env g;rw[hg]at Ym;unfold Aj at Ym;obtain⟨us,Ym,EM⟩:=Ym;have EM:=A1 cap hc EM
 obtain⟨fnd,JK,Yq,Yi⟩:∃fd,G.P.funcs[f]?=some fd∧fd.body≠none∧fd.name ≠ "runtime.NumGoroutine":=by
  have U2:=JE.Ed;unfold B5 at U2;cases JK:G.P.funcs[f]? with
  |none=>rw[JK]at U2;cases U2
  |some fd=>
   rw[JK]at U2;simp only[C4]at U2;exact⟨fd,rfl,by cases hh:fd.body<;>simp_all,by simpa using U2.2⟩
 have HW:T3 (Hs vs 0) H.length E0 vs:=⟨(D5 vs 0).2.1,BS (D5 vs 0).1,CF (D5 vs 0).1⟩;have LC:∀k,T3 (Hs vs k) H.length E0 vs:=λk=>⟨(D5 vs k).2.1,BS (D5 vs k).1,CF (D5 vs k).1⟩
 -- lI state before lI first round
 have Sp:Br C W1 G.fresh mu H (Cs (G.AP l ready) (new++ms)):=TN.perm (by
  simp only[Cs,Cx.AP];exact List.perm_middle.symm)
 have Ec:Az (G.AP l ready) C mu [] H {tmps:=#[],defers:=(new++ms).map mark++G.ds} W1:=
  ⟨BC.c0,BC.c1,BC.lt,BC.heap,by simp[Aa],⟨_,rfl,Sp⟩,⟨BC.Aq.os,BC.Aq.tape,BC.Aq.output,BC.Aq.size,BC.Aq.block⟩,BC.CA⟩
 obtain⟨hp1,Mp⟩:=Ec.Oz Sp hE0 (BS hH)
 have hJ0:QW G l ready (new++ms) (Hs vs 0) (λb=>(∃i g,mu i=some g∧g.As=some b)∨b=l) (λb=>Rel (G.AP l ready) C mu (Cs (G.AP l ready) (new++ms)) b) W1:=by
  rw[h0 vs];exact⟨C,mu,⟨Ec.c0,Ec.c1,Ec.lt,hp1,by simp[Aa],⟨_,rfl,Mp⟩,Ec.Aq,by have:=Ec.CA.1;simp;omega,Ec.CA.2⟩,Mp,λb=>Iff.rfl,λb hb=>hb⟩
 let I:Nat→Inv:=λk=>⟨λSw Sr W=>QW G l ready (new++ms) (Hs vs k) Sw Sr W,λSw Sr w w' h hs=>QW.LW (LC k).ni (LC k).ng h hs,C,W1.heap.size⟩
 let Ix:Inv:=⟨λSw Sr W=>sA G l (λc=>.loop (CR fn a.tmps ps assign body D .done (some c))) (new++ms) H.length E0 vs (Hx vs) Sw Sr W,λSw Sr w w' h hs=>sA.LW h hs,C,W1.heap.size⟩
 have vH:=TN.marks (l,ready) (by simp)
 have pI:∀d∈Cs G (new++ms),Ck C W1 G.fresh mu d:=λd hd=>TN.marks d (List.mem_cons_of_mem _ hd)
 have hW1:w.heap.size≤W1.heap.size:=by omega
 have Mz:∀Sw Sr w,¬(I xs.length).J Sw Sr w:=λSw Sr w hJ=>by
  have hJ:QW G l ready (new++ms) (Hs vs xs.length) Sw Sr w:=hJ;obtain⟨C3,jF,CL,_⟩:=hJ;obtain⟨q,e,sz,es,x,b1,b2,b3⟩:=Yr vs;exact b3 ((CL.heap.BJ q e sz es b1).1 x b2)
 have Yp:=JE.out l I Ix C W1 us _ _ Mz BC.Ze rfl rfl (λb o hb hc=>?_) (λb hb=>?_) (λb hb=>?_) hJ0 EM (λk x hk=>?_)
 ·have QA:(Oi (.yield l) #[] #[]::us).toArray=#[Oi (.yield l) #[] #[]]++us.toArray:=by simp
  refine⟨l,new.map mark,W1,{target:=.fn (.func f) us.toArray,args:=#[.func (.yield l) #[] #[]]},W1,f,#[.func (.yield l) #[] #[]]++us.toArray,W1,he,?_,?_,?_,λh=>(by cases h),?_⟩
  ·simp only[resolve,Ym];simp[go_sem]
  ·intro f' hf';trivial
  ·simp[invoke,callFunc,JK,Yi,Yq]
  ·refine(callsIn_wide (n:=n-1)).2 ?_;rw[←QA];refine Yp.mono λe w3 DC=>?_
   obtain⟨v,DG,CX,rfl,DC⟩:=DC;have hda:({a with defers:=new.map mark++a.defers}:Act).defers=(new++ms).map mark++G.ds:=by simp[hd]
   have zI:({a with defers:=new.map mark++a.defers}:Act).tmps.toList=vs:=La.symm
   obtain⟨e,c,H',h1,h2,h3,hJ⟩:=DC
   have Wa:w3.heap[l]?=some (.loop (CR fn a.tmps ps assign body D .done (some c))):=by
    obtain⟨C3,jF,_,hX,_,_⟩:=hJ;exact(hX.marks (l,_) (by simp[Cs,Cx.AP])).at_
   have hS:=λo'=>Kf (o':=o') (g:=H.length) (a:={a with defers:=new.map mark++a.defers}) (by rw[zI];exact h3) hJ hda
   refine⟨some c,_,run_endLoop Wa (by simp[CR]),?_⟩
   cases e with
   |ret=>simp only[Ge,E4.injEq]at h1;subst h1;exact wpIn_ret ⟨E0,H',exit vs _ _ h2,hS _⟩
   |exit id=>simp only[Ge,E4.injEq]at h1;subst h1;exact wpIn_exit ⟨E0,H',exit vs _ _ h2,hS _⟩
   |panic x=>cases h1
 ·rcases hb with⟨i,gg,hi,hg⟩|rfl;·exact(BC.heap.fresh i gg b hi hg).2.2 o hc
  ·exact vH.Gy o hc
 ·rcases hb with hb|rfl;·exact .inr (.inr (.inl hb))
  ·exact .inr (.inr (.inr ⟨(b,ready),by simp[Cs,Cx.AP],rfl⟩))
 ·rcases hb with h|⟨o,h⟩|⟨i,gg,hi,hg⟩|⟨d,hd,rfl⟩;·exact L5 h BC.Aq.size
  ·exact BC.lt b o h
  ·exact(BC.heap.fresh i gg b hi hg).2.1
  ·exact(Fy.1 (Sp.marks d hd).at_).1
 ·obtain⟨hlen,Jb⟩:=round vs k x hk;refine⟨⟨rfl,rfl,rfl,rfl⟩,l,rfl,λC' W Tw Sw Sr n' Ns kF hnW Ko OK Zdb hJ Qw=>?_⟩
  have Yu:QW G l ready (new++ms) (Hs vs k) Sw Sr W:=hJ;have sP:T3 (Hs vs k) H.length E0 a.tmps.toList:=by rw[←La];exact LC k
  have ZaS:T3 (Hs vs (k+1)) H.length E0 a.tmps.toList:=by rw[←La];exact LC (k+1)
  rw[Cu]at Yu
  have hY:=XP (n:=n') (P:=G.P) (Hx:=Hx vs) (C1:=C) (n1:=W1.heap.size) rfl sP ZaS (D5 vs (k+1)).2.2 (J2 Ah.CA.1 (Nat.le_of_lt (Ao.1 (D5 vs (k+1)).2.1).1)) hlen
    (Jb.mono (λE2 H2 h=>h.mono (λ_ _ h=>h) (λe E' H' h=>⟨h.1,h.2.1,by rw[La]at h;exact h.2.2.2,BS h.2.2.1,CF h.2.2.1⟩)) (λ_ _ _ h=>h))
    (J2 Ah.Aq.size Sz) Wb (λd hd=>(Fy.1 (pI d hd).at_).1) BC.c1 (J2 Ah.Aq.size hW1) vH.Gy (λd hd=>(pI d hd).Gy) Ns kF hnW Ko Yu Qw
  refine IL hY ?_
  ·rintro e w' ⟨DG,CX,q1,q2,q3,q4,q5,q6⟩;refine⟨DG,CX,q1,q2,q3,q4,q5,?_⟩;rcases q6 with⟨rfl,q⟩|⟨rfl,q⟩;·exact .inl ⟨rfl,by rw[←Cu]at q;exact q⟩
   ·exact .inr ⟨rfl,by rw[←La]at q;exact q⟩
end
section
variable {G:Cx}{C C':Ag}{w w':World}{mu:Mu}{H:List HO}{E:List AV}{a:Act}{T:List TY}{P:Program}
def Zg(l:Nat)(o:HO):List HO:=J5 l HO.dead++[o]
theorem Lk{l i:Nat}{o ob:HO}(h:(Zg l o)[i]?=some ob):(i<l∧ob=.dead)∨(i=l∧ob=o):=by
 unfold Zg at h;rw[MZ]at h;split at h
 ·rename_i hi;rw[OO]at hi;rw[MY hi]at h;exact .inl ⟨hi,(E4.inj h).symm⟩
 ·rename_i hi;rw[OO]at hi h
  have h2:i-l=0:=by
   have:=(Ao.1 h).1;simp at this;omega
  rw[h2]at h;exact .inr ⟨by omega,(E4.inj h).symm⟩
theorem rQ(l:Nat)(o:HO):(Zg l o)[l]?=some o:=by
 unfold Zg;rw[M6 (by simp)]
 simp
theorem fN{F:List HO}{e:TypeId}{sz:Nat}{es:List AV}(hc:∀x∈es,closed x=true):∀(l:Nat){H:List HO},H[l]?=some (.arr e sz es)→D8 F (Zg l (.arr e sz es)) H True
 |0,[],h=>by simp at h
 |0,o::H,h=>by
  simp only[J4,E4.injEq]at h;exact⟨h,hc,trivial⟩
 |l+1,[],h=>by simp at h
 |l+1,o::H,h=>by
  have:=fN (F:=F) hc l (H:=H) (by simpa using h)
  exact this
theorem KZ{l:Nat}{e:TypeId}{sz:Nat}{es:List AV}(i:Nat):AQ (Zg l (.arr e sz es)) i=decide (i=l):=by
 rw[Bool.eq_iff_iff,Cp,decide_eq_true_eq];constructor
 ·rintro⟨ob,h1,h2⟩;rcases Lk h1 with⟨_,rfl⟩|⟨h,_⟩;·cases h2
  ·exact h
 ·rintro rfl;exact⟨_,rQ _ _,rfl⟩
theorem nO(l:Nat)(e:TypeId)(sz:Nat)(es:List AV):B1 (Zg l (.arr e sz es))=true:=by
 induction l with
 |zero=>rfl
 |succ l ih=>exact ih
theorem Ak.aJ{f:FuncId}{rest:List AV}{e:TypeId}{sz n:Nat}{es:List AV}{R:AV→List AV→Prop}{K:AV→KK}{X:XX}(l:Nat)(h:Ea P f (.own 0 sz 0 n::rest) e sz es R)(UX:Ap rest=true)(hl:H[l]?=some (.arr e sz es))(hc:∀x∈es,closed x=true)
  (hk:∀r Cf,R r Cf→Cf.length=es.length→closed r=true∧K r E (H.set l (.arr e sz Cf))):Ak P f (.own l sz 0 n::rest) E H K X:=by
 refine⟨h.Ed,λG C mu a w vs hP Ah hr=>?_⟩
 have hh:=fN (F:=Zg l (.arr e sz es)) hc l hl;obtain⟨k0,k⟩:=Ah.heap.BJ l e sz es hl
 obtain⟨x,MA⟩:∃x,mu l=some (.arr x):=by
  rcases k with⟨k1,_⟩|⟨b,cap,cur,k1,_⟩;·exact⟨_,k1⟩
  ·exact⟨_,k1⟩
 obtain⟨Hm,Zc9⟩:∃Hm:Mu,Hm=λi=>if i=0 then mu l else none:=⟨_,rfl⟩
 have e0:Hm 0=mu l:=by rw[Zc9];rfl
 have m1:∀{i g},Hm i=some g→i=0∧mu l=some g:=λ{i g} hi=>by
  rw[Zc9]at hi;by_cases h0:i=0;·subst h0;exact⟨rfl,hi⟩
  ·simp only[if_neg h0]at hi;cases hi
 have N5:Bb Hm=Mu.none:=by
  funext i
  unfold Bb;cases hi:Hm i with
  |none=>rfl
  |some g=>
   obtain⟨_,h2⟩:=m1 hi;rw[MA]at h2;injection h2 with h2
   subst h2;rfl
 obtain⟨Y5,ZaK⟩:∃Y5:Mu,Y5=mu.only (Zg l (.arr e sz es)):=⟨_,rfl⟩;have e2:Y5 l=mu l:=by rw[ZaK];exact ET (by rw[KZ];simp)
 have m2:∀{i g},Y5 i=some g→i=l∧mu l=some g:=λ{i g} hi=>by
  rw[ZaK]at hi;obtain⟨h1,h2⟩:=B9 hi;rw[KZ,decide_eq_true_eq]at h1;subst h1;exact⟨rfl,h2⟩
 have Yd:AX C w (λ_=>True) Hm [.arr e sz es]:=by
  refine⟨λi g hi=>by have:=(m1 hi).1;subst this;simp,λi g b hi hg=>⟨trivial,(Ah.heap.fresh l g b (m1 hi).2 hg).2⟩,λi g b i' g' hi hg EY QT=>by rw[(m1 hi).1,(m1 EY).1],λi hi=>?_,λi cs hi=>?_,λi e' BD Cf hi=>?_,λi ks vs hi=>?_⟩
  ·rcases i with _|i<;>simp at hi
  ·rcases i with _|i<;>simp at hi
  ·rcases i with _|i
   ·simp only[J4,E4.injEq,HO.arr.injEq]at hi;obtain⟨rfl,rfl,rfl⟩:=hi;refine⟨k0,?_⟩;rw[e0,N5];exact k.imp id λ⟨b,cap,cur,k1,k2,k3,k4,k5,k6,k7⟩=>⟨b,cap,cur,k1,k2,k3,k4,k5,A1 _ (E5 hc) k6,k7⟩
   ·simp at hi
  ·rcases i with _|i<;>simp at hi
 have PQ:Aa C w (.own 0 sz 0 n::rest) Hm vs:=by
  unfold Aa at hr⊢;obtain⟨v,BV,rfl,h1,h2⟩:=hr;refine⟨v,BV,rfl,?_,Aa.mono (Ext.refl _ _) _ (Ay.none _) (A1 _ UX h2)⟩;unfold Aj at h1⊢;rw[e0];exact h1
 refine(h.out C Hm w vs Ah.Ze Yd PQ).mono λen w' hp=>?_
 obtain⟨r,v,Cf,C',rfl,hR,hlen,DC,yF,EX⟩:=hp;obtain⟨hcr,hK⟩:=hk r Cf hR hlen
 have pR:Jy C Y5 w C' Y5 w':=by
  refine⟨⟨DC.same.os,DC.same.tape,DC.same.output,DC.same.size,λb hb=>DC.same.block b ⟨hb.1,λi g hi=>by obtain⟨_,h2⟩:=m1 hi;exact hb.2 l g (by rw[e2];exact h2)⟩⟩,DC.sub,λb o hc=>?_,λi b hi=>hi,λi g b hi hg=>.inl ⟨i,g,hi,hg⟩⟩
  obtain⟨q1,q2⟩:=DC.new b o hc;refine⟨q1,q2.imp id λq=>q.imp id λ⟨i,g,hi,hg⟩=>?_⟩
  obtain⟨_,h2⟩:=m1 hi;exact⟨l,g,by rw[e2];exact h2,hg⟩
 have yE:AX C' w' (λ_=>True) Y5 (Zg l (.arr e sz Cf)):=by
  obtain⟨q0,q⟩:=yF.BJ 0 e sz Cf rfl
  have GA:Bb Y5=Mu.none:=by
   funext i
   unfold Bb;cases hi:Y5 i with
   |none=>rfl
   |some g=>
    obtain⟨_,h2⟩:=m2 hi;rw[MA]at h2;injection h2 with h2
    subst h2;rfl
  refine⟨λi g hi=>by have:=(m2 hi).1;subst this;unfold Zg;simp,λi g b hi hg=>⟨trivial,(yF.fresh 0 g b (by rw[e0];exact(m2 hi).2) hg).2⟩,λi g b i' g' hi hg EY QT=>by rw[(m2 hi).1,(m2 EY).1],λi hi=>?_,λi cs hi=>?_,λi e' BD es2 hi=>?_,λi ks vs hi=>?_⟩
  ·rcases Lk hi with⟨h1,_⟩|⟨_,h1⟩
   ·cases hm:Y5 i with
    |none=>rfl
    |some g=>have:=(m2 hm).1;omega
   ·cases h1
  ·rcases Lk hi with⟨_,h1⟩|⟨_,h1⟩<;>cases h1
  ·rcases Lk hi with⟨_,h1⟩|⟨h0,h1⟩;·cases h1
   ·subst h0;injection h1 with h1 h2 h3
    subst h1 h2 h3;refine⟨q0,?_⟩;rw[e0,N5]at q;rw[e2,GA];exact q
  ·rcases Lk hi with⟨_,h1⟩|⟨_,h1⟩<;>cases h1
 rw[ZaK]at pR yE
 have jX:mu.mix (mu.only (Zg l (.arr e sz es))) (Zg l (.arr e sz es))=mu:=by
  funext i
  unfold Mu.mix;split;·rename_i h;exact ET h
  ·rfl
 have JG:∀i,HK ([]:List HO) i=false:=λi=>rfl
 have hlH:l<H.length:=(Ao.1 hl).1
 obtain⟨p1,p2⟩:=VS (HS:=[]) (H1:=Zg l (.arr e sz Cf)) (H':=H.set l (.arr e sz Cf)) Ah hh pR yE (by simp[Zg]) (nO _ _ _ _) (λi hi=>by
   rcases Lk hi with⟨h1,_⟩|⟨_,h1⟩;·unfold Zg;rw[Ky (by simpa using h1),MY h1]
   ·cases h1)
  (by simp) (λi hi=>by rw[KZ,decide_eq_true_eq]at hi;subst hi;rw[Ff hlH,rQ])
  (λi hi=>by
   rw[KZ,decide_eq_false_iff_not]at hi
   rw[D6 (Ne.symm hi)]
   cases H[i]? with
   |none=>rfl
   |some o=>simp only[L4];rw[dZ JG])
  (λi x _ hm=>by rw[jX];exact hm)
 rw[FF JG,jX]at p1;exact .inl ⟨r,v,_,_,C',_,rfl,hK,p1,Aj.mono (Ext.refl _ _) _ (Ay.none _) (A6 _ hcr EX)⟩
end
end Go.Av