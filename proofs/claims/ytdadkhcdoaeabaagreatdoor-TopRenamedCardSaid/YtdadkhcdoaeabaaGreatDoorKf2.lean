/- A part of the proof. -/
import Derived.Test.YtdadkhcdoaeabaaGreatDoorKc2
import Derived.RecoverIn
import Derived.Lib.AppendStr
import Derived.Lib.UnsafeStr
import Derived.Maps.RangeRun
import Derived.Maps.Keyed
set_option linter.unusedVariables false
set_option maxRecDepth 100000
set_option linter.unusedSectionVars false
set_option linter.unusedSimpArgs false
open List renaming getElem?_eq_some_iff → Ak, getElem?_eq_getElem → CM, getElem?_set_ne → C4, getElem?_set_self → E4, length_map → Fl, length_append → G1, map_append → H4, mem_append → It, mem_append_right → Ix, getElem?_map → II, getElem_mem → Jg, mem_of_getElem? → Kf, map_cons → Ky, mem_map → KG, replicate → Li, getElem?_append_left → Ll, getElem?_cons_zero → ND, eq_nil_of_length_eq_zero → NF, nodup_nil → Pl, all_eq_true → PR, length_nil → Qq, nodup_append → Qx, mem_range → Rn, length_cons → Sh, getElem?_replicate_of_lt → Sk, getElem?_append → SG, mem_iff_getElem → Ul, mem_cons → Uo, getElem?_append_right → U3, pairwise_iff_getElem → VA, ext_getElem? → VD, getElem?_cons_succ → VE, cons_append → XY, mem_iff_getElem? → Yx, length_replicate → Yy, range → Xaa, cons → Xag, getElem?_drop → Xaj, mem_singleton → Xak, size_toArray → Xal, range'_succ → Xan, isEmpty_iff → Xao, filter_cons → Xap, take_left' → Xaq, mem_filter → Xar, drop_drop → Xas, all_cons → Xau
open Bool renaming and_eq_true → C3, or_eq_true → N0, not_eq_true' → O0, false_eq_true → Xai
open Option renaming some → E8, map_some → Qs
open Go.Region renaming ready → Ff, wanted → Um, binds → Vf
open Nat renaming eq_of_beq_eq_true → Fj, le_trans → Mx, le_refl → Ql, beq → Qt, le_of_ble_eq_true → Sd, lt_of_lt_of_le → Vv, zero_add → Vw, ne_of_beq_eq_false → XZ, mul_le_mul_right → Xab, zero_le → Xac
open Array renaming getElem?_eq_some_iff → F0, getElem?_toList → Hs, replicate → Hx, getElem?_eq_getElem → JV, setIfInBounds_comm → LA, length_toList → Nw, toList_push → QJ, getElem?_modify → Sf, mapM_eq_mapM_toList → Vz, getElem?_push → Xae, toList_filter → Xaf, any_eq_true' → Xah
open Go.Result renaming andThen_ok → G2
open Go.Sem renaming run_bind → I0, run_pure → Rr
open Go.Op renaming operands → Qo
open Go.Builtin renaming append_ → Ur, zeroCells → Xam, clear_ → Xat
open Go.World renaming cell? → W1
open Go.Oper renaming semAt_none → X1, looksAt → X8, apart_spec → Yg
open Go.Operand renaming tmp → Xad
open Prod renaming fst → Xav
namespace Go.Av
open Go.RowKit (Below)
def Zan:AV->AV->Prop
 |.raw (.slice none 0 0),.sl _ []=>True
 |x,y=>x=y
def uA:List AV->List AV->Prop
 |[],[]=>True
 |x::xs,y::ys=>Zan x y/\uA xs ys
 |_,_=>False
def nle:AV->AV->Prop
 |.agg cs,.agg ds=>uA cs ds
 |x,y=>Zan x y
def Zc2:List AV->List AV->Prop
 |[],[]=>True
 |x::xs,y::ys=>nle x y/\Zc2 xs ys
 |_,_=>False
section
variable {C:Ae}{w:World}{mu:Mu}
theorem Zz(x y:AV){v:Value}(h:Zan x y)(hr:Ah C w x mu v):Ah C w y mu v:=by
 unfold Zan at h;split at h
 ·unfold Ah at hr⊢;exact .inl ⟨⟨none,hr⟩,rfl⟩
 ·subst h;exact hr
theorem Ww:∀(xs ys:List AV){vs:List Value},uA xs ys->Ab C w xs mu vs->Ab C w ys mu vs
 |[],[],vs,_,hr=>hr
 |x::xs,y::ys,vs,h,hr=>by
  unfold Ab at hr⊢;obtain⟨v,BY,h1,h2,h3⟩:=hr;exact⟨v,BY,h1,Zz x y h.1 h2,Ww xs ys h.2 h3⟩
 |[],_::_,_,h,_|_::_,[],_,h,_=>h.elim
theorem Zam(x y:AV){v:Value}(h:nle x y)(hr:Ah C w x mu v):Ah C w y mu v:=by
 unfold nle at h;split at h
 ·unfold Ah at hr⊢;obtain⟨vs,h1,h2⟩:=hr;exact⟨vs,h1,Ww _ _ h h2⟩
 ·exact Zz _ _ h hr
theorem Zy:∀(xs ys:List AV){vs:List Value},Zc2 xs ys->Ab C w xs mu vs->Ab C w ys mu vs
 |[],[],vs,_,hr=>hr
 |x::xs,y::ys,vs,h,hr=>by
  unfold Ab at hr⊢;obtain⟨v,BY,h1,h2,h3⟩:=hr;exact⟨v,BY,h1,Zam x y h.1 h2,Zy xs ys h.2 h3⟩
 |[],_::_,_,h,_|_::_,[],_,h,_=>h.elim
end
theorem Aj.args{P:Program}{f:FuncId}{args args':List AV}{E:List AV}{H:List HO}{K:AV->KK}{X:XX}(hl:Zc2 args args')(h:Aj P f args' E H K X):Aj P f args E H K X:=
 ⟨h.Eh,λG C mu a w vs hP Af hr=>h.out G C mu a w vs hP Af (Zy _ _ hl hr)⟩
def jE(P:Program)(m:Nat):List TypeId->List (List AV)->Prop
 |[],[]=>True
 |t::ts,p::ps=>MU P m t p/\jE P m ts ps
 |_,_=>False
section
variable {P:Program}
theorem jL{m:Nat}:∀(fs:List Field)(parts:List (List AV)),parts.length=fs.length->(∀(i:Nat) f p,fs[i]?=some f->parts[i]?=some p->MU P m f.type p)->jE P m (fs.map (·.type)) parts
 |[],[],_,_=>trivial
 |f::fs,p::ps,hl,h=>⟨h 0 f p rfl rfl,jL fs ps (by simpa using hl) λi f p h1 h2=>h (i+1) f p (by simpa using h1) (by simpa using h2)⟩
 |[],_::_,hl,_|_::_,[],hl,_=>by simp at hl
theorem FJ{t:TypeId}{fs:Array Field}{ts:List TypeId}{m:Nat}{cs:List AV}(hu:P.underlying t=some (.struct fs))(KF:fs.toList.map (·.type)=ts)(h:MU P (m+1) t cs):
  ∃parts,cs=parts.flatten/\jE P m ts parts:=by
 unfold MU at h;rw[hu]at h;obtain⟨parts,h1,h2,h3⟩:=h;refine⟨parts,h1,?_⟩;rw[<-KF];exact jL fs.toList parts (by simpa using h2) λi f p e1 e2=>h3 i f p (by simpa using e1) e2
theorem MX{t:TypeId}{fs:Array Field}{ts:List TypeId}{m:Nat}{x:AV}(hu:P.underlying t=some (.struct fs))(KF:fs.toList.map (·.type)=ts)(h:Jr P (m+1) t x):
  ∃parts,x=.agg parts.flatten/\jE P m ts parts:=by
 obtain⟨c,rfl⟩:=h.2.1 (by simp[AT,hu])
 obtain⟨parts,h1,h2⟩:=FJ hu KF h.1;exact⟨parts,by rw[<-h1];rfl,h2⟩
theorem AD{m:Nat}{t:TypeId}{ts:List TypeId}{ps:List (List AV)}(h:jE P m (t::ts) ps):∃p r,ps=p::r/\MU P m t p/\jE P m ts r:=by
 cases ps with
 |nil=>exact h.elim
 |cons p r=>exact⟨p,r,rfl,h.1,h.2⟩
theorem Gf{m:Nat}{ps:List (List AV)}(h:jE P m [] ps):ps=[]:=by
 cases ps with
 |nil=>rfl
 |cons p r=>exact h.elim
theorem BQ{t:TypeId}{k:IntKind}{m:Nat}{p:List AV}(hu:P.underlying t=some (.int k))(h:MU P (m+1) t p):∃n,p=[.int k n]/\DJ k n:=by
 unfold MU at h;rw[hu]at h;exact h
theorem Jq{t:TypeId}{m:Nat}{p:List AV}(hu:P.underlying t=some .string)(h:MU P (m+1) t p):∃l,p=[.str l]/\l.length<=reachBytes:=by
 unfold MU at h;rw[hu]at h;exact h
theorem D1{t e:TypeId}{m:Nat}{p:List AV}(hu:P.underlying t=some (.slice e))(h:MU P (m+1) t p):∃es:List AV,p=[.sl (P.cellsOf e) es]/\es.length<=maxLen/\∀y∈es,Jr P m e y:=by
 unfold MU at h;rw[hu]at h;exact h
theorem qK{t e:TypeId}{m:Nat}{p:List AV}(hu:P.underlying t=some (.slice e))(he:P.underlying e=some .string)(hc:P.cellsOf e=1)(h:MU P (m+2) t p):
  ∃l:List (List UInt8),p=[.sl 1 (l.map .str)]/\l.length<=maxLen/\∀s∈l,s.length<=reachBytes:=by
 obtain⟨es,rfl,h1,h2⟩:=D1 hu h;obtain⟨l,rfl,h3⟩:=Ea (f:=AV.str) (p:=λs=>s.length<=reachBytes) λy hy=>Xd he (h2 y hy)
 exact⟨l,by rw[hc],by simpa using h1,h3⟩
end
def F9:Op->Bool
 |.move _|.assign _|.build _ _|.load _ _|.store _ _ _|.field _ _ _|.fieldAddr _ _ _|.extract _ _|.typeAssert _ _ _ _|.unOp _ _ _|.binOp _ _ _ _ _|.convert _ _ _|.makeInterface _ _|.alloc _|.box _ _=>true
 |_=>false
section
variable {G:Cx}{C C':Ae}{w w':World}{mu:Mu}{H:List HO}{E:List AV}{a:Act}{T:List TY}{P:Program}
theorem Zo{ρ:Operand->Value}{o:Oper}(hq:F9 o.op=true){r:Next}(h:(execOp ρ o).run P w=.ok r w'):(∃v,r=.value v)\/r=.skip:=by
 have hv:∀s:Sem Value,(do pure (Next.value (<-s)):Sem Next).run P w=.ok r w'->∃v,r=.value v:=λs h=>by
  rw[I0]at h;cases hs:s.run P w with
  |ok v w2=>
   rw[hs]at h;simp only[G2,Rr,Result.ok.injEq]at h;exact⟨v,h.1.symm⟩
  |halt e w2=>rw[hs]at h;cases h
 have hu:∀s:Sem Unit,(do s;pure Next.skip:Sem Next).run P w=.ok r w'->r=.skip:=λs h=>by
  rw[I0]at h;cases hs:s.run P w with
  |ok v w2=>
   rw[hs]at h;simp only[G2,Rr,Result.ok.injEq]at h;exact h.1.symm
  |halt e w2=>rw[hs]at h;cases h
 unfold execOp at h
 cases ho:o.op<;>rw[ho]at h hq<;>first
  |(simp[F9]at hq;done)
  |exact .inl (hv _ h)
  |exact .inr (hu _ h)
  |(simp only[Rr,Result.ok.injEq]at h;exact .inl ⟨_,h.1.symm⟩)
theorem quiet_mono{n:Nat}{o:Oper}(hq:F9 o.op=true){next next':Act->World->Prop}{Q Q':Exit->Act->World->Prop}(hn:∀a' w',next a' w'->a'.defers=a.defers->next' a' w')
  (hQ:∀e a' w',Q e a' w'->a'.defers=a.defers->Q' e a' w') (h:o.wpIn (fw none) n P a w next Q):o.wpIn (fw none) n P a w next' Q':=by
 refine⟨h.1,?_⟩;have h2:=h.2;rw[show(fw none).round=none from rfl,X1]at h2 ⊢
 cases hr:(execOp a.eval o).run P w with
 |ok r w'=>
  rw[hr]at h2;rcases Zo hq hr with⟨v,rfl⟩|rfl;·exact hn _ _ h2 (put_defers _ _ _)
  ·exact hn _ _ h2 (put_defers _ _ _)
 |halt e w'=>
  rw[hr]at h2;cases e with
  |panic v=>exact hQ _ _ _ h2 rfl
  |_=>exact h2
theorem KI{n:Nat}{ops:Array Oper}{Q:Exit->Act->World->Prop}{d:List Deferred}:∀(l:List Oper){a:Act}{w:World},(l.all λo=>F9 o.op)=true->a.defers=d->wpListIn (fw none) n P ops Q l a w->wpListIn (fw none) n P ops (λe a w=>Q e a w/\a.defers=d) l a w
 |[],a,w,_,hd,h=>⟨h,hd⟩
 |o::l,a,w,hq,hd,h=>by
  simp only[Xau,C3]at hq;unfold wpListIn at h⊢;split at h
  ·rename_i hw;rw[if_pos hw];exact quiet_mono hq.1 (λa' w' k e=>KI l hq.2 (e.trans hd) k) (λe a' w' k e'=>⟨k,e'.trans hd⟩) h
  ·rename_i hw;rw[if_neg hw];exact⟨h.1,KI l hq.2 ((put_defers _ _ _).trans hd) h.2⟩
theorem Jw{n:Nat}{ops:Array Oper}{Q:Exit->Act->World->Prop}{d:List Deferred}(hq:(ops.toList.all λo=>F9 o.op)=true):∀(fuel:Nat)(listed:Array Bool){a:Act}{w:World},a.defers=d->wpAnyIn (fw none) n P .any ops Q fuel listed a w->
  wpAnyIn (fw none) n P .any ops (λe a w=>Q e a w/\a.defers=d) fuel listed a w
 |0,listed,a,w,hd,h=>⟨h.1,h.2,hd⟩
 |fuel+1,listed,a,w,hd,h=>by
  refine⟨λhr=>⟨h.1 hr,hd⟩,λi hi=>?_⟩
  have h:=h.2 i hi;unfold wpOpIn at h⊢;cases ho:ops[i]? with
  |none=>
   rw[ho]at h;exact Jw hq fuel _ hd h
  |some o=>
   rw[ho]at h;simp only at h⊢
   have hqo:F9 o.op=true:=PR.1 hq o (by
    have:o∈ops:=Array.mem_of_getElem? ho;simpa using this)
   split at h
   ·rename_i hw;rw[if_pos hw];exact quiet_mono hqo (λa' w' k e=>Jw hq fuel _ (e.trans hd) k) (λe a' w' k e'=>⟨k,e'.trans hd⟩) h
   ·rename_i hw;rw[if_neg hw];exact⟨h.1,Jw hq fuel _ ((put_defers _ _ _).trans hd) h.2⟩
structure U4(P:Program)(c:Code)(E:List AV)(H:List HO)(K:KK)(X:XX):Prop where
 out:∀(n:Nat)(G:Cx)(a:Act)(w:World)(d:List Deferred),G.P=P->G.rd=none->St G E H a w->a.defers=d->c.wpIn (fw none) n P (λe a' w'=>Mg G K X e a' w'/\a'.defers=d) a w
def xY(P:Program)(T:List TY):Code->List AV->List HO->KK->XX->Prop
 |.skip,E,H,K,_=>K E H
 |.region id ops draw,E,H,K,X=>match draw with
  |false=>(match ops.toList.all (λo=>F9 o.op)with|true=>Zi P T ops.toList ops.toList E H K X|false=>False)
  |true=>U4 P (.region id ops true) E H K X
 |.seq a b,E,H,K,X=>xY P T a E H (λE H=>xY P T b E H K X) X
 |.cond c a b,E,H,K,X=>De E c λv=>match v with
  |.lit t=>(match t with|true=>xY P T a E H K X|false=>xY P T b E H K X)
  |.bool t=>(t=true->xY P T a E H K X)/\(t=false->xY P T b E H K X)
  |_=>False
 |.ret,E,H,_,X=>X .ret E H
 |c,E,H,K,X=>U4 P c E H K X
theorem Gj(hT:BG P T):∀(c:Code){E:List AV}{H:List HO}{K:KK}{X:XX},xY P T c E H K X->U4 P c E H K X
 |.skip,E,H,K,X,h=>⟨λn G a w d hP Se Af hd=>wpIn_skip ⟨⟨E,H,h,Af⟩,hd⟩⟩
 |.region id ops draw,E,H,K,X,h=>by
  unfold xY at h;cases draw with
  |false=>
   refine⟨λn G a w d hP Se Af hd=>?_⟩
   obtain⟨C,mu,Af⟩:=Af;subst hP;simp only at h;split at h
   ·rename_i hq;exact wpIn_region_list (KI _ hq hd (LQ hT _ h Af))
   ·exact h.elim
  |true=>exact h
 |.seq x y,E,H,K,X,h=>⟨λn G a w d hP Se Af hd=>by
  unfold xY at h;refine wpIn_seq (wpIn_mono ((Gj hT x h).out n G a w d hP Se Af hd) λe a w q=>?_)
  cases e with
  |normal=>obtain⟨⟨E',H',h1,h2⟩,hd⟩:=q;exact(Gj hT y h1).out n G a w d hP Se h2 hd
  |_=>exact q⟩
 |.cond c x y,E,H,K,X,h=>⟨λn G a w d hP Se Af hd=>by
  unfold xY at h;rw[Ac]at h;have Ui:=Af;obtain⟨C,mu,CL⟩:=Ui;have hr:=AX CL.env c;split at h
  ·rename_i t hb;rw[hb]at hr;have hv:=Bi hr;cases t with
   |true=>exact wpIn_cond_true hv ((Gj hT x h).out n G a w d hP Se Af hd)
   |false=>exact wpIn_cond_false hv ((Gj hT y h).out n G a w d hP Se Af hd)
  ·rename_i t hb;rw[hb]at hr;have hv:=Bg hr;exact wpIn_cond_split hv (λht=>(Gj hT x (h.1 ht)).out n G a w d hP Se Af hd) (λht=>(Gj hT y (h.2 ht)).out n G a w d hP Se Af hd)
  ·exact h.elim⟩
 |.ret,E,H,K,X,h=>⟨λn G a w d hP Se Af hd=>wpIn_ret ⟨⟨E,H,h,Af⟩,hd⟩⟩
 |.block _ _,_,_,_,_,h=>h
 |.exit _,_,_,_,_,h=>h
 |.loop b,_,_,_,_,h=>h
 |.rangeFunc _ _ _ _,_,_,_,_,h=>h
 |.scope _,_,_,_,_,h=>h
 |.label _,_,_,_,_,h=>h
 |.goto _,_,_,_,_,h=>h
 |.refuse _,_,_,_,_,h=>h
def W2(C:Ae)(w:World)(mu:Mu)(u:FrameMode)(rv:Option AV):Prop:=
 match rv with
 |none=>u=.returning
 |some x=>∃v,u=.panicking [{v,recovered:=false}]/\Ah C w x mu v
def ZfL(rv:Option AV):AV:=match rv with|none=>.raw .nilIface|some x=>x
def taK(T:List TY)(x:AV)(t:TypeId)(K:AV->Prop):Prop:=
 Cm T t λy=>match y.k with
  |.struct _=>(match x with
   |.iface t' v=>(match Qt t' t with|true=>K (.tuple [v,.lit true])|false=>False)
   |.raw .nilIface=>(match Qt y.zero.length y.size&&Nat.ble 2 y.size with|true=>K (.tuple [.agg y.zero,.lit false])|false=>False)
   |_=>False)
  |_=>False
def isRec(o:Op):Bool:=match o with
 |.call c=>(match c.callee with|.builtin .recover=>(match c.args.toList with|[]=>true|_=>false)|_=>false)
 |_=>false
def OD(P:Program)(T:List TY)(ops:List Oper):List Oper->List AV->List HO->KK->Prop
 |[],E,H,K=>K E H
 |o::r,E,H,K=>gdK ops E o.guard
   (λE=>match o.op with
    |.typeAssert x _ t true=>De E x λv=>taK T v t λv=>Bu E o.dst v λE=>OD P T ops r E H K
    |op=>(match F9 op with
     |true=>Ty none P T E H op (λv E' H'=>Bu E' o.dst v λE=>OD P T ops r E H' K) (λ_ _ _=>False)
     |false=>False))
   (λE=>Bu E o.dst (.raw undef) λE=>OD P T ops r E H K)
def ZcT(P:Program)(T:List TY)(ops:List Oper)(rv:AV)(E:List AV)(H:List HO)(K:KK):Prop:=
 match ops with
 |o::r=>(isRec o.op=true/\o.guard=none)/\Bu E o.dst rv λE=>OD P T ops r E H K
 |[]=>False
theorem rZ(hT:BG G.P T){x:AV}{v:Value}(hx:Ah C w x mu v){xt t:TypeId}{K:AV->Prop}(h:taK T x t K):
  ∃r u,K r/\Ah C w r mu u/\(Instr.typeAssert v xt t true).run G.P w=.ok u w:=by
 unfold taK at h;replace h:=AL.1 h;obtain⟨y,hy,h⟩:=h
 obtain⟨i,d,hi,hd,he⟩:=hT.facts hy;split at h
 ·rename_i fs hk
  have Af:∃fs,d=.struct fs:=by
   rw[he]at hk;simp only at hk;cases d<;>first|exact⟨_,rfl⟩|(simp[kindOf]at hk;done)
  obtain⟨fs',rfl⟩:=Af;split at h
  ·rename_i t' av;split at h
   ·rename_i hb;obtain rfl:=Fj hb;unfold Ah at hx;obtain⟨q,rfl,hq⟩:=hx;refine⟨_,.tuple #[q,.bool true],h,by unfold Ah;exact⟨[q,.bool true],rfl,by simp[Ab,hq,Ah]⟩,?_⟩
    simp[Instr.typeAssert,underlying,hd]
   ·exact h.elim
  ·unfold Ah at hx;subst hx;split at h
   ·rename_i hb;simp only[C3]at hb;have G0:2<=y.size:=Sd hb.2;obtain⟨z,hz,hzr⟩:=EM (C:=C) (mu:=mu) (w:=w) hT hy (Fj hb.1) (by omega)
    have hzl:=Ap _ hzr
    have gR:∃cs,z=.agg cs:=by
     cases z with
     |agg cs=>exact⟨cs,rfl⟩
     |_=>
      exfalso;have:=Fj hb.1;simp[Value.cells]at hzl;omega
    obtain⟨cs,rfl⟩:=gR;refine⟨_,.tuple #[.agg cs,.bool false],h,by unfold Ah;exact⟨[.agg cs,.bool false],rfl,by simp only[Ab,Ah];exact⟨_,_,rfl,⟨cs.toList,by simp,hzr⟩,_,_,rfl,rfl,rfl⟩⟩,?_⟩
    simp[Instr.typeAssert,underlying,hd,hz]
   ·exact h.elim
  ·exact h.elim
 ·exact h.elim
theorem tB{o:Oper}(h:isRec o.op=true)(ρ:Operand->Value)(w:World):(execOp ρ o).run P w=.ok .recover w:=by
 unfold isRec at h;split at h
 ·rename_i c hc;split at h
  ·rename_i hb;split at h
   ·rename_i ha;simp[execOp,hc,resolve,hb,invoke,builtin]
   ·cases h
  ·cases h
 ·cases h
theorem nR{n:Nat}{o:Oper}(hq:F9 o.op=true){next:Act->World->Prop}{Q:Exit->Act->World->Prop}(h:o.wpIn (fw none) n P a w next Q):
  (∃v w',(execOp a.eval o).run P w=.ok (.value v) w'/\next (a.put o.dst v) w')\/(∃w',(execOp a.eval o).run P w=.ok .skip w'/\next (a.put o.dst undef) w')\/∃v w',Q (.panic [{v,recovered:=false}]) a w':=by
 have h2:=h.2;rw[show(fw none).round=none from rfl,X1]at h2
 cases hr:(execOp a.eval o).run P w with
 |ok r w'=>
  rw[hr]at h2;rcases Zo hq hr with⟨v,rfl⟩|rfl;·exact .inl ⟨v,w',rfl,h2⟩
  ·exact .inr (.inl ⟨w',rfl,h2⟩)
 |halt e w'=>
  rw[hr]at h2;cases e with
  |panic v=>exact .inr (.inr ⟨v,w',h2⟩)
  |_=>exact h2.elim
theorem Hq(hT:BG G.P T){n:Nat}{ops:Array Oper}{Q:Exit->Act->List Frame->World->Prop}{Fy:List Frame}{K:KK}{D:List Deferred}
  (hQ:∀E' H' a' w',K E' H'->St G E' H' a' w'->a'.defers=D->Q .normal a' Fy w'):
  ∀(l:List Oper)(k:Nat),(∀j,l[j]?=ops[k+j]?)->∀{C:Ae}{mu:Mu}{E:List AV}{H:List HO}{a:Act}{w:World},OD G.P T ops.toList l E H K->Az G C mu E H a w->a.defers=D->
   wpOpsSIn (fw none) n G.P ops Q (List.range' k l.length) a Fy w
 |[],k,hk,C,mu,E,H,a,w,h,Af,hD=>by
  unfold OD at h;exact hQ _ _ _ _ h ⟨C,mu,Af⟩ hD
 |o::l,k,hk,C,mu,E,H,a,w,h,Af,hD=>by
  have h0:ops[k]?=some o:=by simpa using (hk 0).symm
  have HB:∀j,l[j]?=ops[k+1+j]?:=λj=>by have:=hk (j+1);simp only[VE]at this;rw[this];congr 1;omega
  unfold OD at h;simp only[Sh,Xan];unfold wpOpsSIn;simp only[h0];refine⟨λ_ _=>trivial,?_⟩
  rcases HE rfl Af h with⟨hw,E',h1,h2⟩|⟨hw,E',h1,h2⟩
  ·rw[if_pos hw];split at h1
   ·rename_i x xt t ho;rw[Ac]at h1;obtain⟨r,v,k1,k2,k3⟩:=rZ hT (AX h2.env x) (xt:=xt) h1;have:(execOp a.eval o).run G.P w=.ok (.value v) w:=by simp[execOp,ho,k3]
    simp only[this];rw[Au]at k1;exact Hq hT hQ l (k+1) HB k1 (h2.frame (Bf h2.env o.dst k2) (put_defers _ _ _)) ((put_defers _ _ _).trans hD)
   ·split at h1
    ·rename_i hq;have hw:=DV (r:=none) (n:=n) (Kn:=K) hT h1 h2 (next:=λa' w'=>IQ G o (λv E' H'=>Bu E' o.dst v λE=>OD G.P T ops.toList l E H' K) a' w') (λ_ _ h=>h)
     have go:∀{a':Act}{w':World},IQ G o (λv E' H'=>Bu E' o.dst v λE=>OD G.P T ops.toList l E H' K) a' w'->a'.defers=D->wpOpsSIn (fw none) n G.P ops Q (List.range' (k+1) l.length) a' Fy w':=by
      intro a' w' hp hd;obtain⟨r,HU,H'',lG,C',mu',CL⟩:=hp;rw[Au]at lG;exact Hq hT hQ l (k+1) HB lG CL hd
     rcases nR hq hw with⟨v,w',e1,e2⟩|⟨w',e1,e2⟩|⟨v,w',e2⟩
     ·simp only[e1];exact go e2 ((put_defers _ _ _).trans hD)
     ·simp only[e1];exact go e2 ((put_defers _ _ _).trans hD)
     ·obtain⟨x,v',E1,H1,C1,HQ,_,hf,_⟩:=e2;exact hf.elim
    ·exact h1.elim
  ·rw[if_neg (by simp[hw])]
   rw[Au]at h1;exact Hq hT hQ l (k+1) HB h1 (h2.frame (Bf h2.env o.dst (show Ah C w (.raw undef) mu undef by unfold Ah;rfl)) (put_defers _ _ _)) ((put_defers _ _ _).trans hD)
theorem nQ(hT:BG G.P T){n:Nat}{ops:Array Oper}{Q:Exit->Act->List Frame->World->Prop}{c₀:Frame}{cs:List Frame}{u:FrameMode}{rv:Option AV}{K:KK}{D:List Deferred}
  (hu:c₀.mode=u) (qY:W2 C w mu u rv) (hQ:∀u' E' H' a' w',settle u'=.returning->K E' H'->St G E' H' a' w'->a'.defers=D->Q .normal a' ({c₀ with mode:=u'}::cs) w')
  (h:ZcT G.P T ops.toList (ZfL rv) E H K) (Af:Az G C mu E H a w) (hD:a.defers=D):wpOpsSIn (fw none) n G.P ops Q (Xaa ops.size) a (c₀::cs) w:=by
 unfold ZcT at h;split at h
 ·rename_i o r oW;obtain⟨⟨h1,h2⟩,h3⟩:=h;rw[Au]at h3;have EI:ops.size=r.length+1:=by rw[<-Nw,oW];rfl
  have h0:ops[0]?=some o:=by rw[<-Hs,oW];rfl
  have HB:∀j,r[j]?=ops[0+1+j]?:=λj=>by rw[<-Hs,oW,show 0+1+j=j+1 by omega,VE]
  rw[EI,List.range_eq_range',Xan];unfold wpOpsSIn;simp only[h0];refine⟨λ_ _=>trivial,?_⟩
  rw[if_pos (by simp[Um,h2]),tB h1]
  cases rv with
  |none=>
   have hm:c₀.mode=.returning:=hu.trans qY;have:recoverD (c₀::cs)=none:=by simp[recoverD,hm]
   simp only[this];have he:c₀={c₀ with mode:=.returning}:=by rw[<-hm]
   rw[he];exact Hq hT (λE' H' a' w' q1 q2 q3=>hQ .returning E' H' a' w' rfl q1 q2 q3) r (0+1) HB h3 (Af.frame (Bf Af.env o.dst (show Ah C w (.raw .nilIface) mu .nilIface by unfold Ah;rfl)) (put_defers _ _ _)) ((put_defers _ _ _).trans hD)
  |some x=>
   obtain⟨v,hv,hx⟩:=qY;have hm:c₀.mode=.panicking [{v,recovered:=false}]:=hu.trans hv;have:recoverD (c₀::cs)=some (v,{c₀ with mode:=.panicking [{v,recovered:=true}]}::cs):=by simp[recoverD,hm]
   simp only[this];exact Hq hT (λE' H' a' w' q1 q2 q3=>hQ _ E' H' a' w' rfl q1 q2 q3) r (0+1) HB h3 (Af.frame (Bf Af.env o.dst hx) (put_defers _ _ _)) ((put_defers _ _ _).trans hD)
 ·exact h.elim
structure jG(P:Program)(f:FuncId)(args:List AV)(H0:List HO)(rv:Option AV)(R:List HO->Prop):Prop where
 Eh:Cq P f=true
 out:∀(n:Nat)(C:Ae)(mu:Mu)(w:World)(vs:List Value)(u:FrameMode),cM C w->AU C w (λ_=>True) mu H0->Ab C w args mu vs->W2 C w mu u rv->
  CallsDIn (fw none) n P f vs.toArray u w λe u' w'=>∃v H1 C' mu',e=.returned v/\settle u'=.returning/\R H1/\Kl C mu w C' mu' w'/\AU C' w' (λ_=>True) mu' H1/\
   H1.length=H0.length/\Cp H1=true/\∀l:Nat,H0[l]?=some HO.dead->H1[l]?=some HO.dead
theorem jG.A3{f:FuncId}{fn:Func}{id:Nat}{ops:Array Oper}{rest:Code}{args:List AV}{H0:List HO}{rv:Option AV}{R:List HO->Prop}(hf:P.funcs[f]?=some fn)(hb:fn.body=some (.seq (.region id ops false) rest))(Gt:fn.results=#[])
  (hT:BG P T) (hg:Cq P f=true) (Rk:Cp H0=true)
  (h:Ei fn.ntmps args λE=>ZcT P T ops.toList (ZfL rv) E H0 λE H=>U4 P rest E H (λ_ H=>CT H0.length H H0 H R) (λe _ H=>match e with|.ret=>CT H0.length H H0 H R|_=>False)):jG P f args H0 rv R:=by
 refine⟨hg,λn C mu w vs u AP hh hr qY=>callsDIn_of_wpSIn hf hb trivial λc₀ cs hu=>?_⟩
 unfold Ei at h;rw[DS,Db]at h;let G:Cx:={P:=P,pM:=⟨AP,λb o hc ⟨l,g,hl,hg⟩=>(hh.fresh l g b hl hg).2.2 o hc⟩,C0:=C,M0:=λb=>∃l g,mu l=some g/\g.Aq=some b,W0:=w,Ds:=λl b=>mu l=some (.CS b),np:=H0.length}
 have Af:Az G C mu (args++Li (fn.ntmps-args.length) (.raw undef)) H0 {tmps:=vs.toArray++Hx (fn.ntmps-vs.toArray.size) undef,defers:=[]} w:=by
  refine⟨λ_ _ h=>h,λ_ _ h=>.inl h,AP.lt,⟨hh.Is,λl g b hl hg=>⟨.inr ⟨l,g,hl,hg⟩,(hh.fresh l g b hl hg).2⟩,hh.sep,hh.dead,hh.Cr,hh.BM,hh.maps⟩,?_,⟨[],rfl,VO Rk⟩,⟨rfl,rfl,rfl,Ql _,λ_ _ _=>rfl⟩,Ql _,λ_ _ _ h=>h⟩
  have hl:=Ap _ hr;have:=AF hr (B2 (C:=C) (w:=w) (mu:=mu) (fn.ntmps-args.length));simpa[hl]using this
 have A0:∀(tmps:Array Value)(w:World),(results fn tmps).run P w=.ok (.tuple #[]) w:=λtmps w=>by
  rw[FR,Gt];simp
 refine wpSIn_seq (wpSIn_region ?_);refine nQ (G:=G) hT hu qY (D:=[]) (λu' E' H' a' w1 hu' hk CL hD=>?_) h Af rfl
 ·skip
  have fin:∀H a w',CT H0.length H H0 H R->(∃E,St G E H a w')->∃v H1 C' mu',Ending.returned (.tuple #[])=.returned v/\settle u'=.returning/\R H1/\Kl C mu w C' mu' w'/\AU C' w' (λ_=>True) mu' H1/\
    H1.length=H0.length/\Cp H1=true/\∀l:Nat,H0[l]?=some HO.dead->H1[l]?=some HO.dead:=by
   rintro H a w' hk ⟨E,C1,HQ,Af⟩;obtain⟨r,H1,C',mu',k1,k2,k3,_,k4⟩:=pB (x:=.bool true) (v:=.bool true) (R:=λ_ H1=>R H1) (n:=0) hh Af (by unfold Ah;rfl) (by unfold CQ;simpa[closed,AV.AJ]using hk)
   exact⟨_,H1,C',mu',rfl,hu',k1,k2,k3,k4⟩
  refine wpSIn_of_wpIn rfl (wpIn_mono (hk.out n G a' w1 [] rfl rfl CL hD) λe a w' q=>?_)
  obtain⟨q,hd⟩:=q;cases e with
  |normal|ret=>obtain⟨E,H,h1,h2⟩:=q;exact⟨hd,u',rfl,_,A0 _ _,fin H a w' h1 ⟨E,h2⟩⟩
  |exit id=>obtain⟨E,H,h1,h2⟩:=q;exact h1.elim
  |goto l|outgrown=>exact q.elim
  |panic ch=>obtain⟨x,v,E,H,C1,HQ,_,hk,_⟩:=q;exact hk.elim
end
section
variable {G:Cx}{C C':Ae}{w w':World}{mu:Mu}{H H0:List HO}{E:List AV}{a:Act}{T:List TY}{P:Program}
structure W4(P:Program)(f:FuncId)(cap:List AV)(rv:Option AV)(E:List AV)(H:List HO)(K:KK):Prop where
 Eh:Cq P f=true
 out:∀(n:Nat)(G:Cx) C mu (a:Act) (w:World) (vs:List Value) (u:FrameMode),G.P=P->Az G C mu E H a w->Ab C w cap mu vs->W2 C w mu u rv->
  CallsDIn (fw none) n P f vs.toArray u w λe u' w'=>∃v E' H' C' mu',e=.returned v/\settle u'=.returning/\K E' H'/\Az G C' mu' E' H' a w'
def Tp(rv:Option AV):List AV:=match rv with|some x=>[x]|none=>[]
theorem W4.ZfQ{f:FuncId}{cap:List AV}{rv:Option AV}{R:List HO->Prop}{K:KK}(h:jG P f cap H0 rv R)(hw:Bo H0 cap=true)(hx:Bo H0 (Tp rv)=true)(hh:Ew H0 H0 H True)
  (hk:∀H1,R H1->Xj H0 E λE'=>BL H0 H0 H1 H λH'=>K E' H'):W4 P f cap rv E H K:=by
 refine⟨h.Eh,λn G C mu a w vs u hP Af hr qY=>(h.out n C (mu.only H0) w vs u Af.qI (Tz Af hh) (BZ cap hw hr) ?_).mono λe u' w' hp=>?_⟩
 ·cases rv with
  |none=>exact qY
  |some x=>
   obtain⟨v,hv,Mw⟩:=qY;have:=BZ (H0:=H0) [x] hx (C:=C) (w:=w) (mu:=mu) (vs:=[v]) (by unfold Ab;exact⟨v,[],rfl,Mw,by unfold Ab;rfl⟩)
   unfold Ab at this;obtain⟨v',BY,he,k,_⟩:=this;simp only[Xag.injEq]at he;obtain⟨rfl,_⟩:=he;exact⟨v,hv,k⟩
 ·obtain⟨v,H1,C',mu',he,hs,hR,hp,Z7,hlen,Rk,lM⟩:=hp;have MP:=(Ev hh).1;have hk:=hk H1 hR;rw[Hj]at hk;obtain⟨H',k1,k2,k3,k4⟩:=EU MP hk;obtain⟨m1,m2⟩:=merged Af hh hp Z7 hlen Rk lM k2 k3 k4;exact⟨v,_,_,C',_,he,hs,k1,m1⟩
def Cx.iJ(G:Cx)(ms:List Nat)(f:FuncId)(vs:List Value):Cx:=
 {G with ds:={target:=.fn (.func f) vs.toArray,args:=#[]}::(ms.map mark++G.ds),MJ:=ms.map (λD=>(D,GL))++G.MJ,Se:=λl h=>let ⟨r,hr⟩:=G.Se l h;⟨r,Ix _ hr⟩}
def gh(g:Nat)(vs:List Value)(H:List HO):Prop:=∃cap,H[g]?=some (.ghost cap vs [])
abbrev DK:=FuncId->Nat->List Value->KK
abbrev DX:=FuncId->Nat->List Value->XX
def QD(G:Cx)(K:KK)(X:XX)(K2:DK)(X2:DX)(e:Exit)(a:Act)(w:World):Prop:=
 Mg G K X e a w\/∃ms f vs g,Cq G.P f=true/\Mg (G.iJ ms f vs) (λE H=>gh g vs H/\K2 f g vs E H) (λe E H=>gh g vs H/\X2 f g vs e E H) e a w
structure LC(P:Program)(c:Code)(E:List AV)(H:List HO)(K:KK)(X:XX)(K2:DK)(X2:DX):Prop where
 out:∀(n:Nat)(G:Cx)(a:Act)(w:World),G.P=P->G.rd=none->St G E H a w->c.wpIn (fw none) n P (QD G K X K2 X2) a w
theorem LC.seq1{x y:Code}{K:KK}{X:XX}{K2:DK}{X2:DX}(h:Aa P x E H (λE H=>LC P y E H K X K2 X2) X):LC P (.seq x y) E H K X K2 X2:=
 ⟨λn G a w hP hr Af=>wpIn_seq (wpIn_mono (by have:=h.out n G a w hP Af;rwa [hr]at this) λe a w q=>by
  cases e with
  |normal=>obtain⟨E',H',h1,h2⟩:=q;exact h1.out n G a w hP hr h2
  |_=>exact .inl q)⟩
theorem LC.ZiI{x y:Code}{K:KK}{X:XX}{K2:DK}{X2:DX}(h:LC P x E H (λE H=>LC P y E H K X K2 X2) X (λf g vs E H=>Aa P y E H (λE H=>gh g vs H/\K2 f g vs E H) (λe E H=>gh g vs H/\X2 f g vs e E H)) X2):LC P (.seq x y) E H K X K2 X2:=
 ⟨λn G a w hP hr Af=>wpIn_seq (wpIn_mono (h.out n G a w hP hr Af) λe a w q=>by
  rcases q with q|⟨ms,f,vs,g,hg,q⟩
  ·cases e with
   |normal=>obtain⟨E',H',h1,h2⟩:=q;exact h1.out n G a w hP hr h2
   |_=>exact .inl q
  ·cases e with
   |normal=>
    obtain⟨E',H',⟨_,h1⟩,h2⟩:=q;refine wpIn_mono (by have:=h1.out n (G.iJ ms f vs) a w hP h2;rwa [show(G.iJ ms f vs).rd=none from hr]at this) λe a w q=>.inr ⟨ms,f,vs,g,hg,q⟩
   |_=>exact .inr ⟨ms,f,vs,g,hg,q⟩)⟩
def Wl(P:Program)(T:List TY)(ops:List Oper):List Oper->List AV->List HO->(FuncId->List AV->KK)->XX->Prop
 |[],_,_,_,_=>False
 |o::r,E,H,K,X=>match o.op with
  |.defer c=>(match r,o.guard with
   |[],none=>(match c.callee,c.args.toList with
    |.value f,[]=>De E f λv=>(match v with
     |.fn f cap=>Cq P f=true/\Bu E o.dst (.raw undef) λE=>K f cap E H
     |_=>False)
    |_,_=>False)
   |_,_=>False)
  |op=>gdK ops E o.guard (λE=>Ty none P T E H op (λv E' H'=>Bu E' o.dst v λHU=>Wl P T ops r HU H' K X) X) (λE=>Bu E o.dst (.raw undef) λE'=>Wl P T ops r E' H K X)
theorem nU{F:Fence}{n:Nat}{o:Oper}{K K':Act->World->Prop}{Q Q':Exit->Act->World->Prop}(h:∀a w,K a w->K' a w)(hq:∀e a w,Q e a w->Q' e a w)(hh:o.wpIn F n P a w K Q):o.wpIn F n P a w K' Q':=by
 unfold Oper.wpIn at*;refine⟨hh.1,?_⟩;have hh:=hh.2
 have hl:LetsOut Q->LetsOut Q':=λh=>by
  obtain⟨a,w,k⟩:=h;exact⟨a,w,hq _ _ _ k⟩
 generalize (o.semAt F.round a.eval).run P w=r at*;cases r with
 |ok x w'=>
  cases x<;>simp only[Oper.uponIn]at hh ⊢<;>
   first
    |exact h _ _ hh
    |exact⟨hh.1,CallsIn.mono hh.2 (λe NR he=>by cases e<;>first|exact h _ _ he|exact hq _ _ _ he|exact hl he)⟩
    |exact⟨hh.1,RowsIn.mono hh.2 (λ_ _ he=>h _ _ he)⟩
    |exact⟨hh.1,RoundIn.mono hh.2 (λe NR he=>by cases e<;>first|exact h _ _ he|exact hq _ _ _ he|exact hl he)⟩
 |halt x w'=>cases x<;>simp only[Oper.uponIn]at hh ⊢<;>first|exact hq _ _ _ hh|exact hh
theorem sG{ms:List Nat}{f:FuncId}{cap:List AV}{vs:List Value}(h:Az G C mu E H a w)(d1:a.defers=ms.map mark++G.ds)(d2:BE C w G.fresh mu H (ms.map (λD=>(D,GL))++G.MJ))(hr:Ab C w cap mu vs):
  Az (G.iJ ms f vs) C mu E (H++[.ghost cap vs []]) {a with defers:={target:=.fn (.func f) vs.toArray,args:=#[]}::a.defers} w:=by
 have get:∀{l:Nat}{ob:HO},(H++[HO.ghost cap vs []])[l]?=some ob->H[l]?=some ob\/(l=H.length/\ob=.ghost cap vs []):=λ{l ob} hl=>by
  rcases Nat.lt_or_ge l H.length with k|k;·rw[Ll k]at hl;exact .inl hl
  ·rw[U3 k]at hl
   have:l-H.length=0:=by
    have:=(Ak.1 hl).1;simp at this;omega
   rw[this]at hl;simp at hl;exact .inr ⟨by omega,hl.symm⟩
 refine⟨h.c0,h.c1,h.lt,⟨λl g hl=>?_,h.heap.fresh,h.heap.sep,λl hl=>?_,λl cs hl=>?_,λl e sz es hl=>?_,λl ks vs hl=>?_⟩,h.env,⟨[],by simp[Cx.iJ,d1],⟨λl cs BY DE hl=>?_,λl I hl=>?_,λD hD=>d2.marks D (by simpa[Cx.iJ]using hD),?_,λl l' cs vs1 uF cs' zA U8 hl Bm Bq D hD wA=>?_⟩⟩,⟨h.Ax.os,h.Ax.tape,h.Ax.output,h.Ax.size,h.Ax.block⟩,?_⟩
 ·have:=h.heap.Is l g hl;simp;omega
 ·rcases get hl with k|⟨_,k⟩;·exact h.heap.dead l k
  ·cases k
 ·rcases get hl with k|⟨_,k⟩;·exact h.heap.Cr l cs k
  ·cases k
 ·rcases get hl with k|⟨_,k⟩;·exact h.heap.BM l e sz es k
  ·cases k
 ·rcases get hl with k|⟨_,k⟩;·exact h.heap.maps l ks vs k
  ·cases k
 ·rcases get hl with k|⟨_,k⟩
  ·obtain⟨q1,q2,q3⟩:=d2.Bl l cs BY DE k;exact⟨q1,q2,λD hD=>⟨(q3 D hD).1,by simpa[Cx.iJ]using (q3 D hD).2⟩⟩
  ·cases k;exact⟨hr,Pl,λD hD=>by cases hD⟩
 ·rcases get hl with k|⟨_,k⟩
  ·obtain⟨h0,Sw,Sr,q1,q2,q3,q4⟩:=d2.Hz l I k;refine⟨h0,Sw,Sr,q1,q2,λD hD=>q3 D (by simpa[Cx.iJ]using hD),λl' cs BY DE Bm D hD=>?_⟩
   rcases get Bm with k'|⟨_,k'⟩;·exact q4 l' cs BY DE k' D hD
   ·cases k';cases hD
  ·cases k
 ·have:=d2.nd;simpa[Cx.iJ]using this
 ·rcases get hl with k|⟨k0,k⟩
  ·rcases get Bm with k'|⟨_,k'⟩;·exact d2.sep l l' cs vs1 uF cs' zA U8 k k' Bq D hD wA
   ·cases k';cases wA
  ·cases k;cases hD
 ·exact⟨by have:=h.Ds.1;simp only[G1,Sh,Qq];exact Mx this (by omega),h.Ds.2⟩
theorem Nn(hT:BG G.P T)(Se:G.rd=none){n:Nat}{ops:Array Oper}{K0:KK}{K:FuncId->List AV->KK}{X:XX}{K2:DK}{X2:DX}(hK:∀f cap E H,K f cap E H->∀vs,K2 f H.length vs E (H++[.ghost cap vs []])):
  ∀(l:List Oper){C:Ae}{mu:Mu}{E:List AV}{H:List HO}{a:Act}{w:World},Wl G.P T ops.toList l E H K X->Az G C mu E H a w->wpListIn (fw none) n G.P ops (QD G K0 X K2 X2) l a w
 |[],_,_,_,_,_,_,h,Af=>by unfold Wl at h;exact h.elim
 |o::l,C,mu,E,H,a,w,h,Af=>by
  unfold Wl at h;split at h
  ·rename_i c Py;split at h
   ·rename_i hg;split at h
    ·rename_i f hc ha;rw[Ac]at h;split at h
     ·rename_i fi cap Yw;obtain⟨WJ,h⟩:=h;rw[Au]at h;have hf:=AX Af.env f;rw[Yw]at hf;unfold Ah at hf;obtain⟨vs,hfv,WG⟩:=hf;obtain⟨ms,d1,d2⟩:=Af.defers;unfold wpListIn;rw[if_pos (by simp[Um,hg])]
      refine⟨λ_ _=>trivial,?_⟩
      rw[show(fw none).round=none from rfl,X1]
      have A0:(execOp a.eval o).run G.P w=.ok (.defer {target:=.fn (.func fi) vs.toArray,args:=#[]}) w:=by
       obtain⟨cK,args,Jt⟩:=c;simp only at hc ha;subst hc;have:args=#[]:=by simpa using ha
       subst this;simp[execOp,Py,resolve,hfv,Deferred.ofValue]
      rw[A0,Oper.uponIn_defer];refine .inr ⟨ms,fi,vs,H.length,WJ,_,_,⟨⟨cap,by simp⟩,hK _ _ _ _ h vs⟩,C,mu,?_⟩
      have hx:Ah C w (.raw undef) mu undef:=by unfold Ah;rfl
      exact(sG Af d1 d2 WG).frame (Bf (a:={a with defers:={target:=.fn (.func fi) vs.toArray,args:=#[]}::a.defers}) Af.env o.dst hx) (put_defers _ _ _)
     ·exact h.elim
    ·exact h.elim
   ·exact h.elim
  ·unfold wpListIn;rcases HE rfl Af h with⟨hw,E',h1,h2⟩|⟨hw,E',h1,h2⟩
   ·rw[if_pos hw];refine nU (λ_ _ h=>h) (λe a w q=>.inl q) (DV (r:=none) (Kn:=K0) hT h1 h2 λa' w' hp=>?_)
    obtain⟨x,HU,H',h3,C',mu',h4⟩:=hp;rw[Au]at h3;exact Nn hT Se hK l h3 h4
   ·rw[if_neg (by simp[hw])]
    rw[Au]at h1;exact⟨λ_ _=>trivial,Nn hT Se hK l h1 (h2.frame (Bf h2.env o.dst (show Ah C w (.raw undef) mu undef by unfold Ah;rfl)) (put_defers _ _ _))⟩
theorem LC.region{id:Nat}{ops:Array Oper}{K:KK}{X:XX}{K2:DK}{X2:DX}(hT:BG P T)(h:Wl P T ops.toList ops.toList E H (λf cap E H=>∀vs,K2 f H.length vs E (H++[.ghost cap vs []])) X):LC P (.region id ops false) E H K X K2 X2:=
 ⟨λn G a w hP hr Af=>by
  obtain⟨C,mu,Af⟩:=Af
  subst hP
  exact wpIn_region_list (Nn hT hr (λf cap E H k=>k) _ h Af)⟩
end
section
variable {G:Cx}{C C':Ae}{w w':World}{mu:Mu}{H H0:List HO}{E:List AV}{a:Act}{T:List TY}{P:Program}
theorem BE.less{fr:Nat->Prop}{d1 d2:List (Nat×Obj)}(h:BE C w fr mu H (d1++d2)):BE C w fr mu H d2:=by
 refine⟨λl cs vs ms hl=>?_,λl I hl=>?_,λD hD=>h.marks D (Ix _ hD),?_,h.sep⟩
 ·obtain⟨q1,q2,q3⟩:=h.Bl l cs vs ms hl;refine⟨q1,q2,λD hD=>⟨(q3 D hD).1,λhd=>(q3 D hD).2 ?_⟩⟩
  rw[H4];exact Ix _ hd
 ·obtain⟨h0,Sw,Sr,q1,q2,q3,q4⟩:=h.Hz l I hl;exact⟨h0,Sw,Sr,q1,q2,λD hD=>q3 D (Ix _ hD),q4⟩
 ·have:=h.nd;rw[H4]at this;exact(Qx.1 this).2.1
theorem OO{n:Nat}{fn:Func}{R:Ending->World->Prop}{tmps tm2:Array Value}{u:FrameMode}(hu:u≠.run):∀(ms:List Nat){w:World}{a:Act},a.tmps=tm2->Az G C mu E H a w->BE C w G.fresh mu H (ms.map (λD=>(D,GL))++G.MJ)->
  (∀a' w',a'.tmps=tm2->Az G C mu E H a' w'->BE C w' G.fresh mu H G.MJ->LeavesInM (fw none) n G.P fn tmps R G.ds u w')->LeavesInM (fw none) n G.P fn tmps R (ms.map mark++G.ds) u w
 |[],w,a,ha,h,hx,hr=>hr a w ha h (by simpa using hx)
 |D::ms,w,a,ha,h,hx,hr=>by
  simp only[Ky,XY,LeavesInM];obtain⟨h1,h2⟩:=h.S5 hx;refine⟨hu,.inl ⟨D,_,rfl,run_takeDeferred ?_,OO hu ms (a:={a with defers:=ms.map mark++G.ds}) (by exact ha) h1 h2 hr⟩⟩
  exact(hx.marks (D,GL) (by simp)).at_
theorem nI{f:FuncId}{vs:List Value}(hg:Cq P f=true)(w:World):(invoke (.fn (.func f) vs.toArray) #[]).run P w=.ok (.enter f vs.toArray) w:=by
 unfold Cq at hg;cases MQ:P.funcs[f]? with
 |none=>rw[MQ]at hg;cases hg
 |some fn=>
  rw[MQ]at hg;simp only[C3]at hg;have Bq:fn.name ≠ "runtime.NumGoroutine":=by simpa using hg.2
  have hb:fn.body≠none:=by cases hh:fn.body<;>simp_all
  simp[invoke,callFunc,MQ,Bq,hb]
theorem ZP{n:Nat}{fn:Func}{R:Ending->World->Prop}{tmps:Array Value}(vV:G.ds=[])(Zmx:G.MJ=[]){ms:List Nat}{f:FuncId}{vs:List Value}{g:Nat}{rv:Option AV}{u:FrameMode}{K:KK}(hu:u≠.run)(hgf:Cq G.P f=true)
  (Af:Az (G.iJ ms f vs) C mu E H a w) (qY:W2 C w mu u rv) (Ji:gh g vs H) (hd:∀cap BY,H[g]?=some (.ghost cap BY [])->W4 G.P f cap rv E H K) (ht:a.tmps=tmps)
  (pB:∀E H C mu a w,K E H->a.tmps=tmps->Az G C mu E H a w->∃v,(results fn tmps).run G.P w=.ok v w/\R (.returned v) w):LeavesInM (fw none) n G.P fn tmps R a.defers u w:=by
 obtain⟨U8,d1,d2⟩:=Af.defers;rw[d1]
 -- the ZhB value Zld in the frame
 obtain⟨rs,Jh,Us⟩:∃rs:List Value,Ab C w (Tp rv) mu rs/\∀w',Ab C w' (Tp rv) mu rs->W2 C w' mu u rv:=by
  cases rv with
  |none=>exact⟨[],by unfold Tp Ab;rfl,λ_ _=>qY⟩
  |some x=>
   obtain⟨v,hv,hx⟩:=qY;refine⟨[v],by unfold Tp Ab;exact⟨v,[],rfl,hx,by unfold Ab;rfl⟩,λw' h=>⟨v,hv,?_⟩⟩
   unfold Tp Ab at h;obtain⟨v',BY,he,k,_⟩:=h;simp only[Xag.injEq]at he;obtain⟨rfl,_⟩:=he;exact k
 have hl:rs.length=(Tp rv).length:=Ap _ Jh;have NC:Az (G.iJ ms f vs) C mu (Tp rv++E) H {tmps:=(rs++a.tmps.toList).toArray,defers:=a.defers} w:=Af.frame (by simpa using AF Jh Af.env) rfl
 refine OO (G:=G.iJ ms f vs) hu U8 rfl NC d2 λa' w' ha hs hx=>?_
 have aG:=hs.env;rw[ha]at aG
 have h1:Ab C w' (Tp rv) mu rs:=by
  have:=aG.take (Tp rv).length;simpa[<-hl]using this
 have h2:Ab C w' E mu a.tmps.toList:=by
  have:=aG.drop (Tp rv).length;simpa[<-hl]using this
 have Gs:Az (G.iJ ms f vs) C mu E H {tmps:=a.tmps,defers:=a'.defers} w':=hs.frame h2 rfl;obtain⟨cap,HR⟩:=Ji;have WG:Ab C w' cap mu vs:=(hx.Bl g cap vs [] HR).1;show LeavesInM (fw none) n G.P fn tmps R ({target:=.fn (.func f) vs.toArray,args:=#[]}::(ms.map mark++G.ds)) u w'
 unfold LeavesInM;refine⟨hu,.inr ⟨λh=>(by cases h),_,_,f,vs.toArray,rfl,nI hgf w',λ_ _=>trivial,((hd cap vs HR).out (n-1) (G.iJ ms f vs) C mu _ w' vs u rfl Gs WG (Us w' h1)).mono λe u' NR hp=>?_⟩⟩
 obtain⟨v,E',H',C',mu',rfl,gA,hk,FX⟩:=hp;obtain⟨ms3,e1,e2⟩:=FX.defers;simp only[gA];have e3:BE C' NR G.fresh mu' H' (ms.map (λD=>(D,GL))++G.MJ):=e2.less
 have Ef:Az G C' mu' E' H' {tmps:=a.tmps,defers:=ms.map mark++G.ds} NR:=⟨FX.c0,FX.c1,FX.lt,FX.heap,FX.env,⟨ms,rfl,e3⟩,⟨FX.Ax.os,FX.Ax.tape,FX.Ax.output,FX.Ax.size,FX.Ax.block⟩,FX.Ds⟩;rw[show ms.map mark++G.ds=ms.map mark by simp[vV]]
 exact Je vV ms (by exact ht) Ef e3 λa' w' ha hs=>pB _ _ _ _ _ _ hk ha hs
def Ya(P:Program)(T:List TY)(rs:List ResultVar)(R:AV->Prop)(f:FuncId)(g:Nat)(rv:Option AV)(E:List AV)(H:List HO):Prop:=
 Cm H g λob=>match ob with|.ghost cap _ _=>W4 P f cap rv E H (PN T rs R)|_=>False
theorem AO.Vs{f:FuncId}{fn:Func}{c:Code}{args:List AV}{R:AV->Prop}(hf:P.funcs[f]?=some fn)(hb:fn.body=some c)(hT:BG P T)(hg:Cq P f=true)
  (h:Ei fn.ntmps args λE=>LC P c E [] (PN T fn.results.toList R) (λe E H=>match e with|.ret=>PN T fn.results.toList R E H|_=>False)
   (λf g _ E H=>Ya P T fn.results.toList R f g none E H) (λf g _ e E H=>match e with|.ret=>Ya P T fn.results.toList R f g none E H|.panic x=>Ya P T fn.results.toList R f g (some x) E H|_=>False)):AO P f args R:=by
 refine⟨hg,λC w vs AP hr=>(callsIn_wide (n:=0)).1 (callsIn_of_wp_marks (F:=Fence.wide) (n:=0) hf hb trivial ?_ rfl)⟩
 unfold Ei at h;rw[DS,Db]at h;let G:Cx:={P:=P,C0:=C,M0:=λ_=>False,W0:=w,pM:=⟨AP,λ_ _ _ h=>h⟩}
 have Af:St G (args++Li (fn.ntmps-args.length) (.raw undef)) [] {tmps:=vs.toArray++Hx (fn.ntmps-vs.toArray.size) undef,defers:=[]} w:=by
  refine⟨C,Mu.none,λ_ _ h=>h,λ_ _ h=>.inl h,AP.lt,Uq _ _ _,?_,⟨[],rfl,SI _ _ _ _⟩,⟨rfl,rfl,rfl,Ql _,λ_ _ _=>rfl⟩,Xac _,λ_ _ h=>absurd h (Nat.not_lt_zero _)⟩
  have hl:=Ap _ hr;have:=AF hr (B2 (C:=C) (w:=w) (mu:=Mu.none) (fn.ntmps-args.length));simpa[hl]using this
 let RR:Ending->World->Prop:=λe w'=>∃r v',e=.returned v'/\R r/\Below w.heap.size w w'/\Ah (Ld C w.heap.size w'.heap.size) w' r Mu.none v'
 have ZfJ:∀tmps E H C1 HQ a w',PN T fn.results.toList R E H->a.tmps=tmps->Az G C1 HQ E H a w'->∃v,(results fn tmps).run G.P w'=.ok v w'/\RR (.returned v) w':=by
  intro tmps E H C1 HQ a w' hk ha hs;obtain⟨r,v,h1,h2,h3⟩:=sY (G:=G) hT hs (λ_ h=>h) hk
  rw[ha]at h2;exact⟨v,h2,r,v,rfl,h1,⟨hs.Ax.os,hs.Ax.tape,hs.Ax.output,hs.Ax.size,λk hk=>hs.Ax.block k hk (λh=>h)⟩,h3⟩
 have fin:∀E H a w',PN T fn.results.toList R E H->St G E H a w'->LeavesInM (fw none) 0 P fn a.tmps RR a.defers .returning w':=by
  rintro E H a w' hk ⟨C',mu',Af⟩;obtain⟨ms,d1,d2⟩:=Af.defers;rw[show a.defers=ms.map mark by simpa[G]using d1]
  exact Je (G:=G) rfl ms rfl Af d2 λa' NR ha Gs=>ZfJ _ _ _ _ _ _ _ hk ha Gs
 have wL:∀{ms f vs g rv u}{C1:Ae}{HQ:Mu}{E H a w'},u≠.run->Cq P f=true->gh g vs H->Ya P T fn.results.toList R f g rv E H->Az (G.iJ ms f vs) C1 HQ E H a w'->W2 C1 w' HQ u rv->LeavesInM (fw none) 0 P fn a.tmps RR a.defers u w':=by
  intro ms f vs g rv u C1 HQ E H a w' hu hgf Ji hk Af qY;refine ZP (G:=G) rfl rfl hu hgf Af qY Ji (K:=PN T fn.results.toList R) (λcap BY HR=>?_) rfl (λE H C mu a w hk ha hs=>ZfJ _ _ _ _ _ _ _ hk ha hs)
  unfold Ya at hk;replace hk:=AL.1 hk;obtain⟨ob,Bh,hk⟩:=hk
  rw[HR]at Bh;simp only[E8.injEq]at Bh;subst Bh;exact hk
 refine wpIn_mono (h.out 0 G _ w rfl rfl Af) λe a w' q=>?_
 rcases q with q|⟨ms,f',BY,g,hgf,q⟩
 ·cases e with
  |normal|ret=>obtain⟨E,H,h1,h2⟩:=q;exact fin E H a w' h1 h2
  |exit id=>obtain⟨E,H,h1,h2⟩:=q;exact h1.elim
  |panic ch=>obtain⟨x,v,E,H,C,mu,_,h1,_⟩:=q;exact h1.elim
  |goto l|outgrown=>exact q.elim
 ·cases e with
  |normal|ret=>obtain⟨E,H,⟨h0,h1⟩,C1,HQ,h2⟩:=q;exact wL (by simp) hgf h0 h1 h2 rfl
  |exit id=>obtain⟨E,H,h1,h2⟩:=q;exact h1.2.elim
  |panic ch=>obtain⟨x,v,E,H,C1,HQ,rfl,⟨h0,h1⟩,h2,h3⟩:=q;exact wL (rv:=some x) (by simp) hgf h0 h1 h2 ⟨v,rfl,h3⟩
  |goto l|outgrown=>exact q.elim
end
section
variable {E:List AV}{H:List HO}{T:List TY}{P:Program}{K:KK}{X:XX}
theorem Aa.ZbC(hT:BG P T){id:Nat}{ops:Array Oper}(h:Zi P T ops.toList ops.toList E H K X):Aa P (.region id ops false) E H K X:=
 BR hT (.region id ops false) (by unfold iU;exact h)
theorem Aa.ZcM{c:Operand}{x y:Code}(h:De E c λv=>match v with
  |.lit t=>(match t with|true=>Aa P x E H K X|false=>Aa P y E H K X)
  |.bool t=>(t=true->Aa P x E H K X)/\(t=false->Aa P y E H K X)
  |_=>False):Aa P (.cond c x y) E H K X:=⟨λn G a w hP Af=>by
  rw[Ac]at h;have Ui:=Af;obtain⟨C,mu,CL⟩:=Ui;have hr:=AX CL.env c;split at h
  ·rename_i t hb;rw[hb]at hr;have hv:=Bi hr;cases t with
   |true=>exact wpIn_cond_true hv (h.out n G a w hP Af)
   |false=>exact wpIn_cond_false hv (h.out n G a w hP Af)
  ·rename_i t hb;rw[hb]at hr;have hv:=Bg hr;exact wpIn_cond_split hv (λht=>(h.1 ht).out n G a w hP Af) (λht=>(h.2 ht).out n G a w hP Af)
  ·exact h.elim⟩
theorem Aa.zR{id:Nat}{b:Code}(h:Aa P b E H K λe E H=>match e with
  |.exit i=>(match Qt i id with|true=>K E H|false=>X (.exit i) E H)
  |.ret=>X .ret E H
  |.panic x=>X (.panic x) E H):Aa P (.block id b) E H K X:=⟨λn G a w hP Af=>by
  refine wpIn_block (wpIn_mono (h.out n G a w hP Af) λe a w q=>?_)
  cases e with
  |normal=>exact q
  |exit i=>
   obtain⟨E',H',h1,h2⟩:=q;simp only[Exit.inBlock];simp only at h1;split at h1
   ·rename_i hb;rw[if_pos (Fj hb)];exact⟨E',H',h1,h2⟩
   ·rename_i hb;rw[if_neg (XZ hb)];exact⟨E',H',h1,h2⟩
  |ret|panic ch|goto l=>exact q
  |outgrown=>exact q⟩
theorem Aa.zP{b:Code}(h:Aa P b E H K X):Aa P (.scope b) E H K X:=⟨λn G a w hP Af=>SK (λl a w q=>q) (h.out n G a w hP Af)⟩
theorem Aa.ZcI(h:K E H):Aa P .skip E H K X:=⟨λn G a w hP Af=>wpIn_skip ⟨E,H,h,Af⟩⟩
theorem Aa.zQ{l:Nat}(h:K E H):Aa P (.label l) E H K X:=⟨λn G a w hP Af=>wpIn_label ⟨E,H,h,Af⟩⟩
theorem Aa.ZcL{id:Nat}(h:X (.exit id) E H):Aa P (.exit id) E H K X:=⟨λn G a w hP Af=>wpIn_exit ⟨E,H,h,Af⟩⟩
theorem Aa.ZfH(h:X .ret E H):Aa P .ret E H K X:=⟨λn G a w hP Af=>wpIn_ret ⟨E,H,h,Af⟩⟩
end
section
variable {G:Cx}{C C':Ae}{w w':World}{mu mu':Mu}{H H0:List HO}{E:List AV}{a:Act}{T:List TY}{P:Program}
mutual
theorem sP(h:∀i,Iw H0 i=false):∀x:AV,RS H0 x=x
 |.own k sz lo n|.el k sz i o=>by unfold RS;rw[h k]
 |.fn f cap|.mv f cap=>by unfold RS;rw[GQ h cap]
 |.iface t x=>by unfold RS;rw[sP h x]
 |.agg cs=>by unfold RS;rw[GQ h cs]
 |.tuple vs=>by unfold RS;rw[GQ h vs]
 |.any|.int _ _|.bool _|.lit _|.str _|.sl _ _|.at_ _|.raw _|.ptr _ _|.mp _ _|.om _=>by unfold RS;rfl
theorem GQ(h:∀i,Iw H0 i=false):∀xs:List AV,Ko H0 xs=xs
 |[]=>by unfold Ko;rfl
 |x::xs=>by unfold Ko;rw[sP h x,GQ h xs]
end
theorem jU(h:∀i,Iw H0 i=false)(o:HO):GR H0 o=o:=by
 cases o<;>simp[GR,GQ h]
end
end Go.Av
namespace Go.Av
inductive OT where
 |done
 |none
 |one (j:Nat) (t r:OT)
def OT.isNone:OT->Bool
 |.none=>true
 |_=>false
section
variable {G:Cx}{C:Ae}{w w':World}{mu:Mu}{H:List HO}{E:List AV}{a:Act}{T:List TY}{P:Program}{ops:Array Oper}{K:KK}{X:XX}
def okT(ops:Array Oper):OT->Nat->Array Bool->List Nat->Bool
 |.done,_,listed,rs=>rs.isEmpty&&(Ff .any ops listed).isEmpty
 |.none,_,_,rs=>rs.isEmpty
 |.one j t r,f+1,listed,i::rs=>Qt i j&&!t.isNone&&okT ops t f (listed.setIfInBounds j true) (Ff .any ops (listed.setIfInBounds j true))&&okT ops r (f+1) listed rs
 |.one _ _ _,_,_,_=>false
def Zcl(ops:Array Oper)(t:OT):Bool:=!t.isNone&&okT ops t ops.size (Hx ops.size false) (Ff .any ops (Hx ops.size false))
def enT(P:Program)(T:List TY)(ops:List Oper)(K:KK)(X:XX):OT->List AV->List HO->Prop
 |.done,E,H=>K E H
 |.none,_,_=>True
 |.one j t r,E,H=>(∃o Kw,ops[j]?=some o/\D6 P T ops o E H Kw X/\∀E' H',Kw E' H'->enT P T ops K X t E' H')/\enT P T ops K X r E H
structure EnF(P:Program)(T:List TY)(ops:List Oper)(K:KK)(X:XX)(t:OT)(E:List AV)(H:List HO):Prop where
 out:enT P T ops K X t E H
def en1(P:Program)(T:List TY)(ops:List Oper)(K:KK)(X:XX)(t:OT)(E:List AV)(H:List HO):Prop:=
 match t with
 |.done=>K E H
 |.none=>True
 |.one j t r=>(Cm ops j λo=>D6 P T ops o E H (λE' H'=>EnF P T ops K X t E' H') X)/\EnF P T ops K X r E H
theorem EnF.step{Kx:List Oper}{t:OT}(h:en1 P T Kx K X t E H):EnF P T Kx K X t E H:=by
 cases t with
 |done|none=>exact⟨h⟩
 |one j t r=>
  obtain⟨h1,h2⟩:=h;replace h1:=AL.1 h1;obtain⟨o,ho,h1⟩:=h1
  exact⟨⟨o,_,ho,h1,λ_ _ h=>h.out⟩,h2.out⟩
def U0:Nat->List Nat
 |0=>[]
 |n+1=>n::U0 n
theorem UZ:∀{n i:Nat},i<n->A4 (U0 n) i=true
 |n+1,i,h=>by
  unfold U0 A4;split;·rfl
  ·rename_i hb;have:=XZ hb;exact UZ (by omega)
theorem iH{n0:Nat}:∀(t:OT)(f:Nat)(listed:Array Bool)(rs:List Nat)(E:List AV)(H:List HO),okT ops t f listed rs=true->enT P T ops.toList K X t E H->
  (∀i∈rs,∃f',f=f'+1/\WV P T ops n0 (U0 ops.size) K X i (Dc P T ops n0 (U0 ops.size) K X f' (listed.setIfInBounds i true)) E H)/\(t.isNone=false->rs=Ff .any ops listed->Dc P T ops n0 (U0 ops.size) K X f listed E H)
 |.done,f,listed,rs,E,H,hB,h=>by
  unfold okT at hB;simp only[C3,Xao]at hB;obtain⟨rfl,hr⟩:=hB;refine⟨λi hi=>by simp at hi,λ_ _=>?_⟩
  cases f with
  |zero=>unfold Dc;exact λ_=>⟨hr,h⟩
  |succ f=>unfold Dc;exact λ_=>⟨λ_=>h,λi hi=>by rw[hr]at hi;simp at hi⟩
 |.none,f,listed,rs,E,H,hB,h=>by
  unfold okT at hB;simp only[Xao]at hB;subst hB;exact⟨λi hi=>by simp at hi,λhn=>by cases hn⟩
 |.one j t r,f,listed,rs,E,H,hB,h=>by
  cases f with
  |zero=>unfold okT at hB;cases hB
  |succ f=>
   cases rs with
   |nil=>unfold okT at hB;cases hB
   |cons i rs=>
    unfold okT at hB;simp only[C3,O0]at hB;obtain⟨⟨⟨h1,h2⟩,h3⟩,h4⟩:=hB;obtain rfl:=Fj h1;unfold enT at h;obtain⟨k1,k2⟩:=h;obtain⟨o,Kw,ho,k1,k3⟩:=k1;have ho':ops[i]?=some o:=by simpa using ho
    have AP:i<ops.size:=(F0.1 ho').1
    have hd:WV P T ops n0 (U0 ops.size) K X i (Dc P T ops n0 (U0 ops.size) K X f (listed.setIfInBounds i true)) E H:=by
     unfold WV;rw[ho'];simp only
     rw[UZ AP];simp only
     exact⟨_,k1,λE1 H1 hk=>(iH (n0:=n0) t f _ _ E1 H1 h3 (k3 _ _ hk)).2 h2 rfl⟩
    have hr:=(iH (n0:=n0) r (f+1) listed rs E H h4 k2).1
    have BW:∀i'∈i::rs,∃f',f+1=f'+1/\WV P T ops n0 (U0 ops.size) K X i' (Dc P T ops n0 (U0 ops.size) K X f' (listed.setIfInBounds i' true)) E H:=by
     intro i' Fk;rcases Uo.1 Fk with rfl|Fk;·exact⟨f,rfl,hd⟩
     ·exact hr i' Fk
    refine⟨BW,λ_ Jh=>?_⟩
    unfold Dc;refine λ_=>⟨λh0=>(by rw[<-Jh]at h0;cases h0),λi' Fk=>?_⟩
    rw[<-Jh]at Fk;obtain⟨f',e,hh⟩:=BW i' Fk;cases e;exact hh
theorem U4.Zbg{id:Nat}(t:OT)(hT:BG P T)(hm:P.follows .mixedOrders=true)(hq:(ops.toList.all λo=>F9 o.op)=true)(hB:Zcl ops t=true)(h:EnF P T ops.toList K X t E H):U4 P (.region id ops true) E H K X:=by
 refine⟨λn G a w d hP Se Af hd=>?_⟩
 subst hP;obtain⟨C,mu,Af⟩:=Af;have CL:Az G C mu E H a w.drew:=Af.drew;unfold Zcl at hB;simp only[C3,O0]at hB;have h1:=(iH (n0:=H.length) t _ _ _ E H hB.2 h.out).2 hB.1 rfl;refine wpIn_region_any hm ?_;have h2:=HK (r:=none) (n:=n) hT _ _ _ _ a _ h1 ⟨C,mu,CL⟩;exact Jw hq _ _ hd (by simpa using h2)
end
section
variable {H:List HO}{E:List AV}{T:List TY}{P:Program}
theorem Aa.iN{x y:Code}{ι:Type}(tm:ι->List AV)(hp:ι->List HO)(pre:ι->Prop){K:KK}{X:XX}(ok:∀i,pre i->Bo (hp i) (tm i)=true/\Dl (hp i) (hp i) True)(len:∀i,H.length<=(hp i).length)
  (h1:Aa P x E H (λE' H'=>∃j,oM E' (tm j) (Rl H' (hp j) (pre j))) X) (h2:∀j,pre j->Aa P y (tm j) (hp j) K X):Aa P x E H (λE H=>Aa P y E H K X) X:=by
 refine⟨λn G a w hP Af=>?_⟩
 have hnp:G.np<=H.length:=by obtain⟨C,mu,h⟩:=Af;exact h.Ds.1
 refine wpIn_mono (h1.out n G a w hP Af) λe a' w' hq=>?_
 cases e with
 |normal=>
  obtain⟨E',H',⟨j,hj⟩,CL⟩:=hq;obtain⟨ZdA,hj⟩:=OQ _ _ _ hj;obtain⟨hpj,R,rfl⟩:=L4 hj;obtain⟨C,mu,CL⟩:=CL.le ZdA;exact⟨tm j,hp j,h2 j hpj,C,_,CL.drop (ok j hpj).1 (ok j hpj).2 (Mx hnp (len j))⟩
 |exit id|ret|panic c|goto l|outgrown=>exact hq
end
section
variable {G:Cx}{C:Ae}{w w':World}{mu:Mu}{H:List HO}{E:List AV}{a:Act}{T:List TY}{P:Program}{ops:Array Oper}{n0 i j:Nat}{o oi oj:Oper}{we:List Nat}{K:KK}{X:XX}
def exB(o:Oper):Bool:=match o.op with|.extract (.tmp _) _=>o.guard.isNone&&o.dst.isSome|_=>false
def stB(o:Oper):Bool:=match o.op with|.store _ (.tmp _) (.tmp _)=>o.guard.isNone&&o.dst.isNone|_=>false
def pvB(o:Oper):Bool:=match o.op with|.move (.tmp _)=>o.guard.isNone&&o.dst.isSome|.binOp _ _ _ _ _=>o.guard.isNone&&o.dst.isSome|_=>false
def swB(oi oj:Oper):Bool:=(mvB oi&&apB oj)||((exB oi&&stB oj)||(pvB oi&&stB oj))
def Q9(v:AV):Bool:=match v with|.own _ _ _ _=>false|.agg cs=>cs.all Fe|_=>true
theorem Uy:∀(cs:List AV){K:KK},cs.all Fe=true->(Lo cs E H K↔K E H)
 |[],K,_=>by unfold Lo;exact Iff.rfl
 |v::r,K,h=>by
  simp only[Xau,C3]at h;unfold Lo;have:=Uy r (K:=K) h.2;cases v<;>first|exact this|exact absurd h.1 (by simp[Fe])
theorem Qy{v:AV}{K:KK}(h:Q9 v=true):WM v E H K↔K E H:=by
 unfold WM;cases v<;>first|exact Iff.rfl|exact Uy _ h|cases h
def BX(E:List AV)(o:Oper):Prop:=match o.op with|.store _ a x=>(match AM E a with|.ptr _ _=>True|.el _ _ _ _=>Q9 (AM E x)=true|_=>False)|_=>True
def zK(E:List AV)(o:Oper)(Q:Prop):Prop:=match o.op with|.store _ a x=>De E a λp=>(match p with|.ptr _ _=>Q|.el _ _ _ _=>De E x λv=>(match Q9 v with|true=>Q|false=>False)|_=>False)|_=>Q
theorem sD{E:List AV}{o:Oper}{Q:Prop}:zK E o Q↔BX E o/\Q:=by
 unfold zK BX;split
 ·rw[Ac];split;·simp
  ·rw[Ac];split;·rename_i h;simp[h]
   ·rename_i h;simp[h]
  ·simp
 ·simp
theorem TB{t:TypeId}{ad x:Operand}{K:AV->KK}{l k:Nat}(hp:AM E ad=.ptr l k)(h:Cj T E H t ad x K):
  ∃H',K (.raw undef) E H'/\∀(E2:List AV),AM E2 ad=AM E ad->AM E2 x=AM E x->∀K':AV->KK,K' (.raw undef) E2 H'->Cj T E2 H t ad x K':=by
 unfold Cj at h;replace h:=AL.1 h;obtain⟨y,hy,h⟩:=h
 rw[Ac,Ac,Am,hp]at h;split at h;case h_2=>exact h.elim
 rename_i hc;simp only at h;replace h:=AL.1 h;obtain⟨ob,Bh,h⟩:=h
 split at h;case h_2=>exact h.elim
 split at h;case h_2=>exact h.elim
 rename_i hb;rw[Cs,AG]at h;refine⟨_,h,λE2 e1 e2 K' k=>?_⟩
 unfold Cj;refine AL.2 ⟨y,hy,?_⟩;rw[Ac,Ac,Am,e1,e2,hp];simp only[hc];refine AL.2 ⟨_,Bh,?_⟩;simp only[hb];rw[Cs,AG];exact k
theorem ML{t:TypeId}{ad x:Operand}{K:AV->KK}{l z i k:Nat}(hp:AM E ad=.el l z i k)(h:Cj T E H t ad x K):
  ∃H',K (.raw undef) E H'/\∀(E2:List AV),AM E2 ad=AM E ad->AM E2 x=AM E x->∀K':AV->KK,K' (.raw undef) E2 H'->Cj T E2 H t ad x K':=by
 unfold Cj at h;replace h:=AL.1 h;obtain⟨y,hy,h⟩:=h
 rw[Ac,Ac,Am,hp]at h;split at h;case h_2=>exact h.elim
 rename_i hc;simp only at h;replace h:=AL.1 h;obtain⟨ob,Bh,h⟩:=h
 split at h;case h_2=>exact h.elim
 split at h;case h_2=>exact h.elim
 rename_i hb;obtain⟨GW,hold,h⟩:=h;rw[Am]at h;split at h;case h_2=>exact h.elim
 rename_i G0;split at h
 ·rename_i pE;rw[AG]at h;refine⟨_,h,λE2 e1 e2 K' k=>?_⟩
  unfold Cj;refine AL.2 ⟨y,hy,?_⟩;rw[Ac,Ac,Am,e1,e2,hp];simp only[hc];refine AL.2 ⟨_,Bh,?_⟩;simp only[hb];refine⟨GW,hold,?_⟩;rw[Am];simp only[G0,pE];rw[AG];exact k
 ·rename_i pE;rw[Cs,AG]at h;refine⟨_,h,λE2 e1 e2 K' k=>?_⟩
  unfold Cj;refine AL.2 ⟨y,hy,?_⟩;rw[Ac,Ac,Am,e1,e2,hp];simp only[hc];refine AL.2 ⟨_,Bh,?_⟩;simp only[hb];refine⟨GW,hold,?_⟩;rw[Am];simp only[G0,pE];rw[Cs,AG];exact k
theorem Zba(PA:exB oi=true)(Mz:stB oj=true)(p1:∀t,oi.dst=some t->t∉oj.looksAt ops){Kw:KK}
  (h:FA P T ops.toList n0 i oi E H λE' H'=>BX E' oj/\D6 P T ops.toList oj E' H' Kw X):BX E oj/\D6 P T ops.toList oj E H (λE1 H1=>FA P T ops.toList n0 i oi E1 H1 Kw) X:=by
 obtain⟨Uf,WC,ity,ZX,Z3,uZ⟩:=oi;obtain⟨Kz,jop,jty,fQ,fR,jgd⟩:=oj;unfold exB at PA;unfold stB at Mz;simp only at PA Mz;cases WC<;>first|cases PA|skip
 rename_i x m;cases x<;>first|cases PA|skip
 rename_i s;cases uZ<;>simp at PA
 cases Uf<;>simp at PA
 rename_i d;cases jop<;>first|cases Mz|skip
 rename_i st ad xx;cases ad<;>first|cases Mz|skip
 rename_i ta;cases xx<;>first|cases Mz|skip
 rename_i tx;cases jgd<;>simp at Mz
 subst Mz;have hd:=p1 d rfl;have q1:(Xad ta)≠.tmp d:=λe=>hd (by cases e;simp[X8,Qo])
 have q2:(Xad tx)≠.tmp d:=λe=>hd (by cases e;simp[X8,Qo])
 have Ve:∀{v:AV}{x:Operand},x≠.tmp d->AM (E.set d v) x=AM E x:=λ{v x} hx=>by
  have:=L9 (E:=E) (d:=some d) (x:=v) (y:=x) (λt ht he=>hx (by cases ht;exact he))
  simpa[A6]using this
 have ex:∀{E:List AV}{H:List HO}{K:KK},FA P T ops.toList n0 i {dst:=some d,op:=.extract (.tmp s) m,type:=ity,pos:=ZX,after:=Z3,guard:=none} E H K↔∃vs v,AM E (.tmp s)=.tuple vs/\vs[m]?=some v/\Ra v λv=>K (E.set d v) H:=λ{E H K}=>by
  unfold FA Vb rK Bj;simp only[Ac,QT,Au,A6];constructor
  ·intro h;split at h
   ·rename_i vs hv;replace h:=AL.1 h;obtain⟨v,hv2,h⟩:=h
    rw[AV.AJ]at h;exact⟨vs,v,hv,hv2,h⟩
   ·exact h.elim
  ·intro⟨vs,v,hv,hv2,h⟩;rw[hv];refine AL.2 ⟨v,hv2,?_⟩;rw[AV.AJ];exact h
 rw[ex]at h;obtain⟨vs,v,hv,hv2,h⟩:=h;obtain⟨u,⟨h0,h1⟩,hu,_,_⟩:=H6 h;unfold BX at h0⊢;simp only at h0⊢;rw[Ve q1,Ve q2]at h0;refine⟨h0,?_⟩
 have wst:∀{E:List AV}{H:List HO}{K:KK},((∃l k,AM E (.tmp ta)=.ptr l k)\/∃l z i k,AM E (.tmp ta)=.el l z i k/\Q9 (AM E (.tmp tx))=true)->(D6 P T ops.toList {dst:=none,op:=.store st (.tmp ta) (.tmp tx),type:=jty,pos:=fQ,after:=fR,guard:=none} E H K X↔Cj T E H st (.tmp ta) (.tmp tx) (λv E' H'=>Ra v λv=>K E' H')):=λ{E H K} hp=>by
  unfold D6 Vb Ty;rcases hp with⟨l,k,hp⟩|⟨l,z,i,k,hp,hn⟩;·simp only[Ac,hp,Bu]
  ·simp only[Ac,hp,Bu];exact Qy hn
 generalize hp:AM E (.tmp ta)=p at h0;have Z8:(∃l k,p=.ptr l k)\/∃l z i k,p=.el l z i k/\Q9 (AM E (.tmp tx))=true:=by cases p<;>first|exact .inl ⟨_,_,rfl⟩|exact .inr ⟨_,_,_,_,rfl,h0⟩|exact h0.elim
 rw[wst (by rw[Ve q1,Ve q2,hp];exact Z8)]at h1
 rw[wst (by rw[hp];exact Z8)]
 obtain⟨H',h2,h3⟩:∃H',Ra (.raw undef) (λv=>Kw (E.set d u) H')/\∀(E2:List AV),AM E2 (.tmp ta)=AM (E.set d u) (.tmp ta)->AM E2 (.tmp tx)=AM (E.set d u) (.tmp tx)->∀K':AV->KK,K' (.raw undef) E2 H'->Cj T E2 H st (.tmp ta) (.tmp tx) K':=by
  rcases Z8 with⟨l,k,rfl⟩|⟨l,z,i,k,rfl,_⟩;·exact TB (by rw[Ve q1];exact hp) h1
  ·exact ML (by rw[Ve q1];exact hp) h1
 refine h3 E (Ve q1).symm (Ve q2).symm _ ?_;unfold Ra at h2⊢;simp only at h2⊢;rw[ex];exact⟨vs,v,hv,hv2,hu _ h2⟩
theorem zZ(PA:pvB oi=true)(Mz:stB oj=true)(p1:∀t,oi.dst=some t->t∉oj.looksAt ops){Kw:KK}
  (h:FA P T ops.toList n0 i oi E H λE' H'=>BX E' oj/\D6 P T ops.toList oj E' H' Kw X):BX E oj/\D6 P T ops.toList oj E H (λE1 H1=>FA P T ops.toList n0 i oi E1 H1 Kw) X:=by
 obtain⟨Uf,WC,ity,ZX,Z3,uZ⟩:=oi;obtain⟨Kz,jop,jty,fQ,fR,jgd⟩:=oj;unfold pvB at PA;unfold stB at Mz;simp only at PA Mz
 obtain⟨hg,hdd⟩:uZ=none/\∃d,Uf=some d:=by
  cases WC<;>first|cases PA|skip
  ·rename_i x;cases x<;>first|cases PA|skip
   cases uZ<;>cases Uf<;>simp at PA
   exact⟨rfl,_,rfl⟩
  ·cases uZ<;>cases Uf<;>simp at PA
   exact⟨rfl,_,rfl⟩
 obtain⟨d,rfl⟩:=hdd;subst hg;cases jop<;>first|cases Mz|skip
 rename_i st ad xx;cases ad<;>first|cases Mz|skip
 rename_i ta;cases xx<;>first|cases Mz|skip
 rename_i tx;cases jgd<;>simp at Mz
 subst Mz;have hd:=p1 d rfl;have q1:(Xad ta)≠.tmp d:=λe=>hd (by cases e;simp[X8,Qo])
 have q2:(Xad tx)≠.tmp d:=λe=>hd (by cases e;simp[X8,Qo])
 have Ve:∀{v:AV}{x:Operand},x≠.tmp d->AM (E.set d v) x=AM E x:=λ{v x} hx=>by
  have:=L9 (E:=E) (d:=some d) (x:=v) (y:=x) (λt ht he=>hx (by cases ht;exact he))
  simpa[A6]using this
 have pv:∀{E:List AV}{H:List HO}{K:KK},FA P T ops.toList n0 i {dst:=some d,op:=WC,type:=ity,pos:=ZX,after:=Z3,guard:=none} E H K↔Bj T E H WC λv=>Ra v λv=>K (E.set d v) H:=λ{E H K}=>by
  cases WC<;>first|cases PA|skip
  all_goals
   unfold FA Vb rK Bj;simp only[Ac,QT,Au,A6]
 have noH:∀{E:List AV}{H H':List HO}{K:AV->Prop},Bj T E H WC K->Bj T E H' WC K:=λ{E H H' K} h=>by
  cases WC<;>first|cases PA|skip
  all_goals exact h
 rw[pv]at h;obtain⟨r,hr,Us⟩:=G8 h;obtain⟨u,⟨h0,h1⟩,hu,_,_⟩:=H6 hr;unfold BX at h0⊢;simp only at h0⊢;rw[Ve q1,Ve q2]at h0;refine⟨h0,?_⟩
 have wst:∀{E:List AV}{H:List HO}{K:KK},((∃l k,AM E (.tmp ta)=.ptr l k)\/∃l z i k,AM E (.tmp ta)=.el l z i k/\Q9 (AM E (.tmp tx))=true)->(D6 P T ops.toList {dst:=none,op:=.store st (.tmp ta) (.tmp tx),type:=jty,pos:=fQ,after:=fR,guard:=none} E H K X↔Cj T E H st (.tmp ta) (.tmp tx) (λv E' H'=>Ra v λv=>K E' H')):=λ{E H K} hp=>by
  unfold D6 Vb Ty;rcases hp with⟨l,k,hp⟩|⟨l,z,i,k,hp,hn⟩;·simp only[Ac,hp,Bu]
  ·simp only[Ac,hp,Bu];exact Qy hn
 generalize hp:AM E (.tmp ta)=p at h0;have Z8:(∃l k,p=.ptr l k)\/∃l z i k,p=.el l z i k/\Q9 (AM E (.tmp tx))=true:=by cases p<;>first|exact .inl ⟨_,_,rfl⟩|exact .inr ⟨_,_,_,_,rfl,h0⟩|exact h0.elim
 rw[wst (by rw[Ve q1,Ve q2,hp];exact Z8)]at h1
 rw[wst (by rw[hp];exact Z8)]
 obtain⟨H',h2,h3⟩:∃H',Ra (.raw undef) (λv=>Kw (E.set d u) H')/\∀(E2:List AV),AM E2 (.tmp ta)=AM (E.set d u) (.tmp ta)->AM E2 (.tmp tx)=AM (E.set d u) (.tmp tx)->∀K':AV->KK,K' (.raw undef) E2 H'->Cj T E2 H st (.tmp ta) (.tmp tx) K':=by
  rcases Z8 with⟨l,k,rfl⟩|⟨l,z,i,k,rfl,_⟩;·exact TB (by rw[Ve q1];exact hp) h1
  ·exact ML (by rw[Ve q1];exact hp) h1
 refine h3 E (Ve q1).symm (Ve q2).symm _ ?_;unfold Ra at h2⊢;simp only at h2⊢;rw[pv];exact noH (H:=H) (Us E H (λ_ _=>rfl) (λ_ _ _ _ _ h=>h) _ (hu _ h2))
theorem zJ(hm:swB oi oj=true)(p1:∀t,oi.dst=some t->t∉oj.looksAt ops)(p2:∀t,oi.dst=some t->oj.dst≠some t)(p3:∀t,oj.dst=some t->t∉oi.looksAt ops){Kw:KK}
  (h:FA P T ops.toList n0 i oi E H λE' H'=>BX E' oj/\D6 P T ops.toList oj E' H' Kw X):BX E oj/\D6 P T ops.toList oj E H (λE1 H1=>FA P T ops.toList n0 i oi E1 H1 Kw) X:=by
 unfold swB at hm;rcases N0 _ _▸hm with hm|hm
 ·rw[C3]at hm;refine⟨?_,kM hm.1 hm.2 p1 p2 p3 (BA h λ_ _ k=>k.2)⟩
  have h2:=hm.2;unfold apB at h2;unfold BX;split;·rename_i Py;rw[Py]at h2;simp at h2
  ·trivial
 ·rcases N0 _ _▸hm with hm|hm<;>rw[C3]at hm
  ·exact Zba hm.1 hm.2 p1 h
  ·exact zZ hm.1 hm.2 p1 h
def eJ(P:Program)(T:List TY)(ops:List Oper)(n0:Nat)(we:List Nat):Nat->List Oper->List AV->List HO->KK->XX->Prop
 |_,[],E,H,K,_=>K E H
 |i,o::r,E,H,K,X=>match A4 we i with
  |false=>FA P T ops n0 i o E H λE H=>eJ P T ops n0 we (i+1) r E H K X
  |true=>zK E o (Vb ops E o.guard (Ty none P T E H o.op (λv E' H'=>Ra v λv=>Bu E' o.dst v λHU=>eJ P T ops n0 we (i+1) r HU H' K X) X)
    (Bu E o.dst (.raw undef) λE'=>eJ P T ops n0 we (i+1) r E' H K X))
theorem jO{ZfN:List Oper}{Kw:KK}(h:zK E o (D6 P T ZfN o E H Kw X)):BX E o/\D6 P T ZfN o E H Kw X:=sD.1 h
def Yf(P:Program)(T:List TY)(ops:Array Oper)(n0:Nat)(we:List Nat)(K:KK)(X:XX)(j:Nat)(Kn:KK)(E:List AV)(H:List HO):Prop:=
 match ops[j]? with
 |none=>Kn E H
 |some o=>match A4 we j with
  |false=>FA P T ops.toList n0 j o E H Kn
  |true=>∃Kw:KK,BX E o/\D6 P T ops.toList o E H Kw X/\∀E H,Kw E H->Kn E H
def Gy(P:Program)(T:List TY)(ops:Array Oper)(n0:Nat)(we:List Nat)(K:KK)(X:XX):Nat->Array Bool->List AV->List HO->Prop
 |0,listed,E,H=>Sat P E H->Ff .any ops listed=[]/\K E H
 |fuel+1,listed,E,H=>Sat P E H->(Ff .any ops listed=[]->K E H)/\
  ∀i∈Ff .any ops listed,Yf P T ops n0 we K X i (Gy P T ops n0 we K X fuel (listed.setIfInBounds i true)) E H
theorem iM(hT:BG G.P T){r:Option Nat}{n:Nat}{Kn K:KK}(h:Yf G.P T ops n0 we K X i Kn E H)(Af:Az G C mu E H a w):
  wpOpIn (fw r) n G.P ops (Mg G K X) i (λa w=>∃E' H',Kn E' H'/\St G E' H' a w) a w:=by
 unfold Yf at h;by_cases hwr:(∃o,ops[i]?=some o)/\A4 we i=true
 ·obtain⟨⟨o,ho⟩,hm⟩:=hwr;rw[ho]at h;simp only at h;rw[hm]at h
  obtain⟨Kw,_,h,hKw⟩:=h;unfold D6 at h;unfold wpOpIn;rw[ho];simp only
  rcases Qv Af h with⟨hw,h⟩|⟨hw,h⟩
  ·rw[if_pos hw];refine DV hT h Af λa' w' hp=>?_
   obtain⟨r,E',H',hk,C',mu',CL⟩:=hp;obtain⟨E1,H1,k1,k2⟩:=ZA (Kn:=λE H=>Kw E H) hk CL
   exact⟨E1,H1,hKw _ _ k1,k2⟩
  ·rw[if_neg (by simp[hw])]
   rw[Au]at h;exact⟨λ_ _=>trivial,A6 E o.dst (.raw undef),H,hKw _ _ h,C,mu,Af.frame (Bf Af.env o.dst (by unfold Ah;rfl)) (put_defers _ _ _)⟩
 unfold wpOpIn;split;·rename_i ho;rw[ho]at h;exact⟨E,H,h,C,mu,Af⟩
 ·rename_i o ho;rw[ho]at h;simp only at h;split at h
  ·rcases N8 hT ho h Af with⟨hw,h⟩|⟨hw,h⟩;·rw[if_pos hw];exact h
   ·rw[if_neg (by simp[hw])];exact⟨λ_ _=>trivial,h⟩
  ·rename_i hm;exact absurd ⟨⟨o,ho⟩,hm⟩ hwr
theorem RE(hT:BG G.P T){r:Option Nat}{n:Nat}:∀(fuel:Nat)(listed:Array Bool)(E:List AV)(H:List HO)(a:Act)(w:World),Gy G.P T ops n0 we K X fuel listed E H->St G E H a w->wpAnyIn (fw r) n G.P .any ops (Mg G K X) fuel listed a w
 |0,listed,E,H,a,w,h,Af=>by
  unfold Gy at h;obtain⟨h1,h2⟩:=h ⟨G,a,w,rfl,Af⟩;exact⟨h1,E,H,h2,Af⟩
 |fuel+1,listed,E,H,a,w,h,Af=>by
  unfold Gy at h;obtain⟨h1,h2⟩:=h ⟨G,a,w,rfl,Af⟩;refine⟨λh0=>⟨E,H,h1 h0,Af⟩,λi hi=>?_⟩
  obtain⟨C,mu,Af⟩:=Af;exact wpOpIn_mono (λa' w' ⟨E',H',k1,k2⟩=>RE hT fuel _ E' H' a' w' k1 k2) (iM hT (h2 i hi) Af)
theorem bR(hT:BG P T)(hi:ops[i]?=some oi)(XV:A4 we i=false){U:Nat->Bool}(hUi:U i=true)
  (hUp:∀j oj,U j=true->j≠i->ops[j]?=some oj->∃e∈oj.after,Vf .any e=true/\U e.on=true):
  ∀(fuel:Nat)(listed:Array Bool)(E:List AV)(H:List HO),(∀j,U j=true->listed.getD j false=false)->
   (∀j oj,ops[j]?=some oj->U j=false->listed.getD j true=false->(A4 we j=false\/swB oi oj=true)/\oi.apart ops oj=true)->
   i∈Ff .any ops listed->FA P T ops.toList n0 i oi E H (Gy P T ops n0 we K X fuel (listed.setIfInBounds i true))->Gy P T ops n0 we K X (fuel+1) listed E H:=by
 intro fuel;induction fuel with
 |zero=>
  intro listed E H hU Ut hr h;unfold Gy;intro hs;refine⟨λh0=>(by rw[h0]at hr;cases hr),λj hj=>?_⟩
  by_cases GZ:j=i;·subst GZ;unfold Yf;rw[hi];simp only;rw[XV];exact h
  ·obtain⟨Lk,oj,El,BW⟩:=mem_ready.1 hj
   have gS:U j=false:=by
    cases hu:U j with
    |false=>rfl
    |true=>
     obtain⟨e,he,hb,Yt⟩:=hUp j oj hu GZ El;have:=BW e he hb;rw[hU _ Yt]at this;cases this
   obtain⟨fW,Qu⟩:=Ut j oj El gS Lk;exfalso;obtain⟨vi,Pw,di,ki,ti⟩:=DD h;have Gs:Sat P (A6 E oi.dst vi) (BP H (n0+i) Pw):=Hg hT hi (ti E H ⟨λ_ _=>rfl,λ_ _ _ _ _ _ _=>rfl⟩ (λ_ _ _ _ _ h=>h) rfl _ ⟨rfl,rfl⟩) hs
   unfold Gy at ki;have:=ready_mono hj GZ;rw[(ki Gs).1]at this;cases this
 |succ fuel ih=>
  intro listed E H hU Ut hr h;unfold Gy;intro hs;refine⟨λh0=>(by rw[h0]at hr;cases hr),λj hj=>?_⟩
  by_cases GZ:j=i;·subst GZ;unfold Yf;rw[hi];simp only;rw[XV];exact h
  ·obtain⟨Lk,oj,El,BW⟩:=mem_ready.1 hj
   have gS:U j=false:=by
    cases hu:U j with
    |false=>rfl
    |true=>
     obtain⟨e,he,hb,Yt⟩:=hUp j oj hu GZ El;have:=BW e he hb;rw[hU _ Yt]at this;cases this
   obtain⟨fW,Qu⟩:=Ut j oj El gS Lk
   have rest:∀E1 H1,FA P T ops.toList n0 i oi E1 H1 (Gy P T ops n0 we K X fuel ((listed.setIfInBounds j true).setIfInBounds i true))->Gy P T ops n0 we K X (fuel+1) (listed.setIfInBounds j true) E1 H1:=λE1 H1 k=>by
    refine ih (listed.setIfInBounds j true) E1 H1 (λk hk=>?_) (λk ok hk hu Vy=>?_) (ready_mono hr (Ne.symm GZ)) k
    ·have Bq:j≠k:=λhe=>by subst he;rw[gS]at hk;cases hk
     rw[getD_set_ne false Bq];exact hU k hk
    ·refine Ut k ok hk hu ?_;by_cases O1:j=k;·subst O1;exact Lk
     ·rw[getD_set_ne true O1]at Vy;exact Vy
   unfold Yf;rw[El];simp only
   cases aC:A4 we j with
   |false=>
    simp only
    have hc:=jN (Kj:=Gy P T ops n0 we K X fuel ((listed.setIfInBounds i true).setIfInBounds j true)) hT hs hi El (Ne.symm GZ) Qu h λE' H' Gs k=>by
     unfold Gy at k;have:=(k Gs).2 j (ready_mono hj GZ);unfold Yf at this;rw[El]at this;simp only at this;rw[aC]at this;exact this
    refine BA hc λE1 H1 k=>rest E1 H1 ?_
    rw[LA _ _ GZ];exact k
   |true=>
    simp only
    have hmv:swB oi oj=true:=by
     rcases fW with k|k;·rw[aC]at k;cases k
     ·simpa using k
    obtain⟨p1,p2,p3⟩:=Yg Qu;obtain⟨vi,Pw,di,ki,ti⟩:=DD h;have refl:Ek ops.toList E E oi:=⟨λ_ _=>rfl,λ_ _ _ _ _ _ _=>rfl⟩
    have Gs:Sat P (A6 E oi.dst vi) (BP H (n0+i) Pw):=Hg hT hi (ti E H refl (λ_ _ _ _ _ h=>h) rfl _ ⟨rfl,rfl⟩) hs
    unfold Gy at ki;have hd:=(ki Gs).2 j (ready_mono hj GZ);unfold Yf at hd;rw[El]at hd;simp only at hd;rw[aC]at hd
    obtain⟨Kw,hw0,A7,E5⟩:=hd;have h3:=ti E H refl (λ_ _ _ _ _ h=>h) rfl (λE' H'=>BX E' oj/\D6 P T ops.toList oj E' H' Kw X) ⟨hw0,A7⟩
    obtain⟨h4,h5⟩:=zJ hmv p1 p2 p3 h3;refine⟨_,h4,h5,λE1 H1 k=>rest E1 H1 (BA k λE2 H2 k2=>?_)⟩
    rw[LA _ _ GZ];exact E5 _ _ k2
def lY(ops:Array Oper)(we:List Nat)(listed:Array Bool)(k:Nat)(U:List Nat):Bool:=
 match ops[k]? with
 |none=>false
 |some ok=>A4 U k&&(Xaa ops.size).all (λj=>(!A4 U j||(!listed.getD j false))&&match ops[j]? with
   |none=>true
   |some oj=>(match A4 U j with
    |true=>Qt j k||oj.after.any (λe=>Vf .any e&&A4 U e.on)
    |false=>listed.getD j true||((!A4 we j||swB ok oj)&&ok.apart ops oj)))&&U.all λj=>decide (j<ops.size)
def ZM(ops:Array Oper)(we:List Nat):Nat->Nat->Array Bool->Bool
 |0,_,listed=>(Ff .any ops listed).isEmpty
 |fuel+1,k,listed=>(match A4 we k with
  |true=>(Ff .any ops listed == [k])
  |false=>(Ff .any ops listed).contains k&&lY ops we listed k (En ops k))&&ZM ops we fuel (k+1) (listed.setIfInBounds k true)
def wT(ops:Array Oper)(we:List Nat):Bool:=ZM ops we ops.size 0 (Hx ops.size false)
theorem QL(hT:BG P T):∀(l:List Oper)(k:Nat)(listed:Array Bool)(E:List AV)(H:List HO),(∀j,l[j]?=ops[k+j]?)->
  ZM ops we l.length k listed=true->eJ P T ops.toList n0 we k l E H K X->Gy P T ops n0 we K X l.length listed E H
 |[],k,listed,E,H,_,hB,h=>by
  unfold Gy;unfold eJ at h;exact λ_=>⟨by simpa[ZM]using hB,h⟩
 |o::l,k,listed,E,H,hl,hB,h=>by
  have h0:ops[k]?=some o:=by simpa using (hl 0).symm
  have Bm:∀j,l[j]?=ops[k+1+j]?:=λj=>by have:=hl (j+1);simpa[Nat.add_assoc,Nat.add_comm 1 j]using this
  simp only[Sh,ZM,C3]at hB;obtain⟨O5,pJ⟩:=hB;unfold eJ at h;cases hw:A4 we k with
  |false=>
   rw[hw]at h O5;simp only[C3]at O5 h;obtain⟨hr,hf⟩:=O5;unfold lY at hf;rw[h0]at hf;simp only[C3,PR,Rn]at hf;obtain⟨⟨hUk,BW⟩,AP⟩:=hf;have lt:∀j,A4 (En ops k) j=true->j<ops.size:=λj hj=>by simpa using AP j (Hv hj)
   refine bR hT h0 hw (U:=A4 (En ops k)) hUk (λj oj hu O1 El=>?_) l.length listed E H (λj hu=>?_) (λj oj El hu Vy=>?_) (by simpa using hr) (BA h λE' H' h'=>QL hT l (k+1) _ E' H' Bm pJ h')
   ·have:=(BW j (lt j hu)).2;rw[El]at this;simp only[hu]at this;simp only[N0]at this;rcases this with h1|h1;·exact absurd (Fj h1) O1
    ·obtain⟨e,he,h2⟩:=Xah.1 h1;simp only[C3]at h2;exact⟨e,he,h2⟩
   ·have:=(BW j (lt j hu)).1;simpa[hu]using this
   ·have Va:=(F0.1 El).1;have:=(BW j Va).2;rw[El]at this;simp only[hu]at this;simp only[Vy,N0,C3,O0,Xai,false_or]at this;simpa using this
  |true=>
   rw[hw]at h O5;simp only at h O5;have hr:Ff .any ops listed=[k]:=by simpa using O5
   unfold Gy;intro hs;refine⟨λh0=>(by rw[hr]at h0;cases h0),λj hj=>?_⟩
   rw[hr]at hj;obtain rfl:j=k:=by simpa using hj
   unfold Yf;rw[h0];simp only;rw[hw];simp only
   exact⟨_,(jO h).1,(jO h).2,λE1 H1 hh=>QL hT l (j+1) _ E1 H1 Bm pJ hh⟩
theorem Aa.Pe{id:Nat}(we:List Nat)(hT:BG P T)(hm:P.follows .mixedOrders=true)(hB:wT ops we=true)
  (h:eJ P T ops.toList H.length we 0 ops.toList E (H++Li ops.size .dead) K X):Aa P (.region id ops true) E H K X:=by
 refine⟨λn G a w hP Af=>?_⟩
 subst hP;obtain⟨C,mu,Af⟩:=Af;have CL:Az G C mu E H a w.drew:=Af.drew;have cE:=CL.pad [] ops.size;rw[Zu]at cE;have h1:=QL (ops:=ops) (n0:=H.length) (we:=we) (K:=K) (X:=X) hT ops.toList 0 (Hx ops.size false) E _ (by simp) (by simpa[wT]using hB) h
 refine wpIn_region_any hm ?_;have h2:=RE (r:=G.rd) (n:=n) hT _ _ _ _ a _ h1 ⟨C,mu,cE⟩;simpa using h2
end
section
variable {G:Cx}{C:Ae}{w:World}{mu:Mu}{H:List HO}{E:List AV}{a:Act}{P:Program}
def YM:AV->AV
 |.lit b=>.bool b
 |x=>x
theorem mW{x:AV}{v:Value}(h:Ah C w x mu v):Ah C w (YM x) mu v:=by
 cases x<;>first|exact h|(simp only[YM];unfold Ah at*;exact h)
end
section
variable {G:Cx}{C:Ae}{w w':World}{mu:Mu}{H:List HO}{E:List AV}{a:Act}{T:List TY}{P:Program}{ops:Array Oper}{K:KK}{X:XX}
theorem Zda{l:List Nat}{p q:Nat->Bool}(h:∀i,q i=true->p i=true){i:Nat}(hi:i∈l)(h1:p i=true)(h2:q i=false):(l.filter q).length<(l.filter p).length:=by
 have hle:∀l:List Nat,(l.filter q).length<=(l.filter p).length:=by
  intro l;induction l with
  |nil=>simp
  |cons x l ih=>
   simp only[Xap];cases hq:q x with
   |true=>simp[h x hq];exact ih
   |false=>cases p x<;>simp<;>omega
 induction l with
 |nil=>cases hi
 |cons x l ih=>
  simp only[Xap];rcases Uo.1 hi with rfl|hi
  ·rw[h1,h2];have:=hle l;simp;omega
  ·have:=ih hi;cases hq:q x with
   |true=>simp[h x hq];exact this
   |false=>cases p x<;>simp<;>omega
def kX(ops:Array Oper)(b:Array Bool):Nat:=((Xaa ops.size).filter λj=>!b.getD j true).length
theorem jB{D:Array Bool->List AV->List HO->Prop}{n0:Nat}
  (hs:∀b E H,D b E H->(Ff .any ops b=[]->K E H)/\∀i∈Ff .any ops b,∃(o:Oper) (Kw:KK),ops[i]?=some o/\D6 P T ops.toList o E H Kw X/\∀E2 H2,Kw E2 H2->D (b.setIfInBounds i true) E2 H2):
  ∀(fuel:Nat)(b:Array Bool)(E:List AV)(H:List HO),kX ops b<=fuel->D b E H->Dc P T ops n0 (U0 ops.size) K X fuel b E H:=by
 have AP:∀{b:Array Bool}{i:Nat},i∈Ff .any ops b->i<ops.size/\kX ops (b.setIfInBounds i true)<kX ops b:=λ{b i} hi=>by
  obtain⟨h1,o,h2,_⟩:=mem_ready.1 hi;have AP:=(F0.1 h2).1;refine⟨AP,Zda (i:=i) (λj hj=>?_) (Rn.2 AP) (by rw[h1];rfl) ?_⟩
  ·by_cases PB:i=j;·subst PB;rw[h1];rfl
   ·rw[getD_set_ne true PB]at hj;exact hj
  ·have hb:i<b.size:=by
    by_cases hb:i<b.size;·exact hb
    ·rw[Array.getD,dif_neg hb]at h1;cases h1
   simp[Array.getD,hb]
 intro fuel;induction fuel with
 |zero=>
  intro b E H hf hD;unfold Dc
  have hr:Ff .any ops b=[]:=by
   cases hr:Ff .any ops b with
   |nil=>rfl
   |cons i r=>have:=(AP (b:=b) (i:=i) (by rw[hr];simp)).2;omega
  exact λ_=>⟨hr,(hs b E H hD).1 hr⟩
 |succ fuel ih=>
  intro b E H hf hD;unfold Dc;refine λ_=>⟨(hs b E H hD).1,λi hi=>?_⟩
  obtain⟨o,Kw,ho,h,hk⟩:=(hs b E H hD).2 i hi;obtain⟨h1,h2⟩:=AP hi;unfold WV;rw[ho];simp only
  rw[UZ h1];simp only
  exact⟨Kw,h,λE1 H1 q=>ih _ _ _ (by omega) (hk _ _ q)⟩
theorem Aa.graph{id:Nat}(D:Array Bool->List AV->List HO->Prop)(hT:BG P T)(hm:P.follows .mixedOrders=true)(h0:D (Hx ops.size false) E H)
  (hs:∀b E H,D b E H->(Ff .any ops b=[]->K E H)/\∀i∈Ff .any ops b,∃(o:Oper) (Kw:KK),ops[i]?=some o/\D6 P T ops.toList o E H Kw X/\∀E2 H2,Kw E2 H2->D (b.setIfInBounds i true) E2 H2):Aa P (.region id ops true) E H K X:=by
 refine⟨λn G a w hP Af=>?_⟩
 subst hP;obtain⟨C,mu,Af⟩:=Af;have CL:Az G C mu E H a w.drew:=Af.drew;have h1:=jB (n0:=H.length) hs ops.size _ E H (by unfold kX;exact Mx (List.length_filter_le _ _) (by simp)) h0
 refine wpIn_region_any hm ?_;have h2:=HK (r:=G.rd) (n:=n) hT _ _ _ _ a _ h1 ⟨C,mu,CL⟩;simpa using h2
def Zha:List Bool->Nat->Bool
 |[],_=>false
 |b::_,0=>b
 |_::r,n+1=>Zha r n
def dK:List Bool->Nat->List Bool
 |[],_=>[]
 |_::r,0=>true::r
 |b::r,n+1=>b::dK r n
def eqB:List Bool->List Bool->Bool
 |[],[]=>true
 |a::x,b::y=>(a == b)&&eqB x y
 |_,_=>false
theorem UK:∀{x y:List Bool},eqB x y=true->x=y
 |[],[],_=>rfl
 |a::x,b::y,h=>by
  unfold eqB at h;simp only[C3,beq_iff_eq]at h;rw[h.1,UK h.2]
 |[],_::_,h|_::_,[],h=>by cases h
theorem sN:∀(b:List Bool)(i:Nat),(dK b i).toArray=b.toArray.setIfInBounds i true:=by
 intro b i
 have:dK b i=b.set i true:=by
  induction b generalizing i with
  |nil=>rfl
  |cons x b ih=>cases i with
   |zero=>rfl
   |succ i=>simp[dK,ih]
 rw[this];simp
def okL(ops:Array Oper)(L:List (List Bool×List Nat)):Bool:=
 (L.all λx=>(Ff .any ops x.1.toArray == x.2)&&x.2.all λi=>L.any λy=>eqB y.1 (dK x.1 i))&&L.any λy=>eqB y.1 (Li ops.size false)
def mA:List (Nat×Nat×AV)->List Bool->List AV->List AV
 |[],_,E=>E
 |(i,s,v)::r,b,E=>mA r b (match Zha b i with|true=>E.set s v|false=>E)
end
open Go.RowKit (Below)
section
variable {G:Cx}{C C':Ae}{w w':World}{mu:Mu}{H:List HO}{E:List AV}{a:Act}{T:List TY}{P:Program}
structure Ed(P:Program)(f:FuncId)(args:List AV)(e:TypeId)(sz:Nat)(es:List AV)(R:AV->List AV->Prop):Prop where
 Eh:Cq P f=true
 out:∀(C:Ae)(mu:Mu)(w:World)(vs:List Value),cM C w->AU C w (λ_=>True) mu [.arr e sz es]->Ab C w args mu vs->
  Calls P f vs.toArray w λen w'=>∃r v Cg C',en=.returned v/\R r Cg/\Cg.length=es.length/\Kl C mu w C' mu w'/\AU C' w' (λ_=>True) mu [.arr e sz Cg]/\Ah C' w' r mu v
def Za8(e:TypeId)(sz n:Nat)(v:Value)(H H2:List HO)(K:List AV->Prop):Prop:=
 ∃Cg R,H2=[.arr e sz Cg]/\H=.arr e sz Cg::.ghost [.own 0 sz 0 n] [v] []::R/\Cg.length=n/\K Cg
def WN(T:List TY)(rs:List ResultVar)(e:TypeId)(sz:Nat)(es:List AV)(n:Nat)(g:Value)(R:AV->List AV->Prop)(E:List AV)(H:List HO):Prop:=
 Xn T E H rs λvs=>match vs with
  |[v]=>CQ 1 H 4 v λv=>CT 1 H [.arr e sz es] H λH2=>Za8 e sz n g H H2 λes=>R v es
  |vs=>CQ 1 H 5 (.tuple vs) λv=>CT 1 H [.arr e sz es] H λH2=>Za8 e sz n g H H2 λes=>R v es
theorem sQ{C0:Ae}{fF:Mu}{w0:World}{e:TypeId}{sz:Nat}{es Cg:List AV}{v:Value}{R:List HO}{fr:Nat->Prop}(hh:AU C0 w0 (λ_=>True) fF [.arr e sz es])(hv:Ah C0 w0 (.own 0 sz 0 es.length) fF v)
  (h:AU C w fr mu (.arr e sz Cg::.ghost [.own 0 sz 0 es.length] [v] []::R)) (hv':Ah C w (.own 0 sz 0 es.length) mu v) (hl:Cg.length=es.length):mu.below 1=fF:=by
 funext l
 rcases l with _|l
 ·rw[CC (by omega)]
  unfold Ah at hv hv';obtain⟨x0,m0,q1,q2,rfl⟩:=hv;obtain⟨x,m,p1,p2,hx⟩:=hv';rw[m,m0];congr 2;obtain⟨_,k0⟩:=hh.BM 0 e sz es (by simp)
  obtain⟨_,k⟩:=h.BM 0 e sz Cg (by simp)
  rcases k0 with⟨k0,rfl⟩|⟨b0,c0,ZnL,k0,_⟩<;>rcases k with⟨k,rfl⟩|⟨b,c,cur,k,_⟩
  all_goals
   rw[k0]at m0;rw[k]at m;simp only[E8.injEq,GO.arr.injEq]at m m0;subst m;subst m0;simp[BO]at hx
  ·rfl
  ·obtain⟨h1,h2⟩:=hx;rw[h1,h2,hl]
 ·have h1:fF (l+1)=none:=by
   cases hm:fF (l+1)with
   |none=>rfl
   |some g=>have:=hh.Is _ _ hm;simp at this
  rw[h1];unfold Mu.below;simp
theorem Ed.tV{f:FuncId}{fn:Func}{c:Code}{rest:List AV}{e:TypeId}{sz:Nat}{es:List AV}{R:AV->List AV->Prop}(hf:P.funcs[f]?=some fn)(hb:fn.body=some c)(hT:BG P T)(hg:Cq P f=true)
  (h:∀v,Ei fn.ntmps (.own 0 sz 0 es.length::rest) λE=>Aa P c E [.arr e sz es,.ghost [.own 0 sz 0 es.length] [v] []] (WN T fn.results.toList e sz es es.length v R) (λen E H=>match en with|.ret=>WN T fn.results.toList e sz es es.length v R E H|_=>False)):
  Ed P f (.own 0 sz 0 es.length::rest) e sz es R:=by
 refine⟨hg,λC mu w vs AP hh hr=>(callsIn_wide (n:=0)).1 (callsIn_of_wp_marks (F:=Fence.wide) (n:=0) hf hb trivial ?_ rfl)⟩
 obtain⟨v,hv,BY,rfl⟩:∃v,Ah C w (.own 0 sz 0 es.length) mu v/\∃BY,vs=v::BY:=by
  unfold Ab at hr;obtain⟨v,BY,h1,h2,_⟩:=hr;exact⟨v,h2,BY,h1⟩
 have h:=h v;unfold Ei at h;rw[DS,Db]at h;let G:Cx:={P:=P,pM:=⟨AP,λb o hc ⟨l,g,hl,hg⟩=>(hh.fresh l g b hl hg).2.2 o hc⟩,C0:=C,M0:=λb=>∃l g,mu l=some g/\g.Aq=some b,W0:=w,Ds:=λl b=>mu l=some (.CS b),np:=1}
 have Af:St G ((.own 0 sz 0 es.length::rest)++Li (fn.ntmps-(.own 0 sz 0 es.length::rest).length) (.raw undef)) [.arr e sz es,.ghost [.own 0 sz 0 es.length] [v] []] {tmps:=(v::BY).toArray++Hx (fn.ntmps-(v::BY).toArray.size) undef,defers:=[]} w:=by
  refine⟨C,mu,λ_ _ h=>h,λ_ _ h=>.inl h,AP.lt,⟨λl g hl=>by have:=hh.Is l g hl;simp at this⊢;omega,λl g b hl hg=>⟨.inr ⟨l,g,hl,hg⟩,(hh.fresh l g b hl hg).2⟩,hh.sep,λl hl=>?_,λl cs hl=>?_,λl e' BI Cg hl=>?_,λl ks us hl=>?_⟩,?_,⟨[],rfl,?_⟩,⟨rfl,rfl,rfl,Ql _,λ_ _ _=>rfl⟩,by simp[G],λ_ _ _ h=>h⟩
  ·match l,hl with
   |l+2,hl=>simp at hl
  ·match l,hl with
   |l+2,hl=>simp at hl
  ·match l,hl with
   |0,hl=>exact hh.BM 0 e' BI Cg hl
   |l+2,hl=>simp at hl
  ·match l,hl with
   |l+2,hl=>simp at hl
  ·have hl:=Ap _ hr;have:=AF hr (B2 (C:=C) (w:=w) (mu:=mu) (fn.ntmps-(.own 0 sz 0 es.length::rest).length));rw[<-hl]at this;simpa[hl]using this
  ·refine⟨λl cs us ms hl=>?_,λl I hl=>?_,λD hD=>(by cases hD),Pl,λl l' cs us ms cs' Xc DE hl Bm Bq=>?_⟩
   ·match l,hl with
    |1,hl=>
     simp at hl;obtain⟨rfl,rfl,rfl⟩:=hl;exact⟨by unfold Ab;exact⟨v,[],rfl,hv,by unfold Ab;rfl⟩,Pl,λD hD=>by cases hD⟩
    |l+2,hl=>simp at hl
   ·match l,hl with
    |l+2,hl=>simp at hl
   ·match l,hl with
    |1,hl=>
     simp at hl;obtain⟨rfl,rfl,rfl⟩:=hl;intro D hD;cases hD
    |l+2,hl=>simp at hl
 have core:∀{C1:Ae}{HQ:Mu}{E1:List AV}{H1:List HO}{a1:Act}{w1:World}{x:AV}{u:Value}{n:Nat},Az G C1 HQ E1 H1 a1 w1->Ah C1 w1 x HQ u->(CQ 1 H1 n x λr=>CT 1 H1 [.arr e sz es] H1 λH2=>Za8 e sz es.length v H1 H2 λCg=>R r Cg)->
   ∃r Cg C',R r Cg/\Cg.length=es.length/\Kl C mu w C' mu w1/\AU C' w1 (λ_=>True) mu [.arr e sz Cg]/\Ah C' w1 r mu u:=by
  intro C1 HQ E1 H1 a1 w1 x u n hs hx hk;obtain⟨r,H2,C',⟨Cg,R',rfl,rfl,hl,hR⟩,q1,q2,q3,_⟩:=Zcf (H0:=[.arr e sz es]) (R:=λr H2=>Za8 e sz es.length v H1 H2 λCg=>R r Cg) hh hs hx hk
  obtain⟨ms,_,d2⟩:=hs.defers;have Ji:=(d2.Bl 1 [.own 0 sz 0 es.length] [v] [] (by simp)).1
  unfold Ab at Ji;obtain⟨v',_,he,hv',_⟩:=Ji;simp only[Xag.injEq]at he;obtain⟨rfl,_⟩:=he;have hm:=sQ hh hv hs.heap hv' hl;simp only[List.length_singleton]at q1 q2 q3;rw[hm]at q1 q2 q3;exact⟨r,Cg,C',hR,hl,q1,q2,q3⟩
 have fin:∀E1 H1 a w',WN T fn.results.toList e sz es es.length v R E1 H1->St G E1 H1 a w'->LeavesInM (fw none) 0 P fn a.tmps (λen w'=>∃r u Cg C',en=.returned u/\R r Cg/\Cg.length=es.length/\Kl C mu w C' mu w'/\
   AU C' w' (λ_=>True) mu [.arr e sz Cg]/\Ah C' w' r mu u) a.defers .returning w':=by
  rintro E1 H1 a w' hk ⟨C1,HQ,Af⟩;obtain⟨ms,d1,d2⟩:=Af.defers;rw[show a.defers=ms.map mark by simpa[G]using d1]
  refine FU (G:=G) rfl (by simp) ms rfl Af d2 λa' NR ha Gs=>?_
  unfold WN at hk;obtain⟨xs,us,hk,hr,A0⟩:=P6 (G:=G) hT Gs _ hk
  have hm:(fn.results.mapM (Zf a'.tmps)).run P NR=.ok us.toArray NR:=by
   rw[Vz];simp only[Sem.run_map,A0,G2,G]
  have Gt:(results fn a.tmps).run P NR=.ok (if h:us.toArray.size=1 then us.toArray[0]else .tuple us.toArray) NR:=by
   rw[<-ha,FR,I0,hm];rfl
  unfold LeavesIn;split at hk
  ·rename_i x;unfold Ab at hr;obtain⟨u,Xc,rfl,hr,OZ⟩:=hr;unfold Ab at OZ;subst OZ;obtain⟨r,Cg,C',k1,k2,k3⟩:=core Gs hr hk;exact⟨u,by rw[Gt];simp,r,u,Cg,C',rfl,k1,k2,k3⟩
  ·rename_i Bq
   have hl:us.length≠1:=λe=>by
    have:=Ap _ hr;rw[e]at this;cases xs with
    |nil=>simp at this
    |cons x xs=>
     cases xs with
     |nil=>exact Bq x rfl
     |cons _ _=>simp at this
   have hrt:Ah C1 NR (.tuple xs) HQ (.tuple us.toArray):=by unfold Ah;exact⟨us,rfl,hr⟩
   obtain⟨r,Cg,C',k1,k2,k3⟩:=core Gs hrt hk;exact⟨.tuple us.toArray,by rw[Gt];simp[hl],r,.tuple us.toArray,Cg,C',rfl,k1,k2,k3⟩
 refine wpIn_mono (h.out 0 G _ w rfl Af) λen a w' q=>?_
 cases en with
 |normal|ret=>obtain⟨E,H,h1,h2⟩:=q;exact fin E H a w' h1 h2
 |exit id=>obtain⟨E,H,h1,h2⟩:=q;exact h1.elim
 |goto l|outgrown=>exact q.elim
 |panic ch=>obtain⟨x,v,E,H,C1,HQ,rfl,hk,Af,hx⟩:=q;exact hk.elim
theorem Ed.A3{f:FuncId}{fn:Func}{c:Code}{rest:List AV}{e:TypeId}{sz n:Nat}{es:List AV}{R:AV->List AV->Prop}(hf:P.funcs[f]?=some fn)(hb:fn.body=some c)(hT:BG P T)(hg:Cq P f=true)(hn:n=es.length)
  (h:∀v,Ei fn.ntmps (.own 0 sz 0 n::rest) λE=>Aa P c E [.arr e sz es,.ghost [.own 0 sz 0 n] [v] []] (WN T fn.results.toList e sz es n v R) (λen E H=>match en with|.ret=>WN T fn.results.toList e sz es n v R E H|_=>False)):
  Ed P f (.own 0 sz 0 n::rest) e sz es R:=by
 subst hn;exact Ed.tV hf hb hT hg h
theorem Aj.Lb{f:FuncId}{args:List AV}{e:TypeId}{sz:Nat}{es:List AV}{R:AV->List AV->Prop}{K:AV->KK}{X:XX}(h:Ed P f args e sz es R)(hw:Bo [.arr e sz es] args=true)(hh:Ew [.arr e sz es] [.arr e sz es] H True)
  (hk:∀r Cg,R r Cg->Cg.length=es.length->FI H 0 (.arr e sz Cg) λH'=>K r E H'):Aj P f args E H K X:=by
 refine⟨h.Eh,λG C mu a w vs hP Af hr=>(h.out C (mu.only [.arr e sz es]) w vs Af.qI (Tz Af hh) (BZ args hw hr)).mono λen w' hp=>?_⟩
 obtain⟨r,v,Cg,C',rfl,hR,hlen,GK,Z7,Fi⟩:=hp;have hk:=hk r Cg hR hlen;rw[AG]at hk;have ME:∀i,Iw ([]:List HO) i=false:=λi=>rfl
 have oZ:mu.mix (mu.only [.arr e sz es]) [.arr e sz es]=mu:=by
  funext l
  unfold Mu.mix;split;·rename_i h;exact Fa h
  ·rfl
 obtain⟨_,hle,_⟩:=Ev hh;have hH:0<H.length:=by simp at hle;omega
 have MP:∀i:Nat,AR [.arr e sz es] i=true->i=0:=λi hi=>by
  obtain⟨ob,ho,_⟩:=Cw.1 hi;have:=(Ak.1 ho).1;simpa using this
 obtain⟨m1,m2⟩:=XG (HS:=[]) (H1:=[.arr e sz Cg]) (H':=H.set 0 (.arr e sz Cg)) Af hh GK Z7 (by simp) rfl (λl hl=>by match l,hl with|l+1,hl=>simp at hl)
  (by simp) (λi hi=>by obtain rfl:=MP i hi;rw[E4 hH];rfl)
  (λi hi=>by
   have Bq:i≠0:=λh0=>by subst h0;cases hi
   rw[C4 (Ne.symm Bq)]
   cases H[i]? with
   |none=>rfl
   |some o=>simp only[Qs];rw[jU ME])
  (λl x _ hm=>by rw[oZ];exact hm)
 rw[GQ ME,oZ]at m1;rw[oZ]at m2;exact .inl ⟨r,v,_,_,C',_,rfl,hk,m1,Ah.mono (Ext.refl _ _) _ m2 Fi⟩
end
def mE(n:Nat)(us:List Value)(ms:List Nat)(H:List HO)(Q:List AV->List HO->Prop):Prop:=
 Cm H n λob=>match ob with
  |.ghost E Xc DE=>(Xc=us/\DE=ms)/\FI H n (.ghost [] [] []) λH'=>Q E H'
  |_=>False
def zW(T:List TY)(rs:List ResultVar)(n:Nat)(us:List Value)(ms:List Nat)(K:AV->KK)(E:List AV)(H:List HO):Prop:=
 Xn T E H rs λvs=>mE n us ms H λE2 H2=>match vs with
  |[v]=>K v E2 H2
  |vs=>K (.tuple vs) E2 H2
section
variable {G:Cx}{C C':Ae}{w w':World}{mu:Mu}{H:List HO}{E:List AV}{a:Act}{T:List TY}{P:Program}
theorem CI{x:HO}{l:Nat}{y:HO}(h:(H++[x])[l]?=some y):(l<H.length/\H[l]?=some y)\/(l=H.length/\y=x):=by
 rw[SG]at h;split at h;·rename_i hl;exact .inl ⟨hl,h⟩
 ·rename_i hl
  have h2:l-H.length=0:=by
   have:=(Ak.1 h).1;simp at this;omega
  rw[h2]at h;simp only[ND,E8.injEq]at h;exact .inr ⟨by omega,h.symm⟩
theorem gL{fr:Nat->Prop}(h:AU C w fr mu H)(E0:List AV)(us:List Value)(ms:List Nat):AU C w fr mu (H++[.ghost E0 us ms]):=by
 refine⟨λl g hl=>by have:=h.Is l g hl;simp;omega,h.fresh,h.sep,λl hl=>?_,λl cs hl=>?_,λl e sz es hl=>?_,λl ks vs hl=>?_⟩
 ·rcases CI hl with⟨_,k⟩|⟨_,k⟩;·exact h.dead l k
  ·cases k
 ·rcases CI hl with⟨_,k⟩|⟨_,k⟩;·exact h.Cr l cs k
  ·cases k
 ·rcases CI hl with⟨_,k⟩|⟨_,k⟩;·exact h.BM l e sz es k
  ·cases k
 ·rcases CI hl with⟨_,k⟩|⟨_,k⟩;·exact h.maps l ks vs k
  ·cases k
theorem mL{fr:Nat->Prop}{ms:List Nat}{MJ:List (Nat×Obj)}(h:BE C w fr mu H (ms.map (λD=>(D,GL))++MJ)){E0:List AV}{us:List Value}(hr:Ab C w E0 mu us):
  BE C w fr mu (H++[.ghost E0 us ms]) MJ:=by
 have Qp:=h.nd;rw[H4,Qx]at Qp;obtain⟨n1,n2,n3⟩:=Qp;have My:(ms.map (λD=>(D,GL))).map Xav=ms:=by rw[List.map_map];exact List.map_id ms
 rw[My]at n1 n3;have MA:∀D∈ms,(D,GL)∈ms.map (λD=>(D,GL))++MJ:=λD hD=>List.mem_append_left _ (KG.2 ⟨D,hD,rfl⟩)
 have ZdG:∀D,D∉(ms.map (λD=>(D,GL))++MJ).map Xav->D∉ms/\D∉MJ.map Xav:=λD hD=>by
  rw[H4,My]at hD;simp only[It,not_or]at hD;exact hD
 refine⟨λl cs vs DE hl=>?_,λl I hl=>?_,λD hD=>h.marks D (Ix _ hD),n2,λl l' cs vs uF cs' BY U8 hl Bm Bq=>?_⟩
 ·rcases CI hl with⟨_,k⟩|⟨_,k⟩
  ·obtain⟨q1,q2,q3⟩:=h.Bl l cs vs DE k;exact⟨q1,q2,λD hD=>⟨(q3 D hD).1,(ZdG D (q3 D hD).2).2⟩⟩
  ·simp only[HO.ghost.injEq]at k;obtain⟨rfl,rfl,rfl⟩:=k;exact⟨hr,n1,λD hD=>⟨h.marks _ (MA D hD),λhm=>n3 D hD D hm rfl⟩⟩
 ·rcases CI hl with⟨_,k⟩|⟨_,k⟩
  ·obtain⟨q1,Sw,Sr,q2,q3,q4,q5⟩:=h.Hz l I k;refine⟨q1,Sw,Sr,q2,q3,λD hD=>q4 D (Ix _ hD),λl' cs vs DE Bm D hD=>?_⟩
   rcases CI Bm with⟨_,k'⟩|⟨_,k'⟩;·exact q5 l' cs vs DE k' D hD
   ·simp only[HO.ghost.injEq]at k';obtain⟨rfl,rfl,rfl⟩:=k';exact q4 _ (MA D hD)
  ·cases k
 ·intro D hD wA;rcases CI hl with⟨_,k⟩|⟨e,k⟩
  ·rcases CI Bm with⟨_,k'⟩|⟨_,k'⟩;·exact h.sep l l' cs vs uF cs' BY U8 k k' Bq D hD wA
   ·simp only[HO.ghost.injEq]at k';obtain⟨rfl,rfl,rfl⟩:=k';exact(ZdG D ((h.Bl l cs vs uF k).2.2 D hD).2).1 wA
  ·simp only[HO.ghost.injEq]at k;obtain⟨rfl,rfl,rfl⟩:=k;rcases CI Bm with⟨_,k'⟩|⟨e',k'⟩;·exact(ZdG D ((h.Bl l' cs' BY U8 k').2.2 D wA).2).1 hD
   ·omega
theorem rJ{fr:Nat->Prop}{ms:List Nat}{MJ:List (Nat×Obj)}(h:BE C w fr mu H MJ){n:Nat}{E0:List AV}{us:List Value}(hn:H[n]?=some (.ghost E0 us ms)):
  BE C w fr mu (H.set n (.ghost [] [] [])) (ms.map (λD=>(D,GL))++MJ):=by
 have AP:=(Ak.1 hn).1;obtain⟨g1,g2,g3⟩:=h.Bl n E0 us ms hn;have My:(ms.map (λD=>(D,GL))).map Xav=ms:=by rw[List.map_map];exact List.map_id ms
 have get:∀{l:Nat}{y:HO},(H.set n (.ghost [] [] []))[l]?=some y->(l=n/\y=.ghost [] [] [])\/(l≠n/\H[l]?=some y):=λ{l y} hl=>by
  by_cases e:l=n
  ·subst e;rw[E4 AP]at hl;simp only[E8.injEq]at hl;exact .inl ⟨rfl,hl.symm⟩
  ·rw[C4 (Ne.symm e)]at hl;exact .inr ⟨e,hl⟩
 refine⟨λl cs vs DE hl=>?_,λl I hl=>?_,λD hD=>?_,?_,λl l' cs vs uF cs' BY U8 hl Bm Bq=>?_⟩
 ·rcases get hl with⟨_,k⟩|⟨e,k⟩
  ·simp only[HO.ghost.injEq]at k;obtain⟨rfl,rfl,rfl⟩:=k;exact⟨by unfold Ab;rfl,Pl,λD hD=>by cases hD⟩
  ·obtain⟨q1,q2,q3⟩:=h.Bl l cs vs DE k;refine⟨q1,q2,λD hD=>⟨(q3 D hD).1,?_⟩⟩
   rw[H4,My,It,not_or];exact⟨λhm=>h.sep l n cs vs DE E0 us ms k hn e D hD hm,(q3 D hD).2⟩
 ·rcases get hl with⟨_,k⟩|⟨e,k⟩;·cases k
  ·obtain⟨q1,Sw,Sr,q2,q3,q4,q5⟩:=h.Hz l I k;refine⟨q1,Sw,Sr,q2,q3,λD hD=>?_,λl' cs vs DE Bm D hD=>?_⟩
   ·rcases It.1 hD with hD|hD
    ·obtain⟨D0,hD0,rfl⟩:=KG.1 hD;exact q5 n E0 us ms hn D0 hD0
    ·exact q4 D hD
   ·rcases get Bm with⟨_,k'⟩|⟨e',k'⟩
    ·simp only[HO.ghost.injEq]at k';obtain⟨rfl,rfl,rfl⟩:=k';cases hD
    ·exact q5 l' cs vs DE k' D hD
 ·rcases It.1 hD with hD|hD
  ·obtain⟨D0,hD0,rfl⟩:=KG.1 hD;exact(g3 D0 hD0).1
  ·exact h.marks D hD
 ·rw[H4,My,Qx];exact⟨g2,h.nd,λD hD D' wA e=>(g3 D hD).2 (by rw[e];exact wA)⟩
 ·rcases get hl with⟨_,k⟩|⟨_,k⟩
  ·simp only[HO.ghost.injEq]at k;obtain⟨rfl,rfl,rfl⟩:=k;intro D hD;cases hD
  ·rcases get Bm with⟨_,k'⟩|⟨_,k'⟩
   ·simp only[HO.ghost.injEq]at k';obtain⟨rfl,rfl,rfl⟩:=k';intro D _ hD;cases hD
   ·exact h.sep l l' cs vs uF cs' BY U8 k k' Bq
theorem Up{fr:Nat->Prop}(h:AU C w fr mu H){n:Nat}{E0:List AV}{us:List Value}{ms:List Nat}(hn:H[n]?=some (.ghost E0 us ms)):AU C w fr mu (H.set n (.ghost [] [] [])):=by
 have AP:=(Ak.1 hn).1
 have get:∀{l:Nat}{y:HO},(H.set n (.ghost [] [] []))[l]?=some y->y=.ghost [] [] []\/H[l]?=some y:=λ{l y} hl=>by
  by_cases e:l=n
  ·subst e;rw[E4 AP]at hl;simp only[E8.injEq]at hl;exact .inl hl.symm
  ·rw[C4 (Ne.symm e)]at hl;exact .inr hl
 refine⟨λl g hl=>by have:=h.Is l g hl;simpa using this,h.fresh,h.sep,λl hl=>?_,λl cs hl=>?_,λl e sz es hl=>?_,λl ks vs hl=>?_⟩
 ·rcases get hl with k|k;·cases k
  ·exact h.dead l k
 ·rcases get hl with k|k;·cases k
  ·exact h.Cr l cs k
 ·rcases get hl with k|k;·cases k
  ·exact h.BM l e sz es k
 ·rcases get hl with k|k;·cases k
  ·exact h.maps l ks vs k
theorem mD{n:Nat}{us:List Value}{ms:List Nat}{Q:List AV->List HO->Prop}(hk:mE n us ms H Q):∃E2,H[n]?=some (.ghost E2 us ms)/\Q E2 (H.set n (.ghost [] [] [])):=by
 unfold mE at hk;replace hk:=AL.1 hk;obtain⟨ob,Bh,hk⟩:=hk;cases ob<;>first|exact hk.elim|skip
 rename_i E2 Xc DE;obtain⟨⟨rfl,rfl⟩,hk⟩:=hk;rw[AG]at hk;exact⟨E2,Bh,hk⟩
theorem Aj.inline{f:FuncId}{fn:Func}{c:Code}{args:List AV}{K:AV->KK}{X:XX}(hf:P.funcs[f]?=some fn)(hb:fn.body=some c)(hT:BG P T)(hg:Cq P f=true)
  (h:∀(us:List Value)(ms:List Nat),Ei fn.ntmps args λE1=>Aa P c E1 (H++[.ghost E us ms]) (zW T fn.results.toList H.length us ms K)
   (λe E1 H1=>match e with|.ret=>zW T fn.results.toList H.length us ms K E1 H1|.panic x=>mE H.length us ms H1 λE2 H2=>X (.panic x) E2 H2|_=>False)):Aj P f args E H K X:=by
 refine⟨hg,λG C mu a w vs hP Af hr=>(callsIn_wide (n:=0)).1 (callsIn_of_wp_marks (F:=Fence.wide) (n:=0) (by rw[<-hP]at hf;rw[<-hP];exact hf) hb trivial ?_ rfl)⟩
 subst hP;obtain⟨ms,d1,d2⟩:=Af.defers;replace h:=h a.tmps.toList ms;unfold Ei at h;rw[DS,Db]at h;let G':Cx:={G with ds:=[],rd:=none,Se:=by intro l h;cases h}
 have hx:=mL d2 Af.env
 have CL:St G' (args++Li (fn.ntmps-args.length) (.raw undef)) (H++[.ghost E a.tmps.toList ms]) {tmps:=vs.toArray++Hx (fn.ntmps-vs.toArray.size) undef,defers:=[]} w:=by
  refine⟨C,mu,Af.c0,Af.c1,Af.lt,gL Af.heap _ _ _,?_,⟨[],rfl,hx⟩,⟨Af.Ax.os,Af.Ax.tape,Af.Ax.output,Af.Ax.size,Af.Ax.block⟩,by have:=Af.Ds.1;simp only[G1,Sh,Qq];exact Mx this (Nat.le_add_right _ _),Af.Ds.2⟩
  have hl:=Ap _ hr;have:=AF hr (B2 (C:=C) (w:=w) (mu:=mu) (fn.ntmps-args.length));simpa[hl]using this
 have back:∀{C1:Ae}{HQ:Mu}{E1:List AV}{H1:List HO}{a1:Act}{w1:World}{E2:List AV},Az G' C1 HQ E1 H1 a1 w1->H1[H.length]?=some (.ghost E2 a.tmps.toList ms)->Az G C1 HQ E2 (H1.set H.length (.ghost [] [] [])) a w1:=λ{C1 HQ E1 H1 a1 w1 E2} hs Ji=>by
  obtain⟨U8,_,e2⟩:=hs.defers;have e3:BE C1 w1 G.fresh HQ H1 G.MJ:=BE.less e2;exact⟨hs.c0,hs.c1,hs.lt,Up hs.heap Ji,(e3.Bl _ _ _ _ Ji).1,⟨ms,d1,rJ e3 Ji⟩,⟨hs.Ax.os,hs.Ax.tape,hs.Ax.output,hs.Ax.size,hs.Ax.block⟩,by rw[List.length_set];exact hs.Ds.1,hs.Ds.2⟩
 have fin:∀E1 H1 a1 w1,zW T fn.results.toList H.length a.tmps.toList ms K E1 H1->St G' E1 H1 a1 w1->LeavesInM (fw none) 0 G.P fn a1.tmps (λe w'=>(∃r v E' H' C' mu',e=.returned v/\K r E' H'/\Az G C' mu' E' H' a w'/\Ah C' w' r mu' v)\/
   (∃x v E' H' C' mu',e=.panicked [{v,recovered:=false}]/\X (.panic x) E' H'/\Az G C' mu' E' H' a w'/\Ah C' w' x mu' v)) a1.defers .returning w1:=by
  rintro E1 H1 a1 w1 hk ⟨C1,HQ,hs⟩;obtain⟨U8,e1,e2⟩:=hs.defers;rw[show a1.defers=U8.map mark by simpa[G']using e1]
  refine FU (G:=G') rfl (by simp) U8 rfl hs e2 λa2 w2 ha cE=>?_
  unfold zW at hk;replace hk:=P6 (G:=G') hT cE _ hk;obtain⟨xs,us,hk,hrr,A0⟩:=hk;replace hk:=mD hk;obtain⟨E2,Ji,hk⟩:=hk
  have hm:(fn.results.mapM (Zf a2.tmps)).run G.P w2=.ok us.toArray w2:=by
   rw[Vz];simp only[Sem.run_map,A0,G2,G']
  have Gt:(results fn a1.tmps).run G.P w2=.ok (if h:us.toArray.size=1 then us.toArray[0]else .tuple us.toArray) w2:=by
   rw[<-ha,FR,I0,hm];rfl
  have hs3:=back cE Ji;unfold LeavesIn;split at hk
  ·rename_i x;unfold Ab at hrr;obtain⟨u,Xc,rfl,hrr,OZ⟩:=hrr;unfold Ab at OZ;subst OZ;exact⟨u,by rw[Gt];simp,.inl ⟨x,u,E2,_,C1,HQ,rfl,hk,hs3,hrr⟩⟩
  ·rename_i Bq
   have hl:us.length≠1:=λe=>by
    have:=Ap _ hrr;rw[e]at this;cases xs with
    |nil=>simp at this
    |cons x xs=>
     cases xs with
     |nil=>exact Bq x rfl
     |cons _ _=>simp at this
   exact⟨.tuple us.toArray,by rw[Gt];simp[hl],.inl ⟨_,.tuple us.toArray,E2,_,C1,HQ,rfl,hk,hs3,by unfold Ah;exact⟨us,rfl,hrr⟩⟩⟩
 refine wpIn_mono (h.out 0 G' _ w rfl CL) λe a1 w1 q=>?_
 cases e with
 |normal|ret=>obtain⟨E1,H1,h1,h2⟩:=q;exact fin E1 H1 a1 w1 h1 h2
 |exit id=>obtain⟨E1,H1,h1,h2⟩:=q;exact h1.elim
 |goto l|outgrown=>exact q.elim
 |panic ch=>
  obtain⟨x,v,E1,H1,C1,HQ,rfl,hk,hs,vB⟩:=q;obtain⟨U8,e1,e2⟩:=hs.defers;show LeavesInM (fw none) 0 G.P fn a1.tmps _ a1.defers (.panicking [{v,recovered:=false}]) w1
  rw[show a1.defers=U8.map mark by simpa[G']using e1]
  have hs0:Az G' C1 HQ [x] H1 {tmps:=#[v],defers:=a1.defers} w1:=hs.frame (by unfold Ab;exact⟨v,[],rfl,vB,by unfold Ab;rfl⟩) rfl
  refine FU (G:=G') (tm2:=#[v]) rfl (by simp) U8 (a:={tmps:=#[v],defers:=a1.defers}) rfl hs0 e2 λa2 w2 ha cE=>?_
  have Mw:Ah C1 w2 x HQ v:=by
   have:=cE.env;rw[ha]at this;unfold Ab at this;obtain⟨v',BY,he,k,_⟩:=this;simp only[Xag.injEq]at he;obtain⟨rfl,_⟩:=he;exact k
  replace hk:=mD hk;obtain⟨E2,Ji,hk⟩:=hk;exact .inr ⟨x,v,E2,_,C1,HQ,rfl,hk,back cE Ji,Mw⟩
end
structure Sv where
 a:Option Addr
 n:Nat
 c:Nat
def Sv.v(s:Sv):Value:=.slice s.a s.n s.c
def Sv.nil:Sv:=⟨none,0,0⟩
abbrev Tok:=List (Sv×List (List UInt8))
def N4(s:List UInt8):Value:=.string ⟨s.toArray⟩
def MF(e0:TypeId)(Sw Sr:Nat->Prop)(w:World)(x:Sv×List (List UInt8)):Prop:=
 (x.1=.nil/\x.2=[])\/∃b cap cur rest,x.1=⟨some ⟨b,0,none⟩,x.2.length,cap⟩/\Sw b/\Sr b/\w.heap[b]?=some (.cells cur e0 (0,0))/\cap<=9223372036854775807/\cur.size=cap/\
  cur.toList=x.2.map N4++rest/\(∀v∈cur.toList,v.oneCell'=true)/\∀s∈x.2,s.length<=9223372036854775807
def Sv.CS(s:Sv):Option Nat:=s.a.map (·.block)
def jF(e0:TypeId)(ts:Tok)(Sw Sr:Nat->Prop)(w:World):Prop:=
 (∀x∈ts,MF e0 Sw Sr w x)/\∀(i j:Nat) x y,ts[i]?=some x->ts[j]?=some y->i≠j->∀b,x.1.CS=some b->y.1.CS≠some b
theorem MF.same{e0:TypeId}{Sw Sr:Nat->Prop}{w w':World}{x:Sv×List (List UInt8)}(h:MF e0 Sw Sr w x)(hs:∀b,Sr b->w'.heap[b]?=w.heap[b]?):MF e0 Sw Sr w' x:=by
 rcases h with h|⟨b,cap,cur,rest,h1,h2,h3,h4,h5⟩;·exact .inl h
 ·exact .inr ⟨b,cap,cur,rest,h1,h2,h3,by rw[hs b h3];exact h4,h5⟩
def GG(e0:TypeId)(ts:Tok):Inv where
 J:=jF e0 ts
 Ta:=λSw Sr w w' h hs=>⟨λx hx=>(h.1 x hx).same hs.block,h.2⟩
 Cb:=λ_ _=>True
 nb:=0
section
variable {G:Cx}{C C':Ae}{w w':World}{mu:Mu}{H:List HO}{E:List AV}{a:Act}{T:List TY}{P:Program}
theorem Az.Tx(Af:Az G C mu E H a w){I:Inv}(Bh:H[0]?=some (.inv I)):∃Sw Sr,Zbw C w G.fresh mu I.Cb I.nb Sw Sr/\I.J Sw Sr w/\
  ∀(In:Inv)(w':World)(HM FB:Nat->Prop),In.Cb=I.Cb->In.nb=I.nb->NP (λb=>b<w.heap.size/\¬Sw b) w w'->(∀b,HM b->Sw b\/w.heap.size<=b)->(∀b,FB b->(Sr b\/w.heap.size<=b)\/∃o,C b o)->(∀b,HM b->FB b)->(∀b,FB b->b<w'.heap.size)->
   In.J HM FB w'->Az G C mu E (H.set 0 (.inv In)) a w':=by
 obtain⟨ms,d1,d2⟩:=Af.defers;obtain⟨_,Sw,Sr,hf,hJ,hD1,hD2⟩:=d2.Hz 0 I Bh;have h0:0<H.length:=(Ak.1 Bh).1;refine⟨Sw,Sr,hf,hJ,λIn w' HM FB eq1 qD q1 q2 q3 q4 q5 hIn=>?_⟩
 have hx:Ext C C w w':=Ext.of_block (λ_ _ h=>h) λb o hc=>q1.block b ⟨Af.lt b o hc,λhs=>hf.KA b o hs hc⟩
 have FY:∀{i g b},mu i=some g->g.Aq=some b->w'.heap[b]?=w.heap[b]?:=λ{i g b} hi hg=>q1.block b ⟨(Af.heap.fresh i g b hi hg).2.1,λhs=>hf.own b (hf.sub b hs) i g hi hg⟩
 have get:∀{i TI},(H.set 0 (.inv In))[i]?=some TI->(i=0/\TI=.inv In)\/(H[i]?=some TI):=λ{i TI} hi=>by
  by_cases e:0=i;·subst e;rw[E4 h0]at hi;simp only[E8.injEq]at hi;exact .inl ⟨rfl,hi.symm⟩
  ·rw[C4 e]at hi;exact .inr hi
 have Rm:∀D:Nat×Obj,¬Sr D.1->CG C w G.fresh mu D->CG C w' G.fresh mu D:=λD hd m=>by
  refine⟨?_,m.KA,m.own,m.fr⟩;rw[q1.block D.1 ⟨(F0.1 m.at_).1,λhs=>hd (hf.sub D.1 hs)⟩];exact m.at_
 have DG:∀D:Nat×Obj,¬Sr D.1->CG C w G.fresh mu D->¬FB D.1:=λD hd m hs=>by
  rcases q3 D.1 hs with (k|k)|⟨o,k⟩;·exact hd k
  ·have:=(F0.1 m.at_).1;omega
  ·exact m.KA o k
 have gg:∀{i:Nat}{cs:List AV}{us:List Value}{DE:List Nat},(H.set 0 (.inv In))[i]?=some (.ghost cs us DE)->H[i]?=some (.ghost cs us DE):=λ{i cs us DE} hi=>by
  rcases get hi with⟨_,h⟩|h;·cases h
  ·exact h
 have WH:(∀D∈ms.map (λD=>(D,GL))++G.MJ,¬FB D.1)/\∀(l:Nat)(cs:List AV)(vs:List Value)(DE:List Nat),(H.set 0 (.inv In))[l]?=some (.ghost cs vs DE)->∀D∈DE,¬FB D:=
  ⟨λD hd=>DG D (hD1 D hd) (d2.marks D hd),λl cs vs DE hl D hd=>DG (D,GL) (hD2 l cs vs DE (gg hl) D hd) ((d2.Bl l cs vs DE (gg hl)).2.2 D hd).1⟩
 refine⟨Af.c0,Af.c1,λb o hc=>Vv (Af.lt b o hc) q1.size,⟨λi g hi=>by simpa using Af.heap.Is i g hi,λi g b hi hg=>?_,Af.heap.sep,λi hi=>?_,λi cs hi=>?_,λi e sz es hi=>?_,λi ks vs hi=>?_⟩,
  Ab.mono hx _ (AI.refl _) Af.env,⟨ms,d1,λi cs us DE hi=>?_,λi I' hi=>?_,λd hd=>Rm d (hD1 d hd) (d2.marks d hd),d2.nd,λl l' cs vs ms cs' BY DE hl Bm Bq=>d2.sep l l' cs vs ms cs' BY DE (gg hl) (gg Bm) Bq⟩,?_,by simpa using Af.Ds.1,Af.Ds.2⟩
 ·obtain⟨k1,k2,k3⟩:=Af.heap.fresh i g b hi hg;exact⟨k1,Vv k2 q1.size,k3⟩
 ·rcases get hi with⟨_,h⟩|h;·cases h
  ·exact Af.heap.dead i h
 ·rcases get hi with⟨_,h⟩|h;·cases h
  ·obtain⟨b,cur,e,k1,k2,k3,k4⟩:=Af.heap.Cr i cs h;exact⟨b,cur,e,k1,by rw[FY k1 rfl];exact k2,Ab.mono hx _ (AI.refl _) k3,k4⟩
 ·rcases get hi with⟨_,h⟩|h;·cases h
  ·obtain⟨k0,k⟩:=Af.heap.BM i e sz es h;refine⟨k0,k.imp id λ⟨b,cap,cur,k1,k2,k3,k4,k5,k6,k7⟩=>⟨b,cap,cur,k1,k2.of_eq (by rw[FY k1 rfl]),k3,k4,k5,Ab.mono hx _ (AI.refl _) k6,k7⟩⟩
 ·rcases get hi with⟨_,h⟩|h;·cases h
  ·obtain⟨b,es,cl,k1,k2,k3⟩:=Af.heap.maps i ks vs h;exact⟨b,es,cl,k1,by rw[FY k1 rfl];exact k2,k3⟩
 ·rcases get hi with⟨_,h⟩|h;·cases h
  ·obtain⟨k1,k3,k2⟩:=d2.Bl i cs us DE h;exact⟨Ab.mono hx _ (AI.refl _) k1,k3,λd hd=>⟨Rm (d,GL) (hD2 i cs us DE h d hd) (k2 d hd).1,(k2 d hd).2⟩⟩
 ·have fin:∀I',I'=In->i=0->i=0/\∃Sw Sr,Zbw C w' G.fresh mu I'.Cb I'.nb Sw Sr/\I'.J Sw Sr w'/\(∀D∈ms.map (λD=>(D,GL))++G.MJ,¬Sr D.1)/\∀(l:Nat) cs vs DE,(H.set 0 (.inv In))[l]?=some (.ghost cs vs DE)->∀D∈DE,¬Sr D:=λI' hI' h0'=>by
   subst hI';refine⟨h0',HM,FB,⟨λb hb=>?_,by rw[qD];exact Mx hf.base q1.size,by rw[eq1,qD];exact hf.cb,by rw[qD];exact hf.ob,q4,q5,λb hb i g hi hg=>?_,λb o hb hc=>?_⟩,hIn,WH⟩
   ·rcases q2 b hb with k|k;·exact hf.fr b k
    ·exact .inl (Mx Af.Ax.size k)
   ·obtain⟨_,k2,k3⟩:=Af.heap.fresh i g b hi hg;rcases q3 b hb with (k|k)|⟨o,k⟩;·exact hf.own b k i g hi hg
    ·omega
    ·exact absurd k (k3 o)
   ·rcases q2 b hb with k|k;·exact hf.KA b o k hc
    ·have:=Af.lt b o hc;omega
  rcases get hi with⟨e,h⟩|h
  ·simp only[HO.inv.injEq]at h;exact fin I' h e
  ·have hi0:=(d2.Hz i I' h).1;subst hi0;rw[E4 h0]at hi;simp only[E8.injEq,HO.inv.injEq]at hi;exact fin I' hi.symm rfl
 ·refine⟨q1.os.trans Af.Ax.os,q1.tape.trans Af.Ax.tape,q1.output.trans Af.Ax.output,Mx Af.Ax.size q1.size,λk hk hm=>?_⟩
  rw[q1.block k ⟨Vv hk Af.Ax.size,λhs=>?_⟩]
  ·exact Af.Ax.block k hk hm
  ·rcases hf.fr k hs with h|h;·omega
   ·exact hm h
theorem Az.owner(Af:Az G C mu E H a w){I:Inv}(Bh:H[0]?=some (.inv I)):∃Sw Sr,Zbw C w G.fresh mu I.Cb I.nb Sw Sr/\I.J Sw Sr w/\
  ∀(In:Inv)(w':World)(HM FB:Nat->Prop),In.Cb=I.Cb->In.nb=I.nb->NP (λb=>b<w.heap.size/\¬Sw b) w w'->(∀b,HM b->Sw b\/w.heap.size<=b)->(∀b,FB b->Sr b\/w.heap.size<=b)->(∀b,HM b->FB b)->(∀b,FB b->b<w'.heap.size)->
   In.J HM FB w'->Az G C mu E (H.set 0 (.inv In)) a w':=by
 obtain⟨Sw,Sr,h1,h2,h3⟩:=Af.Tx Bh;exact⟨Sw,Sr,h1,h2,λIn w' HM FB e1 e2 q1 q2 q3=>h3 In w' HM FB e1 e2 q1 q2 λb hb=>.inl (q3 b hb)⟩
theorem Wg:∀{ss:List (List UInt8)} {vs:List Value},Ab C w (ss.map AV.str) (Bc mu) vs->vs=ss.map N4/\∀s∈ss,s.length<=9223372036854775807
 |[],vs,h=>by
  simp only[List.map_nil]at h;unfold Ab at h;exact⟨h,λs hs=>by cases hs⟩
 |s::ss,vs,h=>by
  simp only[Ky]at h;unfold Ab at h;obtain⟨v,BY,rfl,h1,h2⟩:=h;unfold Ah at h1;obtain⟨rfl,h3⟩:=h1;obtain⟨rfl,h4⟩:=Wg h2;exact⟨rfl,λx hx=>by rcases Uo.1 hx with rfl|hx;exact h3;exact h4 x hx⟩
theorem pY(ss:List (List UInt8)):flat (ss.map AV.str)=ss.map AV.str:=by
 unfold flat;induction ss with
 |nil=>rfl
 |cons s ss ih=>rw[Ky,List.flatMap_cons,ih];rfl
theorem QR{ts:Tok}{j:Nat}{y:Sv×List (List UInt8)}(h:∀(i j:Nat) x y,ts[i]?=some x->ts[j]?=some y->i≠j->∀b,x.1.CS=some b->y.1.CS≠some b)
  (hy:∀(i:Nat) x,ts[i]?=some x->i≠j->∀b,x.1.CS=some b->y.1.CS≠some b):∀(i k:Nat) x z,(ts.set j y)[i]?=some x->(ts.set j y)[k]?=some z->i≠k->∀b,x.1.CS=some b->z.1.CS≠some b:=by
 intro i k x z hi hk Bq b hb
 have get:∀{i:Nat}{x},(ts.set j y)[i]?=some x->(i=j/\x=y)\/(i≠j/\ts[i]?=some x):=λ{i x} hi=>by
  by_cases e:i=j
  ·subst e;have AP:i<ts.length:=by have:=(Ak.1 hi).1;simpa using this
   rw[E4 AP]at hi;simp only[E8.injEq]at hi;exact .inl ⟨rfl,hi.symm⟩
  ·rw[C4 (Ne.symm e)]at hi;exact .inr ⟨e,hi⟩
 rcases get hi with⟨e1,rfl⟩|⟨e1,k1⟩
 ·rcases get hk with⟨e2,rfl⟩|⟨e2,k2⟩;·omega
  ·exact λhz=>hy k z k2 e2 b hz hb
 ·rcases get hk with⟨e2,rfl⟩|⟨e2,k2⟩;·exact hy i x k1 e1 b hb
  ·exact h i k x z k1 k2 Bq b hb
theorem dB{e0:TypeId}{ts:Tok}(Af:Az G C mu E H a w)(Bh:H[0]?=some (.inv (GG e0 ts))){t ty:TypeId}{by':Nat}{z:Value}{i:TypeInfo}(A:bX G.P t e0 1 by' z i){j:Nat}{s:Sv}{es ss:List (List UInt8)}(hj:ts[j]?=some (s,es))
  (h1:1<=ss.length) {u:Value} (hu:∃ad c vs,u=.slice (some ad) ss.length c/\vs.length=ss.length*1/\Ab C w (ss.map AV.str) (Bc mu) vs/\(∀j v,vs[j]?=some v->w.cell? (ad.add j)=some v)/\∀v∈vs,v.oneCell'=true)
  (hb:(es.length+ss.length)*by'<=140737488355328) (hm:es.length+ss.length<=9223372036854775807):
  ∃(s':Sv) (w':World),(Ur #[t,t] ty #[s.v,u]).run G.P w=.ok s'.v w'/\Az G C mu E (H.set 0 (.inv (GG e0 (ts.set j (s',es++ss))))) a w':=by
 obtain⟨Sw,Sr,hf,hJ,key⟩:=Af.owner Bh;obtain⟨rD,hJ2⟩:jF e0 ts Sw Sr w:=hJ;obtain⟨ad,c,vs,rfl,XW,hr,Eu,VC⟩:=hu;obtain⟨rfl,hlen⟩:=Wg hr;have MA:(s,es)∈ts:=Kf hj;have Va:j<ts.length:=(Ak.1 hj).1;have ZdJ:=rD _ MA;unfold MF at ZdJ;simp only at ZdJ
 -- a new array
 have fresh:∀(w':World)(cap:Nat)(rest:List Value),w'=w.drew.alloc (.cells ((es++ss).map N4++rest).toArray e0)->(es++ss).length+rest.length=cap->cap<=9223372036854775807->(∀v∈rest,v.oneCell'=true)->(∀x∈es,x.length<=9223372036854775807)->
   Az G C mu E (H.set 0 (.inv (GG e0 (ts.set j (⟨some ⟨w.heap.size,0,none⟩,(es++ss).length,cap⟩,es++ss))))) a w':=by
  rintro w' cap rest rfl hc hcm hro vT;have hold:∀b,b<w.heap.size->(w.drew.alloc (.cells ((es++ss).map N4++rest).toArray e0)).heap[b]?=w.heap[b]?:=λb hb=>heap_alloc_old w.drew _ hb
  refine key _ _ (λb=>Sw b\/b=w.heap.size) (λb=>Sr b\/b=w.heap.size) rfl rfl ⟨rfl,rfl,rfl,by simp,λb hb=>hold b hb.1⟩ (λb hb=>hb.imp id λh=>by omega) (λb hb=>hb.imp id λh=>by omega) (λb hb=>hb.imp (hf.sub b) id)
   (λb hb=>by
    rcases hb with hb|hb
    ·have:=hf.lt b hb;simp;omega
    ·simp;omega) ⟨λx hx=>?_,QR hJ2 λi x hi Bq b hb=>?_⟩
  ·obtain⟨k,hk⟩:=Yx.1 hx;by_cases e:k=j
   ·subst e;rw[E4 Va]at hk;simp only[E8.injEq]at hk;subst hk;refine .inr ⟨w.heap.size,cap,_,rest,rfl,.inr rfl,.inr rfl,heap_alloc_new _ _,hcm,by simp only[Xal,G1,Fl]at *;omega,rfl,λv hv=>?_,λx hx=>?_⟩
    ·simp only[It]at hv;rcases hv with hv|hv;·obtain⟨y,_,rfl⟩:=KG.1 hv;rfl
     ·exact hro v hv
    ·rcases It.1 hx with hx|hx;·exact vT x hx
     ·exact hlen x hx
   ·rw[C4 (Ne.symm e)]at hk;rcases rD x (Kf hk)with h|⟨b,bK,cur,jZ,q1,q2,q3,q4,q5⟩;·exact .inl h
    ·exact .inr ⟨b,bK,cur,jZ,q1,.inl q2,.inl q3,by rw[hold b (hf.lt b q3)];exact q4,q5⟩
  ·rcases rD x (Kf hi)with⟨h,_⟩|⟨b',bK,cur,jZ,q1,q2,q3,q4,q5⟩;·rw[h]at hb;cases hb
   ·rw[q1]at hb;simp only[Sv.CS,Qs,E8.injEq]at hb;subst hb;have:=hf.lt b' q3;simp only[Sv.CS,Qs,ne_eq,E8.injEq];omega
 rcases ZdJ with⟨rfl,rfl⟩|⟨b,cap,cur,rest,rfl,hSw,yS,hblk,HR,EI,aH,hc1,vT⟩
 ·have MP:=run_append_nil (P:=G.P) w t ty e0 i z A.ht A.hi A.hz ad ss.length c (ss.map N4) (by rw[XW,A.hs]) Eu (by omega) (by simp only[Qq]at hm;omega) (by rw[A.hb];simp only[Qq,Vw]at hb;omega)
  have lI:=grownCap_ge w ss.length 0 e0;have hle:=grownCap_le_maxLen w ss.length 0 e0 (by simp only[maxLen,Qq]at *;omega)
  simp only[maxLen]at hle;refine⟨_,_,?_,fresh _ (grownCap w ss.length 0 e0) (Xam z.cells (grownCap w ss.length 0 e0-ss.length)).toList rfl (by rw[IX A];simp only[List.nil_append];omega) (by omega) (A.one _) (λx hx=>by cases hx)⟩
  show(Ur #[t,t] ty #[.slice none 0 0,_]).run G.P w=_
  rw[MP,Me];rfl
 ·have hlc:es.length<=cap:=by
   have:=congrArg List.length aH;simp only[Nw,G1,Fl]at this;omega
  by_cases Uj:es.length+ss.length<=cap
  ·have MP:=run_append_room (P:=G.P) w t ty e0 i A.ht A.hi b es.length cap cur hblk ad ss.length c (ss.map N4) (by rw[XW,A.hs]) Eu VC Uj (by rw[A.hs,XW];omega)
   rw[A.hs]at MP;refine⟨⟨some ⟨b,0,none⟩,es.length+ss.length,cap⟩,_,MP,?_⟩
   have FZ:cur.toList.take (es.length*1)++ss.map N4++cur.toList.drop (es.length*1+(ss.map N4).length)=(es++ss).map N4++rest.drop ss.length:=by
    rw[aH,Nat.mul_one,Xaq (by simp),H4]
    congr 1;rw[<-Xas,List.drop_left' (by simp),Fl]
   have hrl:rest.length=cap-es.length:=by
    have:=congrArg List.length aH;simp only[Nw,G1,Fl]at this;omega
   rw[FZ];have hbs:b<w.heap.size:=hf.lt b yS;refine key _ _ Sw Sr rfl rfl (QU (λh=>h.2 hSw) _) (λb hb=>.inl hb) (λb hb=>.inl hb) hf.sub (λb hb=>by have:=hf.lt b hb;simpa using this) ⟨λx hx=>?_,QR hJ2 λi' x hi Bq b' MC=>?_⟩
   ·obtain⟨k,hk⟩:=Yx.1 hx;by_cases e:k=j
    ·subst e;rw[E4 Va]at hk;simp only[E8.injEq]at hk;subst hk;refine .inr ⟨b,cap,_,rest.drop ss.length,by simp only[G1],hSw,yS,setRow_heap _ _ _ _ _ _ hblk,HR,by simp only[Xal,G1,Fl,List.length_drop];omega,rfl,λv hv=>?_,λx hx=>?_⟩
     ·simp only[It]at hv;rcases hv with hv|hv;·obtain⟨y,_,rfl⟩:=KG.1 hv;rfl
      ·exact hc1 v (by rw[aH];exact Ix _ (List.mem_of_mem_drop hv))
     ·rcases It.1 hx with hx|hx;·exact vT x hx
      ·exact hlen x hx
    ·rw[C4 (Ne.symm e)]at hk;rcases rD x (Kf hk)with h|⟨b',bK,ZkR,jZ,q1,q2,q3,q4,q5⟩;·exact .inl h
     ·refine .inr ⟨b',bK,ZkR,jZ,q1,q2,q3,?_,q5⟩;rw[setRow_other];·exact q4
      ·intro eb
       subst eb
       exact hJ2 k j x _ hk hj e b' (by rw[q1];rfl) rfl
   ·exact hJ2 i' j x _ hi hj Bq b' MC
  ·have MP:=run_append_grow (P:=G.P) w t ty e0 i z A.ht A.hi A.hz ⟨b,0,none⟩ es.length cap (es.map N4) (by rw[Fl,A.hs];omega)
    (λk v hv=>by
     rw[add_lit]
     refine(I2 hblk) k v ?_
     rw[aH,Ll (by have:=(Ak.1 hv).1;exact this)]
     exact hv)
    ad ss.length c (ss.map N4) (by rw[XW,A.hs]) Eu (by omega) (by omega) (growslice_fits (by omega) (by rw[A.hb];exact hb))
   have lI:=grownCap_ge w (es.length+ss.length) cap e0;have hle:=grownCap_le_maxLen w (es.length+ss.length) cap e0 (by simp only[maxLen];omega)
   simp only[maxLen]at hle;refine⟨_,_,?_,fresh _ (grownCap w (es.length+ss.length) cap e0) (Xam z.cells (grownCap w (es.length+ss.length) cap e0-(es.length+ss.length))).toList rfl (by rw[IX A,G1];omega) (by omega) (A.one _) vT⟩
   show(Ur #[t,t] ty #[.slice _ _ _,_]).run G.P w=_
   rw[MP,List.append_toArray,Me,<-H4,G1];rfl
end
def GN(T:List TY)(E:List AV)(H:List HO)(t t':TypeId)(s x:Operand)(K:AV->KK):Prop:=
 match Qt t t' with
 |true=>Cm T t λy=>(match y.k with
  |.slice e Bv by' _=>(match Qt Bv 1&&Nat.ble 1 by' with
   |true=>De E s λsv=>De E x λxv=>Fo H xv λsz xs=>(match Qt sz 1 with
    |true=>Gc T e λz=>DB z λzc=>(match Qt zc.length 1&&zc.all Dr with
     |true=>∃(ts:Tok) (j:Nat) (s:Sv) (es ss:List (List UInt8)),(sv=.raw s.v/\H[0]?=some (.inv (GG e ts))/\ts[j]?=some (s,es)/\xs=ss.map AV.str/\1<=ss.length/\(es.length+ss.length)*by'<=140737488355328)/\
      ∀s':Sv,FI H 0 (.inv (GG e (ts.set j (s',es++ss)))) λH'=>K (.raw s'.v) E H'
     |false=>False)
    |false=>False)
   |false=>False)
  |_=>False)
 |false=>False
def dC(T:List TY)(E:List AV)(H:List HO)(o:Op)(K:AV->KK):Prop:=
 match o with
 |.call c=>(match c.callee,c.args.toList,c.argTypes.toList with
  |.builtin .append,[s,x],[t,t']=>GN T E H t t' s x K
  |_,_,_=>False)
 |_=>False
section
variable {G:Cx}{C C':Ae}{w w':World}{mu:Mu}{H:List HO}{E:List AV}{a:Act}{T:List TY}{P:Program}{K:KK}{X:XX}{e0:TypeId}{ts:Tok}
theorem mY(hT:BG G.P T)(h:Az G C mu E H a w){t t' ty:TypeId}{s x:Operand}{K:AV->KK}(hk:GN T E H t t' s x K):GM G a w K (Ur #[t,t'] ty #[a.eval s,a.eval x]):=by
 unfold GN at hk;split at hk;case h_2=>exact hk.elim
 rename_i htt;obtain rfl:=Fj htt;replace hk:=AL.1 hk;obtain⟨y,hy,hk⟩:=hk
 split at hk;case h_2=>exact hk.elim
 rename_i e Bv by' ag hs
 split at hk;case h_2=>exact hk.elim
 rename_i hp;simp only[C3]at hp;obtain rfl:=Fj hp.1;have Zkd:=Sd hp.2;rw[Ac,Ac]at hk;have DG:=AX h.env s;have Vx:=AX h.env x;replace hk:=UL h Vx hk;obtain⟨sz,xs,hk,oU,hxs⟩:=hk;split at hk;case h_2=>exact hk.elim
 rename_i gB;obtain rfl:=Fj gB;replace hk:=IS hT hk;obtain⟨z,ye,Rj,hk,Z4⟩:=hk;rw[Am]at hk;split at hk;case h_2=>exact hk.elim
 rename_i G0;simp only[C3]at G0;obtain⟨zv,i',A⟩:=xL C w hT hy hs (Ql 1) Rj Z4 (Fj G0.1) G0.2;obtain⟨ts,j,sv,es,ss,⟨q1,q2,q3,rfl,q5,q6⟩,hk⟩:=hk;rw[q1]at DG;have hsv:a.eval s=sv.v:=by unfold Ah at DG;exact DG
 have hu:∃ad c vs,a.eval x=.slice (some ad) ss.length c/\vs.length=ss.length*1/\Ab C w (ss.map AV.str) (Bc mu) vs/\(∀j v,vs[j]?=some v->w.cell? (ad.add j)=some v)/\∀v∈vs,v.oneCell'=true:=by
  rcases hxs with⟨_,k⟩|⟨ad,c,vs,k1,k2,k3,k4,k5⟩
  ·have:=congrArg List.length k;simp at this;subst this;simp at q5
  ·rw[Fl]at k1 k2;rw[pY]at k3;exact⟨ad,c,vs,k1,k2,k3,k4,k5⟩
 have hm:es.length+ss.length<=9223372036854775807:=by
  have:=Nat.le_mul_of_pos_right (es.length+ss.length) (show 0<by' by omega)
  omega
 obtain⟨s',w',k1,k2⟩:=dB (ty:=ty) h q2 A q3 q5 hu q6 hm;have hk:=hk s';rw[AG]at hk;exact⟨_,s'.v,_,_,C,mu,w',hk,by rw[hsv];exact k1,k2,by unfold Ah;rfl⟩
theorem YP(hT:BG G.P T){o:Oper}{K:AV->KK}{Kn:KK}{r:Option Nat}{n:Nat}(h:dC T E H o.op K)(Af:Az G C mu E H a w){next:Act->World->Prop}(hn:∀a w,IQ G o K a w->next a w):
  o.wpIn (fw r) n G.P a w next (Mg G Kn X):=by
 unfold dC at h;split at h;case h_2=>exact h.elim
 rename_i c ho;split at h;case h_2=>exact h.elim
 rename_i s x t t' hc h1 h2;obtain⟨cK,args,Jt⟩:=c;simp only at hc h1 h2;subst hc;obtain rfl:args=#[s,x]:=by cases args;simp_all
 obtain rfl:Jt=#[t,t']:=by cases Jt;simp_all
 obtain⟨r,v,E',H',C',mu',w',k1,k2,k3,k4⟩:=mY (ty:=o.type) hT Af h;exact Bz (λc hc=>by rw[ho]at hc;cases hc) (AK (X:=X) (Q:=Kn) hn k1 (by simp[execOp,ho,resolve,invoke,builtin,k2]) k3 k4)
theorem Az.ZcC(h:Az G C mu E [] a w)(e0:TypeId):Az G C mu E [.inv (GG e0 [])] a w:=by
 obtain⟨ms,d1,d2⟩:=h.defers
 have one:∀{l:Nat}{y:HO},[HO.inv (GG e0 [])][l]?=some y->l=0/\y=.inv (GG e0 []):=λ{l y} hl=>by
  cases l with
  |zero=>simp at hl;exact⟨rfl,hl.symm⟩
  |succ l=>simp at hl
 have Pz:∀l g,mu l≠some g:=λl g hl=>by have:=h.heap.Is l g hl;simp at this
 refine⟨h.c0,h.c1,h.lt,⟨λl g hl=>absurd hl (Pz l g),λl g b hl=>absurd hl (Pz l g),λl g b l' g' hl=>absurd hl (Pz l g),λl hl=>?_,λl cs hl=>?_,λl e sz es hl=>?_,λl ks vs hl=>?_⟩,h.env,⟨ms,d1,λl cs vs DE hl=>?_,λl I hl=>?_,d2.marks,d2.nd,λl l' cs vs ms cs' BY DE hl=>?_⟩,h.Ax,by have:=h.Ds.1;simp at this;simp;omega,h.Ds.2⟩
 ·cases (one hl).2
 ·cases (one hl).2
 ·cases (one hl).2
 ·cases (one hl).2
 ·cases (one hl).2
 ·obtain⟨h0,h1⟩:=one hl;simp only[HO.inv.injEq]at h1;subst h1;exact⟨h0,λ_=>False,λ_=>False,⟨λb hb=>hb.elim,Xac _,λ_ _ _=>.inl trivial,λl g b hl=>absurd hl (Pz l g),λ_ h=>h,λ_ h=>h.elim,λ_ h=>h.elim,λ_ _ h=>h.elim⟩,(show jF e0 [] (λ_=>False) (λ_=>False) w from ⟨λx hx=>(by cases hx),λi j x y hi=>(by simp at hi)⟩),λ_ _ h=>h,λl' cs vs DE Bm=>by cases (one Bm).2⟩
 ·cases (one hl).2
theorem LC.ZcC(e0:TypeId){c:Code}{K2:DK}{X2:DX}(h:LC P c E [.inv (GG e0 [])] K X K2 X2):LC P c E [] K X K2 X2:=
 ⟨λn G a w hP hr ⟨C,mu,Af⟩=>h.out n G a w hP hr ⟨C,mu,Af.ZcC e0⟩⟩
theorem Aa.ZcB{c:Code}(Bh:H[0]?=some (.inv (GG e0 ts)))(h:Aa P c E (H.set 0 (.inv (GG e0 (ts++[(Sv.nil,[])])))) K X):Aa P c E H K X:=
 ⟨λn G a w hP ⟨C,mu,Af⟩=>by
  obtain⟨Sw,Sr,hf,hJ,key⟩:=Af.owner Bh
  obtain⟨rD,hJ2⟩:jF e0 ts Sw Sr w:=hJ
  have get:∀{i:Nat}{x},(ts++[(Sv.nil,([]:List (List UInt8)))])[i]?=some x->ts[i]?=some x\/x=(Sv.nil,[]):=λ{i x} hi=>by
   rw[SG]at hi;split at hi;·exact .inl hi
   ·have:=Kf hi;simp at this
    exact .inr this
  refine h.out n G a w hP ⟨C,mu,key _ w Sw Sr rfl rfl ⟨rfl,rfl,rfl,Ql _,λ_ _=>rfl⟩ (λb hb=>.inl hb) (λb hb=>.inl hb) hf.sub hf.lt ⟨λx hx=>?_,λi j x y hi hj Bq b hb MC=>?_⟩⟩
  ·rcases It.1 hx with hx|hx
   ·exact rD x hx
   ·simp at hx;subst hx
    exact .inl ⟨rfl,rfl⟩
  ·rcases get hi with k|rfl
   ·rcases get hj with k'|rfl;·exact hJ2 i j x y k k' Bq b hb MC
    ·cases MC
   ·cases hb⟩
def VV(ts:Tok)(x y:AV):Prop:=(x=y/\closed x=true)\/∃(j:Nat) (s:Sv) (ss:List (List UInt8)),ts[j]?=some (s,ss)/\x=.raw s.v/\y=.sl 1 (ss.map AV.str)
def IB(ts:Tok):List AV->List AV->Prop
 |[],[]=>True
 |x::xs,y::ys=>VV ts x y/\IB ts xs ys
 |_,_=>False
def jK(H:List HO)(ts:Tok)(x y:AV):Prop:=VV ts x y\/(∃cs ds,x=.agg cs/\y=.agg ds/\IB ts cs ds)\/∃l cs ds,x=.ptr l 0/\y=.at_ ds/\H[l]?=some (.cells cs)/\IB ts cs ds
def Xa(H:List HO)(ts:Tok):List AV->List AV->Prop
 |[],[]=>True
 |x::xs,y::ys=>jK H ts x y/\Xa H ts xs ys
 |_,_=>False
def VR(H:List HO)(ts:Tok)(x y:AV):Prop:=jK H ts x y\/∃f cs ds,x=.fn f cs/\y=.fn f ds/\Xa H ts cs ds
def SQ(H:List HO)(ts:Tok):List AV->List AV->Prop
 |[],[]=>True
 |x::xs,y::ys=>VR H ts x y/\SQ H ts xs ys
 |_,_=>False
theorem CN:∀(xs:List AV),An xs=true->IB ts xs xs
 |[],_=>trivial
 |x::xs,h=>by
  unfold An at h;simp only[C3]at h;exact⟨.inl ⟨rfl,h.1⟩,CN xs h.2⟩
theorem Th{C2:Ae}{b:Nat}{cur:Array Value}{e:TypeId}{fz:Nat×Nat}(hb:w.heap[b]?=some (.cells cur e fz)):∀(ss:List (List UInt8)) (o:Nat) (rest:List Value),cur.toList.drop o=ss.map N4++rest->(∀k,k<ss.length->C2 b (o+k))->(∀s∈ss,s.length<=9223372036854775807)->
  Rows C2 w 1 (ss.map AV.str) b o
 |[],o,rest,_,_,_=>by simp[Rows]
 |s::ss,o,rest,hc,hC,hl=>by
  simp only[Ky];unfold Rows
  have h0:cur[o]?=some (N4 s):=by
   have:=congrArg (λl:List Value=>l[0]?) hc
   simp only[Xaj,Nat.add_zero,Ky,XY,ND]at this;rw[Hs]at this;exact this
  refine⟨rfl,⟨N4 s,rfl,⟨by simpa using hC 0 (by simp),by simp[W1,hb,h0]⟩,?_⟩,Th hb ss (o+1) rest ?_ (λk hk=>by have:=hC (k+1) (by simpa using hk);rwa [show o+1+k=o+(k+1) by omega]) λx hx=>hl x (by simp[hx])⟩
  ·unfold Ah;exact⟨rfl,hl s (by simp)⟩
  ·rw[<-Xas,hc];simp
theorem zI{Sw Sr:Nat->Prop}{C2:Ae}{s:Sv}{ss:List (List UInt8)}(h:MF e0 Sw Sr w (s,ss))(hC:∀b,Sr b->s.CS=some b->∀o,C2 b o)(mu:Mu):Ah C2 w (.sl 1 (ss.map AV.str)) mu s.v:=by
 unfold Ah;rcases h with⟨h1,h2⟩|⟨b,cap,cur,rest,h1,h2,h3,h4,h5,h6,h7,h8,h9⟩
 ·simp only at h1 h2;subst h1;subst h2
  exact .inl ⟨⟨none,rfl⟩,rfl⟩
 ·simp only at h1 h2;subst h1
  have hl:ss.length<=cap:=by
   have:=congrArg List.length h7;simp only[Nw,G1,Fl]at this;omega
  refine .inr ⟨b,0,cap,by simp[Sv.v],by simpa using hl,h5,Th h4 ss 0 rest (by simpa using h7) (λk _=>hC b h3 rfl _) h9⟩
theorem SS{Sw Sr:Nat->Prop}{C2:Ae}(KF:∀x∈ts,MF e0 Sw Sr w x)(hC:∀b,Sr b->∀o,C2 b o)(hx:Ext C C2 w w){x y:AV}{u:Value}(h:VV ts x y)(hr:Ah C w x mu u):Ah C2 w y Mu.none u:=by
 rcases h with⟨rfl,hc⟩|⟨j,s,ss,hj,rfl,rfl⟩;·exact Ah.mono hx _ (AI.none _) (Bk _ hc hr)
 ·unfold Ah at hr;subst hr;exact zI (KF _ (Kf hj)) (λb hb _=>hC b hb) _
theorem LG{Sw Sr:Nat->Prop}{C2:Ae}(KF:∀x∈ts,MF e0 Sw Sr w x)(hC:∀b,Sr b->∀o,C2 b o)(hx:Ext C C2 w w):∀{xs ys:List AV}{us:List Value},IB ts xs ys->Ab C w xs mu us->Ab C2 w ys Mu.none us
 |[],[],us,_,hr=>by unfold Ab at*;exact hr
 |[],_::_,_,h,_|_::_,[],_,h,_=>h.elim
 |x::xs,y::ys,us,h,hr=>by
  unfold Ab at hr⊢;obtain⟨v,vs,rfl,h1,h2⟩:=hr;exact⟨v,vs,rfl,SS KF hC hx h.1 h1,LG KF hC hx h.2 h2⟩
theorem YJ(Af:Az G C mu E H a w){Sw Sr:Nat->Prop}(KF:∀x∈ts,MF e0 Sw Sr w x)(hS:∀b,Sr b->b<w.heap.size){x y:AV}{u:Value}(h:jK H ts x y)(hr:Ah C w x mu u):Ah (Dh w) w y Mu.none u:=by
 have hx:Ext C (Dh w) w w:=.of_block (λb o hc=>Af.lt b o hc) λ_ _ _=>rfl
 rcases h with h|⟨cs,ds,rfl,rfl,h⟩|⟨l,cs,ds,rfl,rfl,hl,h⟩;·exact SS KF (λb hb _=>hS b hb) hx h hr
 ·unfold Ah at hr⊢;obtain⟨vs,rfl,h2⟩:=hr;exact⟨vs,rfl,LG KF (λb hb _=>hS b hb) hx h h2⟩
 ·unfold Ah at hr;obtain⟨b,hm,rfl⟩:=hr;obtain⟨b',cur,e,k1,k2,k3,k4⟩:=Af.heap.Cr l cs hl;rw[hm]at k1;simp only[E8.injEq,GO.CS.injEq]at k1;subst k1;have k5:=LG KF (λb hb _=>hS b hb) hx h k3
  unfold Ah;refine⟨b,0,rfl,(B9 _ _).2 λi hi=>?_⟩
  have hlen:=Ap _ k5;have hir:=((AH _).1 k5).2 i hi (by omega)
  have AP:b<w.heap.size:=(F0.1 k2).1;refine⟨cur.toList[i],k4 _ (Jg _),⟨AP,?_⟩,hir⟩;rw[Vw];have:cur[i]?=some cur.toList[i]:=by rw[<-Hs];exact CM _
  simp[W1,k2,this]
theorem VS(Af:Az G C mu E H a w){Sw Sr:Nat->Prop}(KF:∀x∈ts,MF e0 Sw Sr w x)(hS:∀b,Sr b->b<w.heap.size):∀{xs ys:List AV}{us:List Value},Xa H ts xs ys->Ab C w xs mu us->Ab (Dh w) w ys Mu.none us
 |[],[],us,_,hr=>by unfold Ab at*;exact hr
 |[],_::_,_,h,_|_::_,[],_,h,_=>h.elim
 |x::xs,y::ys,us,h,hr=>by
  unfold Ab at hr⊢;obtain⟨v,vs,rfl,h1,h2⟩:=hr;exact⟨v,vs,rfl,YJ Af KF hS h.1 h1,VS Af KF hS h.2 h2⟩
theorem LF(Af:Az G C mu E H a w){Sw Sr:Nat->Prop}(KF:∀x∈ts,MF e0 Sw Sr w x)(hS:∀b,Sr b->b<w.heap.size):∀{xs ys:List AV}{us:List Value},SQ H ts xs ys->Ab C w xs mu us->Ab (Dh w) w ys Mu.none us
 |[],[],us,_,hr=>by unfold Ab at*;exact hr
 |[],_::_,_,h,_|_::_,[],_,h,_=>h.elim
 |x::xs,y::ys,us,h,hr=>by
  unfold Ab at hr⊢;obtain⟨v,vs,rfl,h1,h2⟩:=hr;refine⟨v,vs,rfl,?_,LF Af KF hS h.2 h2⟩;rcases h.1 with k|⟨f,cs,ds,rfl,rfl,k⟩;·exact YJ Af KF hS k h1
  ·unfold Ah at h1⊢;obtain⟨us,rfl,h3⟩:=h1;exact⟨us,rfl,VS Af KF hS k h3⟩
theorem Aj.ZcZ{f:FuncId}{as as':List AV}{v:AV}{K:AV->KK}(Bh:H[0]?=some (.inv (GG e0 ts)))(hv:SQ H ts as as')(MB:AO P f as' (λr=>r=v))(hm:BN v=true)(hk:K v E H):Aj P f as E H K X:=by
 refine⟨MB.Eh,λG C mu a w vs hP Af hr=>?_⟩
 obtain⟨Sw,Sr,hf,hJ,key⟩:=Af.owner Bh;obtain⟨rD,hJ2⟩:jF e0 ts Sw Sr w:=hJ;refine(MB.out (Dh w) w vs (NX Af) (LF Af rD hf.lt hv hr)).mono λe w' ⟨r,u,h1,h2,h3,h4⟩=>?_
 subst h2;exact .inl ⟨r,u,E,H,_,mu,h1,hk,Af.below h3,Bb _ hm h4⟩
def Hc(ts:Tok):List AV->List AV->Prop
 |[],[]=>True
 |x::xs,y::ys=>(∃cs ds,x=.agg cs/\y=.agg ds/\IB ts cs ds)/\Hc ts xs ys
 |_,_=>False
theorem SR:∀{xs ys:List AV},IB ts xs ys->ys.length=xs.length
 |[],[],_=>rfl
 |[],_::_,h|_::_,[],h=>h.elim
 |x::xs,y::ys,h=>by simp[SR h.2]
theorem Jx{sz:Nat}:∀{xs ys:List AV},Hc ts xs ys->(∀a∈xs,a.cells.length=sz)->ys.length=xs.length/\∀a∈ys,a.cells.length=sz
 |[],[],_,_=>⟨rfl,λa ha=>by cases ha⟩
 |[],_::_,h,_|_::_,[],h,_=>h.elim
 |x::xs,y::ys,h,hs=>by
  obtain⟨⟨cs,ds,rfl,rfl,h1⟩,h2⟩:=h;obtain⟨k1,k2⟩:=Jx h2 λa ha=>hs a (by simp[ha])
  refine⟨by simp[k1],λa ha=>?_⟩
  rcases Uo.1 ha with rfl|ha
  ·have:=hs (.agg cs) (by simp)
   show ds.length=sz
   rw[SR h1];exact this
  ·exact k2 a ha
theorem KL{Sw Sr:Nat->Prop}{C2:Ae}(KF:∀x∈ts,MF e0 Sw Sr w x)(hC:∀b,Sr b->∀o,C2 b o)(hx:Ext C C2 w w):∀{xs ys:List AV}{us:List Value},Hc ts xs ys->Ab C w (flat xs) mu us->Ab C2 w (flat ys) Mu.none us
 |[],[],us,_,hr=>by
  have e:flat ([]:List AV)=[]:=rfl;rw[e]at *;unfold Ab at*;exact hr
 |[],_::_,_,h,_|_::_,[],_,h,_=>h.elim
 |x::xs,y::ys,us,h,hr=>by
  obtain⟨⟨cs,ds,rfl,rfl,h1⟩,h2⟩:=h;have e1:flat (.agg cs::xs)=cs++flat xs:=rfl;have e2:flat (.agg ds::ys)=ds++flat ys:=rfl;rw[e1]at hr;rw[e2];have hl:=Ap _ hr;rw[G1]at hl;have r1:=hr.take cs.length;have r2:=hr.drop cs.length;rw[List.take_left]at r1;rw[List.drop_left]at r2;have:=AF (LG KF hC hx h1 r1) (KL KF hC hx h2 r2);rwa [List.take_append_drop]at this
theorem Aa.ZfG{c:Code}{l:Nat}{e:TypeId}{sz:Nat}{rows rows':List AV}(Bh:H[0]?=some (.inv (GG e0 ts)))(hl:H[l]?=some (.arr e sz rows))(hv:Hc ts rows rows')
  (h:Aa P c E ((H.set 0 (.ghost [] [] [])).set l (.arr e sz rows')) K X):Aa P c E H K X:=
 ⟨λn G a w hP ⟨C,mu,Af⟩=>by
  obtain⟨ms,d1,d2⟩:=Af.defers
  obtain⟨_,Sw,Sr,hf,hJ,hD1,hD2⟩:=d2.Hz 0 _ Bh
  obtain⟨rD,hJ2⟩:jF e0 ts Sw Sr w:=hJ
  let C2:Ae:=λb o=>C b o\/Sw b
  have hx:Ext C C2 w w:=.of_block (λ_ _ h=>.inl h) λ_ _ _=>rfl
  have hJw:∀x∈ts,MF e0 Sw Sw w x:=λx hx=>by
   rcases rD x hx with k|⟨b,cap,cur,rest,q1,q2,q3,q⟩;·exact .inl k
   ·exact .inr ⟨b,cap,cur,rest,q1,q2,q2,q⟩
  have Yv:l≠0:=λe=>by subst e;rw[Bh]at hl;cases hl
  have ZjD:0<H.length:=(Ak.1 Bh).1
  have ZjC:l<H.length:=(Ak.1 hl).1
  have get:∀{i:Nat}{TI:HO},((H.set 0 (.ghost [] [] [])).set l (.arr e sz rows'))[i]?=some TI->(i=0/\TI=.ghost [] [] [])\/(i=l/\TI=.arr e sz rows')\/(i≠0/\i≠l/\H[i]?=some TI):=λ{i TI} hi=>by
   by_cases e1:i=l
   ·subst e1;rw[E4 (by simpa using ZjC)]at hi
    simp only[E8.injEq]at hi;exact .inr (.inl ⟨rfl,hi.symm⟩)
   ·rw[C4 (Ne.symm e1)]at hi;by_cases e2:i=0
    ·subst e2;rw[E4 ZjD]at hi;simp only[E8.injEq]at hi;exact .inl ⟨rfl,hi.symm⟩
    ·rw[C4 (Ne.symm e2)]at hi
     exact .inr (.inr ⟨e2,e1,hi⟩)
  have Rm:∀D:Nat×Obj,¬Sr D.1->CG C w G.fresh mu D->CG C2 w G.fresh mu D:=λD hd m=>⟨m.at_,λo hc=>hc.elim (m.KA o) λk=>hd (hf.sub _ k),m.own,m.fr⟩
  refine h.out n G a w hP ⟨C2,mu,λb o hc=>.inl (Af.c0 b o hc),λb o hc=>hc.elim (Af.c1 b o) λk=>.inr (hf.fr b k),λb o hc=>hc.elim (Af.lt b o) λk=>hf.lt b (hf.sub b k),
   ⟨λi g hi=>by simpa using Af.heap.Is i g hi,λi g b hi hg=>?_,Af.heap.sep,λi hi=>?_,λi cs hi=>?_,λi e' BI es hi=>?_,λi ks vs hi=>?_⟩,Ab.mono hx _ (AI.refl _) Af.env,
   ⟨ms,d1,λi cs us DE hi=>?_,λi I' hi=>?_,λd hd=>Rm d (hD1 d hd) (d2.marks d hd),d2.nd,λi i' cs vs uF cs' BY U8 hi Fk Bq=>?_⟩,Af.Ax,by simpa using Af.Ds.1,Af.Ds.2⟩
  ·obtain⟨k1,k2,k3⟩:=Af.heap.fresh i g b hi hg
   exact⟨k1,k2,λo hc=>hc.elim (k3 o) λk=>hf.own b (hf.sub b k) i g hi hg⟩
  ·rcases get hi with⟨_,k⟩|⟨_,k⟩|⟨_,_,k⟩
   ·cases k
   ·cases k
   ·exact Af.heap.dead i k
  ·rcases get hi with⟨_,k⟩|⟨_,k⟩|⟨_,_,k⟩
   ·cases k
   ·cases k
   ·obtain⟨b,cur,e',k1,k2,k3,k4⟩:=Af.heap.Cr i cs k
    exact⟨b,cur,e',k1,k2,Ab.mono hx _ (AI.refl _) k3,k4⟩
  ·rcases get hi with⟨_,k⟩|⟨rfl,k⟩|⟨_,_,k⟩
   ·cases k
   ·simp only[HO.arr.injEq]at k;obtain⟨rfl,rfl,rfl⟩:=k;obtain⟨k0,k⟩:=Af.heap.BM i e' BI rows hl;obtain⟨m1,m2⟩:=Jx hv k0;refine⟨m2,k.imp (λ⟨q1,q2⟩=>⟨q1,?_⟩) λ⟨b,cap,cur,k1,k2,k3,k4,k5,k6,k7⟩=>⟨b,cap,cur,by rw[m1];exact k1,k2,by rw[m1];exact k3,k4,k5,?_,k7⟩⟩
    ·subst q2;exact NF m1
    ·rw[m1];exact Ab.mono (Ext.refl _ _) _ (AI.none _) (KL hJw (λb hb o=>.inr hb) hx hv k6)
   ·obtain⟨k0,k⟩:=Af.heap.BM i e' BI es k
    exact⟨k0,k.imp id λ⟨b,cap,cur,k1,k2,k3,k4,k5,k6,k7⟩=>⟨b,cap,cur,k1,k2,k3,k4,k5,Ab.mono hx _ (AI.refl _) k6,k7⟩⟩
  ·rcases get hi with⟨_,k⟩|⟨_,k⟩|⟨_,_,k⟩
   ·cases k
   ·cases k
   ·exact Af.heap.maps i ks vs k
  ·rcases get hi with⟨_,k⟩|⟨_,k⟩|⟨_,_,k⟩
   ·simp only[HO.ghost.injEq]at k;obtain⟨rfl,rfl,rfl⟩:=k;exact⟨by unfold Ab;rfl,Pl,λD hD=>by cases hD⟩
   ·cases k
   ·obtain⟨k1,k3,k2⟩:=d2.Bl i cs us DE k;exact⟨Ab.mono hx _ (AI.refl _) k1,k3,λd hd=>⟨Rm (d,GL) (hD2 i cs us DE k d hd) (k2 d hd).1,(k2 d hd).2⟩⟩
  ·rcases get hi with⟨_,k⟩|⟨_,k⟩|⟨k0,_,k⟩;·cases k
   ·cases k
   ·exact absurd (d2.Hz i I' k).1 k0
  ·rcases get hi with⟨_,k⟩|⟨_,k⟩|⟨_,_,k⟩
   ·simp only[HO.ghost.injEq]at k;obtain⟨rfl,rfl,rfl⟩:=k;intro D hD;cases hD
   ·cases k
   ·rcases get Fk with⟨_,k'⟩|⟨_,k'⟩|⟨_,_,k'⟩
    ·simp only[HO.ghost.injEq]at k';obtain⟨rfl,rfl,rfl⟩:=k';intro D _ hD;cases hD
    ·cases k'
    ·exact d2.sep i i' cs vs uF cs' BY U8 k k' Bq⟩
theorem mQ{x:AV}(h:closed x=true):VR H ts x x:=.inl (.inl (.inl ⟨rfl,h⟩))
theorem NY{x:AV}(h:closed x=true):VV ts x x:=.inl ⟨rfl,h⟩
theorem rQ{l:Nat}{cs ds:List AV}(hl:H[l]?=some (.cells cs))(h:IB ts cs ds):jK H ts (.ptr l 0) (.at_ ds):=.inr (.inr ⟨l,cs,ds,rfl,rfl,hl,h⟩)
theorem Zfu{l:Nat}{cs ds:List AV}(hl:H[l]?=some (.cells cs))(h:IB ts cs ds):VR H ts (.ptr l 0) (.at_ ds):=.inl (rQ hl h)
theorem ZiE{cs ds:List AV}(h:IB ts cs ds):VR H ts (.agg cs) (.agg ds):=.inl (.inr (.inl ⟨cs,ds,rfl,rfl,h⟩))
theorem Zcv{f:FuncId}{cs ds:List AV}(h:Xa H ts cs ds):VR H ts (.fn f cs) (.fn f ds):=.inr ⟨f,cs,ds,rfl,rfl,h⟩
theorem Zfw{j:Nat}{s:Sv}{ss:List (List UInt8)}(h:ts[j]?=some (s,ss)):VV ts (.raw s.v) (.sl 1 (ss.map AV.str)):=.inr ⟨j,s,ss,h,rfl,rfl⟩
theorem Aj.SA{f:FuncId}{as as':List AV}{v:AV}{K:AV->KK}(hv:SQ H [] as as')(MB:AO P f as' (λr=>r=v))(hm:BN v=true)(hk:K v E H):Aj P f as E H K X:=by
 refine⟨MB.Eh,λG C mu a w vs hP Af hr=>?_⟩
 refine(MB.out (Dh w) w vs (NX Af) (LF (e0:=0) (Sw:=λ_=>False) (Sr:=λ_=>False) Af (λx hx=>by cases hx) (λ_ h=>h.elim) hv hr)).mono λe w' ⟨r,u,h1,h2,h3,h4⟩=>?_
 subst h2;exact .inl ⟨r,u,E,H,_,mu,h1,hk,Af.below h3,Bb _ hm h4⟩
end
section
variable {G:Cx}{C:Ae}{w:World}{mu:Mu}{H:List HO}{E:List AV}{a:Act}{P:Program}
def Dj:AV->AV
 |.agg cs=>.agg (cs.map YM)
 |.lit b=>.bool b
 |x=>x
theorem SZ:∀{cs:List AV}{vs:List Value},Ab C w cs mu vs->Ab C w (cs.map YM) mu vs
 |[],_,h=>h
 |c::cs,vs,h=>by
  simp only[Ky];unfold Ab at h⊢;obtain⟨v,us,rfl,h1,h2⟩:=h;exact⟨v,us,rfl,mW h1,SZ h2⟩
theorem Q2:∀{es:List AV}{vs:List Value},Ab C w (flat es) mu vs->Ab C w (flat (es.map Dj)) mu vs
 |[],_,h=>h
 |x::es,vs,h=>by
  have hc:∀{as bs:List AV}{us:List Value},Ab C w (as++bs) mu us->∃u1 u2,us=u1++u2/\Ab C w as mu u1/\Ab C w bs mu u2:=by
   intro as;induction as with
   |nil=>intro bs us h;exact⟨[],us,rfl,by unfold Ab;rfl,h⟩
   |cons c as ih=>
    intro bs us h;rw[XY]at h;unfold Ab at h;obtain⟨v,BY,rfl,h2,h3⟩:=h;obtain⟨u1,u2,rfl,h4,h5⟩:=ih h3;exact⟨v::u1,u2,rfl,by unfold Ab;exact⟨v,u1,rfl,h2,h4⟩,h5⟩
  rw[show flat (x::es)=x.cells++flat es from by simp[flat]]at h
  obtain⟨u1,u2,rfl,h1,h2⟩:=hc h;rw[show flat ((x::es).map Dj)=(Dj x).cells++flat (es.map Dj)from by simp[flat]]
  refine AF ?_ (Q2 h2)
  cases x<;>first|exact h1|(simp only[Dj,AV.cells]at *;exact SZ h1)|(
   simp only[Dj,AV.cells]at *;unfold Ab at*;obtain⟨v,BY,h3,h4,h5⟩:=h1;exact⟨v,BY,h3,by unfold Ah at*;exact h4,h5⟩)
theorem Az.Dj(Af:Az G C mu E H a w)(l:Nat){e:TypeId}{sz:Nat}{es:List AV}(hl:H[l]?=some (.arr e sz es)):Az G C mu E (H.set l (.arr e sz (es.map Dj))) a w:=by
 have AP:l<H.length:=(Ak.1 hl).1
 have hg:∀{k:Nat}{ob:HO},(H.set l (.arr e sz (es.map Av.Dj)))[k]?=some ob->(k=l/\ob=.arr e sz (es.map Av.Dj))\/H[k]?=some ob:=λ{k ob} hk=>by
  by_cases NU:k=l
  ·subst NU;rw[E4 AP]at hk;exact .inl ⟨rfl,(E8.inj hk).symm⟩
  ·rw[C4 (λe=>NU e.symm)]at hk;exact .inr hk
 have Ji:∀{k:Nat}{ob:HO},(H.set l (.arr e sz (es.map Av.Dj)))[k]?=some ob->(∀e sz es,ob≠.arr e sz es)->H[k]?=some ob:=λ{k ob} hk Bq=>by
  rcases hg hk with⟨_,h⟩|h;·exact absurd h (Bq _ _ _)
  ·exact h
 refine⟨Af.c0,Af.c1,Af.lt,⟨λi g hi=>by simpa using Af.heap.Is i g hi,Af.heap.fresh,Af.heap.sep,λk hk=>Af.heap.dead k (Ji hk (by intros;simp)),λk cs hk=>Af.heap.Cr k cs (Ji hk (by intros;simp)),λk e' BI Cg hk=>?_,λk ks vs hk=>Af.heap.maps k ks vs (Ji hk (by intros;simp))⟩,Af.env,?_,Af.Ax,by simpa using Af.Ds.1,Af.Ds.2⟩
 ·rcases hg hk with⟨rfl,h⟩|h
  ·cases h;obtain⟨k1,k2⟩:=Af.heap.BM k e sz es hl;refine⟨λx hx=>?_,?_⟩
   ·obtain⟨y,hy,rfl⟩:=KG.1 hx;have:=k1 y hy;cases y<;>first|exact this|(simp only[AV.cells]at this;show(List.map Av.YM _).length=sz;rw[Fl];exact this)
   ·rcases k2 with⟨k2,rfl⟩|⟨b,cap,cur,k2,k3,k4,k5,k6,k7,k8⟩;·exact .inl ⟨k2,rfl⟩
    ·refine .inr ⟨b,cap,cur,by rw[Fl];exact k2,k3,by rw[Fl];exact k4,k5,k6,?_,k8⟩
     rw[Fl];exact Q2 k7
  ·exact Af.heap.BM k e' BI Cg h
 ·obtain⟨ms,d1,d2⟩:=Af.defers
  exact⟨ms,d1,⟨λk cs' vs gm hk=>d2.Bl k cs' vs gm (Ji hk (by intros;simp)),λk I hk=>by
   obtain⟨h0,Sw,Sr,q1,q2,q3,q4⟩:=d2.Hz k I (Ji hk (by intros;simp))
   exact⟨h0,Sw,Sr,q1,q2,q3,λk' cs' vs gm HB=>q4 k' cs' vs gm (Ji HB (by intros;simp))⟩,d2.marks,d2.nd,λk k' cs' vs gm cs2 zA gm2 hk HB=>d2.sep k k' cs' vs gm cs2 zA gm2 (Ji hk (by intros;simp)) (Ji HB (by intros;simp))⟩⟩
theorem Aa.Dj(l:Nat){e:TypeId}{sz:Nat}{es Cg:List AV}{c:Code}{K:KK}{X:XX}(hl:H[l]?=some (.arr e sz es))(he:es.map Av.Dj=Cg)(h:Aa P c E (H.set l (.arr e sz Cg)) K X):Aa P c E H K X:=by
 subst he;refine⟨λn G a w hP Af=>?_⟩
 obtain⟨C,mu,Af⟩:=Af;exact h.out n G a w hP ⟨C,mu,Af.Dj l hl⟩
theorem Aa.Zbj(l j:Nat){cs:List AV}{k:IntKind}{v:Int}{c:Code}{K:KK}{X:XX}(hl:H[l]?=some (.cells cs))(hj:cs[j]?=some (.int k v))(h:DJ k v->Aa P c E H K X):Aa P c E H K X:=by
 refine⟨λn G a w hP Af=>?_⟩
 obtain⟨C,mu,Af⟩:=Af;refine(h ?_).out n G a w hP ⟨C,mu,Af⟩;obtain⟨b,cur,e,k1,k2,k3,k4⟩:=Af.heap.Cr l cs hl;have AP:=(Ak.1 hj).1;have hlen:=Ap _ k3;have hr:=((AH _).1 k3).2 j AP (by omega)
 have e2:cs[j]=.int k v:=by rw[CM AP]at hj;exact E8.inj hj
 rw[e2]at hr;unfold Ah at hr;exact hr.2
end
section
variable {G:Cx}{C:Ae}{w w':World}{mu:Mu}{H:List HO}{E:List AV}{a:Act}{T:List TY}{P:Program}{ops:Array Oper}{n0 i j la:Nat}{o oi oj:Oper}{we nr:List Nat}{K:KK}{X:XX}
def mN(T:List TY)(la:Nat)(o:Oper)(E:List AV)(H:List HO)(K:KK):Prop:=
 match o.guard with
 |some _=>False
 |none=>match o.op with
  |.store t ad x=>(match o.dst with
   |some _=>False
   |none=>De E ad λp=>(match p with
    |.el l _ _ _=>(l=la/\Q9 (AM E x)=true)/\Cj T E H t ad x (λ_ E' H'=>K E' H')
    |_=>False))
  |.call c=>(match c.callee,c.args.toList,c.argTypes.toList with
   |.builtin .append,[s,x],[t,t']=>De E x λxv=>(match xv with
    |.sl _ _=>la=0/\GN T E H t t' s x (λv E' H'=>Bu E' o.dst v λHU=>K HU H')
    |_=>False)
   |_,_,_=>False)
  |_=>False
theorem TH{t:TypeId}{ad x:Operand}{K:AV->KK}{l z i k:Nat}(hp:AM E ad=.el l z i k)(h:Cj T E H t ad x K):
  ∃b,K (.raw undef) E (H.set l b)/\∀(E2:List AV)(H2:List HO),AM E2 ad=AM E ad->AM E2 x=AM E x->H2[l]?=H[l]?->∀K':AV->KK,K' (.raw undef) E2 (H2.set l b)->Cj T E2 H2 t ad x K':=by
 unfold Cj at h;replace h:=AL.1 h;obtain⟨y,hy,h⟩:=h
 rw[Ac,Ac,Am,hp]at h;split at h;case h_2=>exact h.elim
 rename_i hc;simp only at h;replace h:=AL.1 h;obtain⟨ob,Bh,h⟩:=h
 split at h;case h_2=>exact h.elim
 split at h;case h_2=>exact h.elim
 rename_i hb;obtain⟨GW,hold,h⟩:=h;rw[Am]at h;split at h;case h_2=>exact h.elim
 rename_i G0;split at h
 ·rename_i pE;rw[AG]at h;refine⟨_,h,λE2 H2 e1 e2 e3 K' k=>?_⟩
  unfold Cj;refine AL.2 ⟨y,hy,?_⟩;rw[Ac,Ac,Am,e1,e2,hp];simp only[hc];refine AL.2 ⟨_,by rw[e3];exact Bh,?_⟩
  simp only[hb];refine⟨GW,hold,?_⟩;rw[Am];simp only[G0,pE];rw[AG];exact k
 ·rename_i pE;rw[Cs,AG]at h;refine⟨_,h,λE2 H2 e1 e2 e3 K' k=>?_⟩
  unfold Cj;refine AL.2 ⟨y,hy,?_⟩;rw[Ac,Ac,Am,e1,e2,hp];simp only[hc];refine AL.2 ⟨_,by rw[e3];exact Bh,?_⟩
  simp only[hb];refine⟨GW,hold,?_⟩;rw[Am];simp only[G0,pE];rw[Cs,AG];exact k
theorem nZ{t t':TypeId}{s x:Operand}{K:AV->KK}{sz:Nat}{xs:List AV}(hx:AM E x=.sl sz xs)(h:GN T E H t t' s x K):
  ∃S:AV->HO->Prop,(∀v b,S v b->K v E (H.set 0 b))/\∀(E2:List AV)(H2:List HO),AM E2 s=AM E s->AM E2 x=AM E x->H2[0]?=H[0]?->∀K':AV->KK,(∀v b,S v b->K' v E2 (H2.set 0 b))->GN T E2 H2 t t' s x K':=by
 unfold GN at h;split at h;case h_2=>exact h.elim
 rename_i ht;replace h:=AL.1 h;obtain⟨y,hy,h⟩:=h
 split at h;case h_2=>exact h.elim
 rename_i e Bv by' ag hk
 split at h;case h_2=>exact h.elim
 rename_i hb;rw[Ac,Ac,hx]at h
 obtain⟨ts,j,sv,es,ss,hq,hs,yG⟩:∃(ts:Tok) (j:Nat) (s':Sv) (es ss:List (List UInt8)),(AM E s=.raw s'.v/\H[0]?=some (.inv (GG e ts))/\ts[j]?=some (s',es)/\xs=ss.map AV.str/\1<=ss.length/\(es.length+ss.length)*by'<=140737488355328)/\
   (∀s':Sv,K (.raw s'.v) E (H.set 0 (.inv (GG e (ts.set j (s',es++ss))))))/\∀(E2:List AV)(H2:List HO),AM E2 s=AM E s->AM E2 x=AM E x->H2[0]?=H[0]?->∀K':AV->KK,(∀s':Sv,K' (.raw s'.v) E2 (H2.set 0 (.inv (GG e (ts.set j (s',es++ss))))))->GN T E2 H2 t t' s x K':=by
  simp only[Fo]at h;split at h;case h_2=>exact h.elim
  rename_i hz;obtain⟨z,h,oU⟩:=I8 h;rw[Am]at h;split at h;case h_2=>exact h.elim
  rename_i hc;obtain⟨ts,j,sv,es,ss,hq,h⟩:=h;refine⟨ts,j,sv,es,ss,hq,λs'=>by have:=h s';rwa [AG]at this,λE2 H2 e1 e2 e3 K' k=>?_⟩
  unfold GN;simp only[ht];refine AL.2 ⟨y,hy,?_⟩;simp only[hk,hb];rw[Ac,Ac,e1,e2,hx];simp only[Fo,hz];refine oU _ ?_;rw[Am];simp only[hc];exact⟨ts,j,sv,es,ss,⟨hq.1,by rw[e3];exact hq.2.1,hq.2.2⟩,λs'=>by rw[AG];exact k s'⟩
 exact⟨λv b=>∃s':Sv,v=.raw s'.v/\b=.inv (GG e (ts.set j (s',es++ss))),λv b ⟨s',hv,hb⟩=>by subst hv;subst hb;exact hs s',λE2 H2 e1 e2 e3 K' k=>yG E2 H2 e1 e2 e3 K' λs'=>k _ _ ⟨s',rfl,rfl⟩⟩
theorem Zaf(h:mN T la o E H K):∃S:AV->HO->Prop,(∀v b,S v b->K (A6 E o.dst v) (H.set la b))/\
  ∀(E2:List AV)(H2:List HO),(∀y∈o.op.operands,AM E2 y=AM E y)->H2[la]?=H[la]?->∀K':KK,(∀v b,S v b->K' (A6 E2 o.dst v) (H2.set la b))->mN T la o E2 H2 K':=by
 obtain⟨dst,op,ty,pos,aft,gd⟩:=o;unfold mN at h;cases gd with
 |some g=>exact h.elim
 |none=>
  cases op<;>first|exact h.elim|skip
  ·rename_i t ad x;cases dst with
   |some d=>exact h.elim
   |none=>
    simp only at h;rw[Ac]at h;split at h;case h_2=>exact h.elim
    rename_i l z i k hp;obtain⟨⟨rfl,hn⟩,h⟩:=h;obtain⟨b,k1,k2⟩:=TH hp h;refine⟨λv b'=>v=.raw undef/\b'=b,λv b' ⟨hv,hb⟩=>by subst hv;subst hb;exact k1,λE2 H2 he hl K' k=>?_⟩
    have e1:AM E2 ad=AM E ad:=he ad (by simp[Qo])
    have e2:AM E2 x=AM E x:=he x (by simp[Qo])
    unfold mN;simp only;rw[Ac,e1,hp];simp only;exact⟨⟨trivial,by rw[e2];exact hn⟩,k2 E2 H2 e1 e2 hl _ (k _ _ ⟨rfl,rfl⟩)⟩
  ·rename_i c;obtain⟨cK,args,Jt⟩:=c;simp only at h;split at h;case h_2=>exact h.elim
   rename_i s x t t' h2 h3;rw[Ac]at h;split at h;case h_2=>exact h.elim
   rename_i sz xs hx;obtain⟨rfl,h⟩:=h;obtain⟨S,k1,k2⟩:=nZ hx h;refine⟨S,λv b hs=>by have:=k1 v b hs;rwa [Au]at this,λE2 H2 he hl K' k=>?_⟩
   obtain rfl:args=#[s,x]:=by cases args;simp_all
   have e1:AM E2 s=AM E s:=he s (by simp[Qo,Call.operands])
   have e2:AM E2 x=AM E x:=he x (by simp[Qo,Call.operands])
   unfold mN;simp only[h3];rw[Ac,e2,hx];simp only;exact⟨trivial,k2 E2 H2 e1 e2 hl _ λv b hs=>by rw[Au];exact k v b hs⟩
theorem rM(hT:BG G.P T)(Af:Az G C mu E H a w){Kn:KK}{r:Option Nat}{n:Nat}(h:mN T la o E H K){Kr:KK}(hk:∀E H,K E H->Kr E H):
  Um o (yielded ops a.tmps)=true/\o.wpIn (fw r) n G.P a w (λa w=>∃E' H',Kr E' H'/\St G E' H' a w) (Mg G Kn X):=by
 obtain⟨dst,op,ty,pos,aft,gd⟩:=o;unfold mN at h;cases gd with
 |some g=>exact h.elim
 |none=>
  refine⟨by simp[Um],?_⟩
  cases op<;>first|exact h.elim|skip
  ·rename_i t ad x;cases dst with
   |some d=>exact h.elim
   |none=>
    simp only at h;rw[Ac]at h;split at h;case h_2=>exact h.elim
    rename_i l z i k hp;obtain⟨⟨rfl,hn⟩,h⟩:=h;refine DV (al:=none) (K:=λ_ E' H'=>K E' H') hT ?_ Af λa' w' hp=>?_
    ·unfold Ty;simp only;rw[Ac,hp];simp only;rw[Ac];exact(Qy hn).2 h
    ·obtain⟨r,E',H',HB,C',mu',CL⟩:=hp;exact⟨E',H',hk _ _ HB,C',mu',by simpa[A6]using CL⟩
  ·rename_i c;obtain⟨cK,args,Jt⟩:=c;simp only at h;split at h;case h_2=>exact h.elim
   rename_i s x t t' h2 h3;rw[Ac]at h;split at h;case h_2=>exact h.elim
   obtain⟨rfl,h⟩:=h;refine YP (X:=X) (Kn:=Kn) (K:=λv E' H'=>Bu E' dst v λHU=>K HU H') hT ?_ Af λa' w' hp=>?_
   ·unfold dC;simp only[h2,h3];exact h
   ·obtain⟨r,E',H',HB,C',mu',CL⟩:=hp;rw[Au]at HB;exact⟨_,H',hk _ _ HB,C',mu',CL⟩
def Xp(la:Nat)(E:List AV):List Operand->Bool
 |[]=>true
 |y::r=>(match ED la (AM E y)with|true=>false|false=>Xp la E r)
theorem To:∀{l:List Operand},Xp la E l=true->∀y∈l,ED la (AM E y)=false
 |[],_,y,h=>by cases h
 |x::l,h,y,hy=>by
  unfold Xp at h;split at h;·cases h
  ·rename_i h0;rcases Uo.1 hy with rfl|hy;·exact h0
   ·exact To h y hy
theorem yY(lF:n0+i≠la)(hnr:pvB oi=true\/∀y∈oi.op.operands,ED la (AM E y)=false)(p1:∀t,oi.dst=some t->t∉oj.looksAt ops)(p2:∀t,oi.dst=some t->oj.dst≠some t)(p3:∀t,oj.dst=some t->t∉oi.looksAt ops){Kw:KK}
  (h:FA P T ops.toList n0 i oi E H λE' H'=>mN T la oj E' H' Kw):mN T la oj E H (λE1 H1=>(∀y∈oi.op.operands,AM E1 y=AM E y)/\FA P T ops.toList n0 i oi E1 H1 Kw):=by
 have key:∃vi Pw,mN T la oj (A6 E oi.dst vi) (BP H (n0+i) Pw) Kw/\∀v b,∀K':KK,K' (A6 (A6 E oj.dst v) oi.dst vi) (BP (H.set la b) (n0+i) Pw)->FA P T ops.toList n0 i oi (A6 E oj.dst v) (H.set la b) K':=by
  rcases hnr with hpv|hnr
  ·obtain⟨Uf,WC,ity,ZX,Z3,uZ⟩:=oi;unfold pvB at hpv;simp only at hpv
   obtain⟨hg,d,hd⟩:uZ=none/\∃d,Uf=some d:=by
    cases WC<;>first|cases hpv|skip
    ·rename_i x;cases x<;>first|cases hpv|skip
     cases uZ<;>cases Uf<;>simp at hpv
     exact⟨rfl,_,rfl⟩
    ·cases uZ<;>cases Uf<;>simp at hpv
     exact⟨rfl,_,rfl⟩
   subst hg;subst hd
   have pv:∀{E:List AV}{H:List HO}{K:KK},FA P T ops.toList n0 i {dst:=some d,op:=WC,type:=ity,pos:=ZX,after:=Z3,guard:=none} E H K↔Bj T E H WC λv=>Ra v λv=>K (E.set d v) H:=λ{E H K}=>by
    cases WC<;>first|cases hpv|skip
    all_goals
     unfold FA Vb rK Bj;simp only[Ac,QT,Au,A6]
   have noH:∀{E:List AV}{H H':List HO}{K:AV->Prop},Bj T E H WC K->Bj T E H' WC K:=λ{E H H' K} h=>by
    cases WC<;>first|cases hpv|skip
    all_goals exact h
   rw[pv]at h;obtain⟨r,hr,Us⟩:=G8 h;obtain⟨u,h1,hu,_,_⟩:=H6 hr;refine⟨u,none,h1,λv b K' k=>?_⟩
   rw[pv];have ag:=CH (o:={dst:=some d,op:=WC,type:=ity,pos:=ZX,after:=Z3,guard:=none}) (ops:=ops) (x:=v) (E:=E) p3;exact noH (H:=H) (Us (A6 E oj.dst v) H ag.1 (λ_ _ _ _ _ h=>h) _ (hu _ k))
  ·obtain⟨vi,Pw,di,ki,ti⟩:=DD h;refine⟨vi,Pw,ki,λv b K' k=>ti _ _ (CH p3) (λy hy l ob hr hl=>?_) (C4 (Ne.symm lF)) K' k⟩
   have Bq:la≠l:=λe=>by subst e;rw[hnr y hy]at hr;cases hr
   rw[C4 Bq];exact hl
 obtain⟨vi,Pw,ki,ti⟩:=key;have ag:=CH (x:=vi) (E:=E) p1;obtain⟨S,k1,k2⟩:=Zaf ki
 have Lj:H[la]?=(BP H (n0+i) Pw)[la]?:=by
  cases Pw with
  |none=>rfl
  |some y=>simp only[BP];rw[C4 lF]
 refine k2 E H (λy hy=>(ag.1 y hy).symm) Lj _ λv b hs=>⟨(CH (x:=v) (E:=E) p3).1,ti v b _ ?_⟩
 have:=k1 v b hs;rw[IU p2]at this
 have e:(BP H (n0+i) Pw).set la b=BP (H.set la b) (n0+i) Pw:=by
  cases Pw with
  |none=>rfl
  |some y=>simp only[BP];exact List.set_comm _ _ lF
 rw[e]at this;exact this
def Ye(P:Program)(T:List TY)(ops:Array Oper)(n0:Nat)(la:Nat->Nat)(we:List Nat)(j:Nat)(Kn:KK)(E:List AV)(H:List HO):Prop:=
 match ops[j]? with
 |none=>Kn E H
 |some o=>match A4 we j with
  |false=>FA P T ops.toList n0 j o E H Kn
  |true=>∃Kw:KK,mN T (la j) o E H Kw/\∀E H,Kw E H->Kn E H
def FF(P:Program)(T:List TY)(ops:Array Oper)(n0:Nat)(la:Nat->Nat)(we:List Nat)(K:KK):Nat->Array Bool->List AV->List HO->Prop
 |0,listed,E,H=>Sat P E H->Ff .any ops listed=[]/\K E H
 |fuel+1,listed,E,H=>Sat P E H->(Ff .any ops listed=[]->K E H)/\
  ∀i∈Ff .any ops listed,Ye P T ops n0 la we i (FF P T ops n0 la we K fuel (listed.setIfInBounds i true)) E H
variable {la:Nat->Nat}
theorem iL(hT:BG G.P T){r:Option Nat}{n:Nat}{Kn K:KK}(h:Ye G.P T ops n0 la we i Kn E H)(Af:Az G C mu E H a w):
  wpOpIn (fw r) n G.P ops (Mg G K X) i (λa w=>∃E' H',Kn E' H'/\St G E' H' a w) a w:=by
 unfold Ye at h;unfold wpOpIn;split;·rename_i ho;rw[ho]at h;exact⟨E,H,h,C,mu,Af⟩
 ·rename_i o ho;rw[ho]at h;simp only at h;split at h
  ·rcases N8 hT ho h Af with⟨hw,h⟩|⟨hw,h⟩;·rw[if_pos hw];exact h
   ·rw[if_neg (by simp[hw])];exact⟨λ_ _=>trivial,h⟩
  ·obtain⟨Kw,h,hKw⟩:=h;obtain⟨hw,h⟩:=rM (X:=X) (Kn:=K) (r:=r) (n:=n) hT Af (K:=Kw) h hKw;rw[if_pos hw];exact h
theorem RD(hT:BG G.P T){r:Option Nat}{n:Nat}:∀(fuel:Nat)(listed:Array Bool)(E:List AV)(H:List HO)(a:Act)(w:World),FF G.P T ops n0 la we K fuel listed E H->St G E H a w->wpAnyIn (fw r) n G.P .any ops (Mg G K X) fuel listed a w
 |0,listed,E,H,a,w,h,Af=>by
  unfold FF at h;obtain⟨h1,h2⟩:=h ⟨G,a,w,rfl,Af⟩;exact⟨h1,E,H,h2,Af⟩
 |fuel+1,listed,E,H,a,w,h,Af=>by
  unfold FF at h;obtain⟨h1,h2⟩:=h ⟨G,a,w,rfl,Af⟩;refine⟨λh0=>⟨E,H,h1 h0,Af⟩,λi hi=>?_⟩
  obtain⟨C,mu,Af⟩:=Af;exact wpOpIn_mono (λa' w' ⟨E',H',k1,k2⟩=>RD hT fuel _ E' H' a' w' k1 k2) (iL hT (h2 i hi) Af)
theorem sH(hT:BG P T)(hs:Sat P E H)(hi:ops[i]?=some oi)(hj:ops[j]?=some oj)(PB:i≠j)(Ut:oi.apart ops oj=true){Ki Kj:KK}
  (h:FA P T ops.toList n0 i oi E H Ki) (hk:∀E' H',Sat P E' H'->Ki E' H'->FA P T ops.toList n0 j oj E' H' Kj):
  FA P T ops.toList n0 j oj E H λE1 H1=>(∀y∈oi.op.operands,AM E1 y=AM E y)/\FA P T ops.toList n0 i oi E1 H1 Kj:=by
 obtain⟨p1,p2,p3⟩:=Yg Ut;obtain⟨vi,Pw,di,ki,ti⟩:=DD h;have refl:∀o:Oper,Ek ops.toList E E o:=λo=>⟨λ_ _=>rfl,λ_ _ _ _ _ _ _=>rfl⟩
 have Gs:Sat P (A6 E oi.dst vi) (BP H (n0+i) Pw):=Hg hT hi (ti E H (refl oi) (λ_ _ _ _ _ h=>h) rfl _ ⟨rfl,rfl⟩) hs
 have h2:=hk _ _ Gs ki;obtain⟨vj,obj,dj,kj,tj⟩:=DD h2;have ag:=CH (x:=vi) (E:=E) p1
 have dj':∀x,obj=some x->H[n0+j]?=some .dead:=λx hx=>by
  have:=dj x hx;cases Pw with
  |none=>exact this
  |some y=>simp only[BP]at this;rwa [C4 (by omega)]at this
 have sne:∀(x:Option HO)(s t:Nat),s≠t->(BP H s x)[t]?=H[t]?:=λx s t Af=>by
  cases x with
  |none=>rfl
  |some y=>simp only[BP];rw[C4 Af]
 have agj:=CH (x:=vj) (E:=E) p3;refine tj E H ag.symm (Uh hs ag.1 di) (sne _ _ _ (by omega)).symm _ ⟨agj.1,?_⟩
 refine ti _ _ agj (Z6 hs dj') (sne _ _ _ (by omega)) _ ?_
 ·rw[IU p2,V4 (show n0+i≠n0+j by omega)]at kj
  exact kj
theorem RF(hT:BG P T)(lF:∀j,A4 we j=true->la j<n0)(hi:ops[i]?=some oi)(XV:A4 we i=false){U:Nat->Bool}(hUi:U i=true){hw:Bool}
  (hUp:∀j oj,U j=true->j≠i->ops[j]?=some oj->∃e∈oj.after,Vf .any e=true/\U e.on=true):
  ∀(fuel:Nat)(listed:Array Bool)(E:List AV)(H:List HO),(∀j,U j=true->listed.getD j false=false)->
   (∀j oj,ops[j]?=some oj->U j=false->listed.getD j true=false->(A4 we j=false\/hw=true)/\oi.apart ops oj=true)->
   i∈Ff .any ops listed->(hw=true->pvB oi=true\/∀j,A4 we j=true->∀y∈oi.op.operands,ED (la j) (AM E y)=false)->FA P T ops.toList n0 i oi E H (FF P T ops n0 la we K fuel (listed.setIfInBounds i true))->FF P T ops n0 la we K (fuel+1) listed E H:=by
 intro fuel;induction fuel with
 |zero=>
  intro listed E H hU Ut hr hnr h;unfold FF;intro hs;refine⟨λh0=>(by rw[h0]at hr;cases hr),λj hj=>?_⟩
  by_cases GZ:j=i;·subst GZ;unfold Ye;rw[hi];simp only;rw[XV];exact h
  ·obtain⟨Lk,oj,El,BW⟩:=mem_ready.1 hj;exfalso;obtain⟨vi,Pw,di,ki,ti⟩:=DD h;have Gs:Sat P (A6 E oi.dst vi) (BP H (n0+i) Pw):=Hg hT hi (ti E H ⟨λ_ _=>rfl,λ_ _ _ _ _ _ _=>rfl⟩ (λ_ _ _ _ _ h=>h) rfl _ ⟨rfl,rfl⟩) hs
   unfold FF at ki;have:=ready_mono hj GZ;rw[(ki Gs).1]at this;cases this
 |succ fuel ih=>
  intro listed E H hU Ut hr hnr h;unfold FF;intro hs;refine⟨λh0=>(by rw[h0]at hr;cases hr),λj hj=>?_⟩
  by_cases GZ:j=i;·subst GZ;unfold Ye;rw[hi];simp only;rw[XV];exact h
  ·obtain⟨Lk,oj,El,BW⟩:=mem_ready.1 hj
   have gS:U j=false:=by
    cases hu:U j with
    |false=>rfl
    |true=>
     obtain⟨e,he,hb,Yt⟩:=hUp j oj hu GZ El;have:=BW e he hb;rw[hU _ Yt]at this;cases this
   obtain⟨fW,Qu⟩:=Ut j oj El gS Lk
   have rest:∀E1 H1,(∀y∈oi.op.operands,AM E1 y=AM E y)->FA P T ops.toList n0 i oi E1 H1 (FF P T ops n0 la we K fuel ((listed.setIfInBounds j true).setIfInBounds i true))->FF P T ops n0 la we K (fuel+1) (listed.setIfInBounds j true) E1 H1:=λE1 H1 he k=>by
    refine ih (listed.setIfInBounds j true) E1 H1 (λk hk=>?_) (λk ok hk hu Vy=>?_) (ready_mono hr (Ne.symm GZ)) (λh=>(hnr h).imp id λh j hj y hy=>by rw[he y hy];exact h j hj y hy) k
    ·have Bq:j≠k:=λhe=>by subst he;rw[gS]at hk;cases hk
     rw[getD_set_ne false Bq];exact hU k hk
    ·refine Ut k ok hk hu ?_;by_cases O1:j=k;·subst O1;exact Lk
     ·rw[getD_set_ne true O1]at Vy;exact Vy
   unfold Ye;rw[El];simp only
   cases aC:A4 we j with
   |false=>
    simp only
    have hc:=sH (Kj:=FF P T ops n0 la we K fuel ((listed.setIfInBounds i true).setIfInBounds j true)) hT hs hi El (Ne.symm GZ) Qu h λE' H' Gs k=>by
     unfold FF at k;have:=(k Gs).2 j (ready_mono hj GZ);unfold Ye at this;rw[El]at this;simp only at this;rw[aC]at this;exact this
    refine BA hc λE1 H1 k=>rest E1 H1 k.1 ?_
    rw[LA _ _ GZ];exact k.2
   |true=>
    simp only
    have hww:hw=true:=by
     rcases fW with k|k;·rw[aC]at k;cases k
     ·exact k
    obtain⟨p1,p2,p3⟩:=Yg Qu;obtain⟨vi,Pw,di,ki,ti⟩:=DD h;have refl:Ek ops.toList E E oi:=⟨λ_ _=>rfl,λ_ _ _ _ _ _ _=>rfl⟩
    have Gs:Sat P (A6 E oi.dst vi) (BP H (n0+i) Pw):=Hg hT hi (ti E H refl (λ_ _ _ _ _ h=>h) rfl _ ⟨rfl,rfl⟩) hs
    unfold FF at ki;have hd:=(ki Gs).2 j (ready_mono hj GZ);unfold Ye at hd;rw[El]at hd;simp only at hd;rw[aC]at hd
    obtain⟨Kw,A7,E5⟩:=hd;have h3:=ti E H refl (λ_ _ _ _ _ h=>h) rfl (λE' H'=>mN T (la j) oj E' H' Kw) A7
    refine⟨_,yY (by have:=lF j aC;omega) ((hnr hww).imp id λh=>h j aC) p1 p2 p3 h3,λE1 H1 k=>rest E1 H1 k.1 (BA k.2 λE2 H2 k2=>?_)⟩
    rw[LA _ _ GZ];exact E5 _ _ k2
def wI(ops:Array Oper)(we:List Nat)(listed:Array Bool)(k:Nat)(hw:Bool)(U:List Nat):Bool:=
 match ops[k]? with
 |none=>false
 |some ok=>A4 U k&&(Xaa ops.size).all (λj=>(!A4 U j||(!listed.getD j false))&&match ops[j]? with
   |none=>true
   |some oj=>(match A4 U j with
    |true=>Qt j k||oj.after.any (λe=>Vf .any e&&A4 U e.on)
    |false=>listed.getD j true||((!A4 we j||hw)&&ok.apart ops oj)))&&U.all λj=>decide (j<ops.size)
def tL(ops:Array Oper)(we nr:List Nat):List Nat->Array Bool->Bool
 |[],listed=>(Ff .any ops listed).isEmpty
 |k::r,listed=>(match A4 we k with
  |true=>(Ff .any ops listed == [k])
  |false=>(Ff .any ops listed).contains k&&wI ops we listed k (A4 nr k||(match ops[k]? with|some o=>pvB o|none=>false)) (En ops k))&&tL ops we nr r (listed.setIfInBounds k true)
def so3(P:Program)(T:List TY)(ops:List Oper)(n0:Nat)(la:Nat->Nat)(we nr:List Nat):List Nat->List AV->List HO->KK->Prop
 |[],E,H,K=>K E H
 |k::r,E,H,K=>Cm ops k λo=>match A4 we k with
  |false=>(match A4 nr k with
   |true=>(we.all λj=>Xp (la j) E o.op.operands.toList)=true/\FA P T ops n0 k o E H λE H=>so3 P T ops n0 la we nr r E H K
   |false=>FA P T ops n0 k o E H λE H=>so3 P T ops n0 la we nr r E H K)
  |true=>mN T (la k) o E H (λE H=>so3 P T ops n0 la we nr r E H K)
theorem Mf(hT:BG P T)(lF:∀j,A4 we j=true->la j<n0):∀(l:List Nat)(listed:Array Bool)(E:List AV)(H:List HO),
  tL ops we nr l listed=true->so3 P T ops.toList n0 la we nr l E H K->FF P T ops n0 la we K l.length listed E H
 |[],listed,E,H,hB,h=>by
  unfold FF;unfold so3 at h;exact λ_=>⟨by simpa[tL]using hB,h⟩
 |k::l,listed,E,H,hB,h=>by
  simp only[tL,C3]at hB;obtain⟨O5,pJ⟩:=hB;unfold so3 at h;replace h:=AL.1 h;obtain⟨o,h0,h⟩:=h
  have h0:ops[k]?=some o:=by simpa using h0
  cases hw:A4 we k with
  |false=>
   rw[hw]at h O5;simp only[C3]at O5 h;obtain⟨hr,hf⟩:=O5;rw[h0]at hf;simp only at hf;generalize hww:(A4 nr k||pvB o)=ww at hf
   unfold wI at hf;rw[h0]at hf;simp only[C3,PR,Rn]at hf;obtain⟨⟨hUk,BW⟩,AP⟩:=hf;have lt:∀j,A4 (En ops k) j=true->j<ops.size:=λj hj=>by simpa using AP j (Hv hj)
   have up:∀j oj,A4 (En ops k) j=true->j≠k->ops[j]?=some oj->∃e∈oj.after,Vf .any e=true/\A4 (En ops k) e.on=true:=λj oj hu O1 El=>by
    have:=(BW j (lt j hu)).2;rw[El]at this;simp only[hu]at this;simp only[N0]at this;rcases this with h1|h1;·exact absurd (Fj h1) O1
    ·obtain⟨e,he,h2⟩:=Xah.1 h1;simp only[C3]at h2;exact⟨e,he,h2⟩
   have un:∀j,A4 (En ops k) j=true->listed.getD j false=false:=λj hu=>by
    have:=(BW j (lt j hu)).1;simpa[hu]using this
   have apt:∀j oj,ops[j]?=some oj->A4 (En ops k) j=false->listed.getD j true=false->(A4 we j=false\/ww=true)/\o.apart ops oj=true:=λj oj El hu Vy=>by
    have Va:=(F0.1 El).1;have:=(BW j Va).2;rw[El]at this;simp only[hu]at this;simp only[Vy,N0,C3,O0,Xai,false_or]at this;exact this
   cases hp:A4 nr k with
   |false=>
    rw[hp]at h;refine RF hT lF h0 hw (U:=A4 (En ops k)) hUk (hw:=ww) up l.length listed E H un apt (by simpa using hr) (λh=>.inl ?_) (BA h λE' H' h'=>Mf hT lF l _ E' H' pJ h')
    rw[hp,Bool.false_or]at hww;rw[hww];exact h
   |true=>
    rw[hp]at h;refine RF hT lF h0 hw (U:=A4 (En ops k)) hUk (hw:=ww) up l.length listed E H un apt (by simpa using hr) (λ_=>.inr λj hj y hy=>To (PR.1 h.1 j (Hv hj)) y (by simpa using hy)) (BA h.2 λE' H' h'=>Mf hT lF l _ E' H' pJ h')
  |true=>
   rw[hw]at h O5;simp only at h O5;have hr:Ff .any ops listed=[k]:=by simpa using O5
   show FF P T ops n0 la we K (l.length+1) listed E H
   unfold FF;intro hs;refine⟨λh0=>(by rw[hr]at h0;cases h0),λj hj=>?_⟩
   rw[hr]at hj;obtain rfl:j=k:=by simpa using hj
   unfold Ye;rw[h0];simp only;rw[hw];simp only
   exact⟨_,h,λE1 H1 hh=>Mf hT lF l _ E1 H1 pJ hh⟩
theorem Aa.Zcm{id:Nat}(la:Nat->Nat)(l im we nr:List Nat)(hT:BG P T)(hm:P.follows .mixedOrders=true)(hB:(Qt l.length ops.size&&tL ops we nr l (Hx ops.size false))=true)(lF:(we.all λj=>Nat.ble (la j+1) H.length)=true)
  (h:so3 P T ops.toList H.length la we nr l E (H++Xu im ops.size) K):Aa P (.region id ops true) E H K X:=by
 refine⟨λn G a w hP Af=>?_⟩
 subst hP;obtain⟨C,mu,Af⟩:=Af;have CL:Az G C mu E H a w.drew:=Af.drew;have cE:=CL.pad im ops.size;simp only[C3]at hB;have hl:=Fj hB.1;have h1:=Mf (ops:=ops) (n0:=H.length) (we:=we) (nr:=nr) (K:=K) hT (λj hj=>Sd (PR.1 lF j (Hv hj))) l (Hx ops.size false) E _ hB.2 h
 rw[hl]at h1;refine wpIn_region_any hm ?_;have h2:=RD (X:=X) (r:=G.rd) (n:=n) hT _ _ _ _ a _ h1 ⟨C,mu,cE⟩;simpa using h2
end
section
variable {G:Cx}{C C2:Ae}{w:World}{mu:Mu}{H:List HO}{E:List AV}{a:Act}{T:List TY}{P:Program}{K:KK}{X:XX}{e0:TypeId}{ts:Tok}
def Zby(H:List HO)(ts:Tok)(x y:AV):Prop:=VV ts x y\/∃l sz e rows rows',x=.own l sz 0 rows.length/\y=.sl sz rows'/\H[l]?=some (.arr e sz rows)/\Hc ts rows rows'
def cX(H:List HO)(ts:Tok):List AV->List AV->Prop
 |[],[]=>True
 |x::xs,y::ys=>Zby H ts x y/\cX H ts xs ys
 |_,_=>False
def Zfv(H:List HO)(ts:Tok)(x y:AV):Prop:=VR H ts x y\/∃l cs ds,x=.ptr l 0/\y=.at_ ds/\H[l]?=some (.cells cs)/\cX H ts cs ds
def cW(H:List HO)(ts:Tok):List AV->List AV->Prop
 |[],[]=>True
 |x::xs,y::ys=>Zfv H ts x y/\cW H ts xs ys
 |_,_=>False
theorem rR(Af:Az G C mu E H a w){Sw Sr:Nat->Prop}(KF:∀x∈ts,MF e0 Sw Sr w x)(hS:∀b,Sr b->b<w.heap.size){x y:AV}{u:Value}(h:Zby H ts x y)(hr:Ah C w x mu u):Ah (Dh w) w y Mu.none u:=by
 have hx:Ext C (Dh w) w w:=.of_block (λb o hc=>Af.lt b o hc) λ_ _ _=>rfl
 rcases h with h|⟨l,sz,e,rows,rows',rfl,rfl,hl,h⟩;·exact SS KF (λb hb _=>hS b hb) hx h hr
 ·obtain⟨hz,h2⟩:=Af.heap.BM l e sz rows hl;obtain⟨m1,m2⟩:=Jx h hz;unfold Ah at hr⊢;obtain⟨x,hm,hle,NT,rfl⟩:=hr;rcases h2 with⟨h2,rfl⟩|⟨b,cap,cur,h3,⟨fz,h4,O3⟩,h5,h6,h7,h8,h9⟩
  ·rw[hm]at h2;simp only[E8.injEq,GO.arr.injEq]at h2;subst h2;exact .inl ⟨⟨_,rfl⟩,NF m1⟩
  ·rw[hm]at h3;simp only[E8.injEq,GO.arr.injEq]at h3;subst h3;have h8':=KL KF (λb hb _=>hS b hb) hx h h8
   have f2:b<w.heap.size:=(F0.1 h4).1;refine .inr ⟨b,0,cap,by simp[BO,m1],by omega,h6,(DQ rows' 0).2 λi hi=>⟨m2 _ (Jg hi),(B9 _ _).2 λj hj=>?_⟩⟩
   have hei:rows'[i]?=some rows'[i]:=CM hi;obtain⟨r,hr⟩:=Ha rows' m2 i _ hei;have Px:=(AH _).1 h8';have EI:=m2 _ (Jg hi);have KB:=Bx rows' m2;have hmul:(i+1)*sz<=rows'.length*sz:=Xab _ hi;rw[Nat.add_mul]at hmul;have WI:rows.length*sz<=cap*sz:=Xab _ h5;have yL:rows'.length*sz=rows.length*sz:=by rw[m1]
   have HC:cur.toList.length=cap*sz:=by simpa using h7
   have hk:i*sz+j<(flat rows').length:=by omega
   have HB:i*sz+j<(cur.toList.take (rows.length*sz)).length:=by rw[Px.1];exact hk
   have Fi:=Px.2 (i*sz+j) hk HB
   have WK:(flat rows')[i*sz+j]=rows'[i].cells[j]:=by
    have e1:((flat rows').drop (i*sz))[j]?=(rows'[i].cells++r)[j]?:=by rw[hr]
    rw[Xaj,CM hk,Ll hj,CM hj]at e1;simpa using e1
   rw[WK,List.getElem_take]at Fi;have AP:i*sz+j<cur.toList.length:=by omega
   have e5:cur[i*sz+j]?=some cur.toList[i*sz+j]:=by rw[<-Hs];exact CM AP
   refine⟨cur.toList[i*sz+j],h9 _ (Jg _),⟨f2,?_⟩,Fi⟩;rw[Vw];simp[W1,h4,e5]
theorem VU(Af:Az G C mu E H a w){Sw Sr:Nat->Prop}(KF:∀x∈ts,MF e0 Sw Sr w x)(hS:∀b,Sr b->b<w.heap.size):∀{xs ys:List AV}{us:List Value},cX H ts xs ys->Ab C w xs mu us->Ab (Dh w) w ys Mu.none us
 |[],[],us,_,hr=>by unfold Ab at*;exact hr
 |[],_::_,_,h,_|_::_,[],_,h,_=>h.elim
 |x::xs,y::ys,us,h,hr=>by
  unfold Ab at hr⊢;obtain⟨v,vs,rfl,h1,h2⟩:=hr;exact⟨v,vs,rfl,rR Af KF hS h.1 h1,VU Af KF hS h.2 h2⟩
theorem VT(Af:Az G C mu E H a w){Sw Sr:Nat->Prop}(KF:∀x∈ts,MF e0 Sw Sr w x)(hS:∀b,Sr b->b<w.heap.size):∀{xs ys:List AV}{us:List Value},cW H ts xs ys->Ab C w xs mu us->Ab (Dh w) w ys Mu.none us
 |[],[],us,_,hr=>by unfold Ab at*;exact hr
 |[],_::_,_,h,_|_::_,[],_,h,_=>h.elim
 |x::xs,y::ys,us,h,hr=>by
  unfold Ab at hr⊢;obtain⟨v,vs,rfl,h1,h2⟩:=hr;refine⟨v,vs,rfl,?_,VT Af KF hS h.2 h2⟩;rcases h.1 with k|⟨l,cs,ds,rfl,rfl,hl,k⟩
  ·have k2:SQ H ts [x] [y]:=⟨k,trivial⟩;have:=LF Af KF hS k2 (us:=[v]) (by unfold Ab;exact⟨v,[],rfl,h1,by unfold Ab;rfl⟩)
   unfold Ab at this;obtain⟨v',BY,he,k3,_⟩:=this;simp only[Xag.injEq]at he;obtain⟨rfl,_⟩:=he;exact k3
  ·unfold Ah at h1;obtain⟨b,hm,rfl⟩:=h1;obtain⟨b',cur,e,k1,k2,k3,k4⟩:=Af.heap.Cr l cs hl;rw[hm]at k1;simp only[E8.injEq,GO.CS.injEq]at k1;subst k1;have k5:=VU Af KF hS k k3;unfold Ah;refine⟨b,0,rfl,(B9 _ _).2 λi hi=>?_⟩
   have hlen:=Ap _ k5;have hir:=((AH _).1 k5).2 i hi (by omega)
   have AP:b<w.heap.size:=(F0.1 k2).1;refine⟨cur.toList[i],k4 _ (Jg _),⟨AP,?_⟩,hir⟩;rw[Vw];have:cur[i]?=some cur.toList[i]:=by rw[<-Hs];exact CM _
   simp[W1,k2,this]
theorem Aj.Zal{f:FuncId}{as as':List AV}{v:AV}{K:AV->KK}(Bh:H[0]?=some (.inv (GG e0 ts)))(hv:cW H ts as as')(MB:AO P f as' (λr=>r=v))(hm:BN v=true)(hk:K v E H):Aj P f as E H K X:=by
 refine⟨MB.Eh,λG C mu a w vs hP Af hr=>?_⟩
 obtain⟨Sw,Sr,hf,hJ,key⟩:=Af.owner Bh;obtain⟨rD,hJ2⟩:jF e0 ts Sw Sr w:=hJ;refine(MB.out (Dh w) w vs (NX Af) (VT Af rD hf.lt hv hr)).mono λe w' ⟨r,u,h1,h2,h3,h4⟩=>?_
 subst h2;exact .inl ⟨r,u,E,H,_,mu,h1,hk,Af.below h3,Bb _ hm h4⟩
end
section
variable {G:Cx}{C:Ae}{w:World}{mu:Mu}{H:List HO}{E:List AV}{a:Act}{P:Program}
def MN:AV->AV
 |.lit b=>.bool b
 |.raw (.slice none 0 0)=>.sl 1 []
 |x=>x
def DW:AV->AV
 |.agg cs=>.agg (cs.map MN)
 |x=>MN x
theorem oB{x:AV}{v:Value}(h:Ah C w x mu v):Ah C w (MN x) mu v:=by
 unfold MN;split;·unfold Ah at*;exact h
 ·unfold Ah at*;exact .inl ⟨⟨none,h⟩,rfl⟩
 ·exact h
theorem TJ:∀{cs:List AV}{vs:List Value},Ab C w cs mu vs->Ab C w (cs.map MN) mu vs
 |[],_,h=>h
 |c::cs,vs,h=>by
  simp only[Ky];unfold Ab at h⊢;obtain⟨v,us,rfl,h1,h2⟩:=h;exact⟨v,us,rfl,oB h1,TJ h2⟩
theorem Q8(x:AV):(DW x).cells=x.cells.map MN:=by
 cases x with
 |agg cs|lit b=>rfl
 |raw v=>
  simp only[DW];unfold MN;split<;>simp_all[AV.cells,MN]
 |_=>rfl
theorem fB(es:List AV):flat (es.map DW)=(flat es).map MN:=by
 induction es with
 |nil=>rfl
 |cons x es ih=>
  rw[show flat (x::es)=x.cells++flat es from by simp[flat],H4,<-ih,<-Q8]
  simp[flat]
theorem Az.DW(Af:Az G C mu E H a w)(l:Nat){e:TypeId}{sz:Nat}{es:List AV}(hl:H[l]?=some (.arr e sz es)):Az G C mu E (H.set l (.arr e sz (es.map Av.DW))) a w:=by
 have AP:l<H.length:=(Ak.1 hl).1
 have hg:∀{k:Nat}{ob:HO},(H.set l (.arr e sz (es.map Av.DW)))[k]?=some ob->(k=l/\ob=.arr e sz (es.map Av.DW))\/H[k]?=some ob:=λ{k ob} hk=>by
  by_cases NU:k=l
  ·subst NU;rw[E4 AP]at hk;exact .inl ⟨rfl,(E8.inj hk).symm⟩
  ·rw[C4 (λe=>NU e.symm)]at hk;exact .inr hk
 have Ji:∀{k:Nat}{ob:HO},(H.set l (.arr e sz (es.map Av.DW)))[k]?=some ob->(∀e sz es,ob≠.arr e sz es)->H[k]?=some ob:=λ{k ob} hk Bq=>by
  rcases hg hk with⟨_,h⟩|h;·exact absurd h (Bq _ _ _)
  ·exact h
 refine⟨Af.c0,Af.c1,Af.lt,⟨λi g hi=>by simpa using Af.heap.Is i g hi,Af.heap.fresh,Af.heap.sep,λk hk=>Af.heap.dead k (Ji hk (by intros;simp)),λk cs hk=>Af.heap.Cr k cs (Ji hk (by intros;simp)),λk e' BI Cg hk=>?_,λk ks vs hk=>Af.heap.maps k ks vs (Ji hk (by intros;simp))⟩,Af.env,?_,Af.Ax,by simpa using Af.Ds.1,Af.Ds.2⟩
 ·rcases hg hk with⟨rfl,h⟩|h
  ·cases h;obtain⟨k1,k2⟩:=Af.heap.BM k e sz es hl;refine⟨λx hx=>?_,?_⟩
   ·obtain⟨y,hy,rfl⟩:=KG.1 hx;have:=k1 y hy;rw[Q8,Fl];exact this
   ·rcases k2 with⟨k2,rfl⟩|⟨b,cap,cur,k2,k3,k4,k5,k6,k7,k8⟩;·exact .inl ⟨k2,rfl⟩
    ·refine .inr ⟨b,cap,cur,by rw[Fl];exact k2,k3,by rw[Fl];exact k4,k5,k6,?_,k8⟩
     rw[Fl];exact(by rw[fB];exact TJ k7)
  ·exact Af.heap.BM k e' BI Cg h
 ·obtain⟨ms,d1,d2⟩:=Af.defers
  exact⟨ms,d1,⟨λk cs' vs gm hk=>d2.Bl k cs' vs gm (Ji hk (by intros;simp)),λk I hk=>by
   obtain⟨h0,Sw,Sr,q1,q2,q3,q4⟩:=d2.Hz k I (Ji hk (by intros;simp))
   exact⟨h0,Sw,Sr,q1,q2,q3,λk' cs' vs gm HB=>q4 k' cs' vs gm (Ji HB (by intros;simp))⟩,d2.marks,d2.nd,λk k' cs' vs gm cs2 zA gm2 hk HB=>d2.sep k k' cs' vs gm cs2 zA gm2 (Ji hk (by intros;simp)) (Ji HB (by intros;simp))⟩⟩
theorem Aj.DW(l:Nat){f:FuncId}{args:List AV}{e:TypeId}{sz:Nat}{es Cg:List AV}{K:AV->KK}{X:XX}(hl:H[l]?=some (.arr e sz es))(he:es.map Av.DW=Cg)(h:Aj P f args E (H.set l (.arr e sz Cg)) K X):Aj P f args E H K X:=by
 subst he;exact⟨h.Eh,λG C mu a w vs hP Af hr=>h.out G C mu a w vs hP (Af.DW l hl) hr⟩
theorem Aa.ZfS(t sz:Nat){c:Code}{K:KK}{X:XX}(he:E[t]?=some (.raw (.slice none 0 0)))(h:Aa P c (E.set t (.sl sz [])) H K X):Aa P c E H K X:=by
 refine⟨λn G a w hP Af=>?_⟩
 obtain⟨C,mu,Af⟩:=Af;refine h.out n G a w hP ⟨C,mu,Af.frame ?_ rfl⟩;obtain⟨h1,h2⟩:=(AH _).1 Af.env;refine(AH _).2 ⟨by simpa using h1,λi hi Fk=>?_⟩
 have hiE:i<E.length:=by simpa using hi
 by_cases hti:t=i
 ·subst hti;rw[List.getElem_set_self];have:=h2 t hiE Fk;rw[CM hiE]at he;rw[E8.inj he]at this;unfold Ah at this⊢;exact .inl ⟨⟨none,this⟩,rfl⟩
 ·rw[List.getElem_set_ne hti];exact h2 i hiE Fk
end
section
variable {G:Cx}{C:Ae}{w:World}{mu:Mu}{H:List HO}{E:List AV}{a:Act}{P:Program}{T:List TY}{K:KK}{X:XX}
theorem Yo(w:World)(cur:Array Value)(e:TypeId):(w.alloc (.cells cur e)).freeze ⟨w.heap.size,cur.size,none⟩ 1=w.alloc (.cells cur e (cur.size,cur.size+1)):=by
 have h1:∀o:Obj,(w.alloc o).heap=w.heap.push o:=λo=>rfl
 unfold World.freeze;simp only[Nat.one_ne_zero,if_false]
 have h2:(w.alloc (.cells cur e)).heap.modify w.heap.size (λ
   |.cells c elem (lo,hi)=>.cells c elem (if lo == hi then (cur.size,cur.size+1)else (min lo cur.size,max hi (cur.size+1)))
   |o=>o)=w.heap.push (.cells cur e (cur.size,cur.size+1)):=by
  rw[h1];apply Array.ext_getElem?;intro i;rw[Sf];by_cases hi:w.heap.size=i
  ·subst hi;simp
  ·rw[if_neg hi,Xae,Xae];simp[Ne.symm hi]
 exact congrArg (λh=>{w.alloc (.cells cur e)with heap:=h}) h2
def obK(T:List TY)(E:List AV)(H:List HO)(s d:TypeId)(x:Operand)(K:AV->KK):Prop:=
 Cm T s λys=>Cm T d λyd=>De E x λv=>match ys.k,yd.k with
  |.string,.slice e Bv _ _=>(match v with
   |.str l=>(match Qt Bv 1 with
    |true=>Cm T e λye=>(match ye.k with
     |.int .u8=>K (.own H.length 1 0 l.length) E (H++[.arr e 1 (l.map λb=>.int .u8 b.toNat)])
     |_=>False)
    |false=>False)
   |_=>False)
  |_,_=>False
theorem ZfR(hT:BG G.P T)(h:Az G C mu E H a w){s d:TypeId}{x:Operand}{K:AV->KK}(hk:obK T E H s d x K):GM G a w K (convert s d (a.eval x)):=by
 unfold obK at hk;replace hk:=AL.1 hk;obtain⟨ys,hys,hk⟩:=hk
 replace hk:=AL.1 hk;obtain⟨yd,hyd,hk⟩:=hk
 rw[Ac]at hk;have Vx:=AX h.env x;split at hk;case h_2=>exact hk.elim
 rename_i e Bv by' ag h1 h2
 have lC:=hT.string hys h1;obtain⟨hud,EI,hby,_⟩:=hT.slice hyd h2;split at hk;case h_2=>exact hk.elim
 rename_i l Z5;rw[Z5]at Vx;obtain⟨yC,cH⟩:=Bp Vx;split at hk;case h_2=>exact hk.elim
 rename_i hb;obtain rfl:=Fj hb;replace hk:=AL.1 hk;obtain⟨ye,Rj,hk⟩:=hk
 split at hk;case h_2=>exact hk.elim
 rename_i pA;have Yt:=hT.int Rj pA;rw[yC]
 obtain⟨w1,cap,hch,Af,HR,hcm⟩:∃w1 cap,(choose (.appendCap l.length 0 e)).run G.P w=.ok cap w1/\Az G C mu E H a w1/\(l.length<=cap\/l.length=0)/\cap<=9223372036854775807:=by
  rw[run_choose];split
  ·rename_i hf;refine⟨w,0,rfl,h,?_,by omega⟩
   simp[Question.forced]at hf
  ·refine⟨w.drew,_,rfl,h.drew,.inl ?_,?_⟩;·exact grownCap_ge w l.length 0 e
   ·exact Mx (grownCap_le_maxLen w l.length 0 e (by simp only[maxLen];omega)) (by simp[maxLen])
 have lN:l.length<=cap:=by omega
 obtain⟨cur,yR⟩:∃c:Array Value,(l.toArray.map λb=>Value.int .u8 b.toNat)++Hx (cap-l.length) (.int .u8 0)=c:=⟨_,rfl⟩
 have aH:cur.size=cap:=by rw[<-yR];simp;omega
 have Eg:(w1.alloc (.cells cur e)).heap[w1.heap.size]?=some (.cells cur e (0,0)):=heap_alloc_new _ _;have fZ:(w1.alloc (.cells cur e)).shape? w1.heap.size=some (e,cur.size):=by unfold World.shape?;rw[Eg]
 have HC:cur.toList=(l.map λb=>Value.int .u8 b.toNat)++Li (cap-l.length) (.int .u8 0):=by rw[<-yR];simp
 have VC:∀v∈cur.toList,v.oneCell'=true:=λv hv=>by
  rw[HC]at hv;rcases It.1 hv with hv|hv
  ·obtain⟨b,_,rfl⟩:=KG.1 hv;rfl
  ·rw[List.eq_of_mem_replicate hv];rfl
 have Uk:∀l:List UInt8,Ab C w1 (l.map λb=>AV.int .u8 b.toNat) (Bc mu) (l.map λb=>Value.int .u8 b.toNat):=λl=>by
  induction l with
  |nil=>unfold Ab;rfl
  |cons b l ih=>
   simp only[Ky];unfold Ab;refine⟨_,_,rfl,?_,ih⟩;unfold Ah;exact⟨rfl,uX.2 ⟨by omega,by have:=b.toNat_lt;omega⟩⟩
 have m:=Af.alloc (.cells cur e (cur.size,cur.size+1)) (.arr e 1 (l.map λb=>.int .u8 b.toNat)) (Yp H _) (.arr (.slice (some ⟨w1.heap.size,0,none⟩) l.length cap)) (by simp[GO.Aq]) (by simp) (by simp) (λe' BI Cg hc'=>by
  simp only[HO.arr.injEq]at hc';obtain⟨rfl,rfl,rfl⟩:=hc';refine⟨λy hy=>?_,cap,cur,by simp,⟨_,rfl,.inr rfl⟩,by simpa using lN,hcm,by simpa using aH,?_,VC⟩
  ·obtain⟨b,_,rfl⟩:=KG.1 hy;rfl
  ·rw[UG,HC];simp only[Fl,Nat.mul_one];rw[Xaq (by simp)]
   exact Uk l)
 refine⟨_,.slice (some ⟨w1.heap.size,0,none⟩) l.length cap,_,_,_,_,_,hk,?_,m,?_⟩
 ·simp only[convert,I0,run_underlying lC,run_underlying hud,run_underlying Yt,G2,Conv.stringToBytes,D7,hch];simp only[yR,newRow,markStringish,I0,run_newObj,World.alloc_eq,Rr,G2,run_shape,fZ,run_freeze,Yo]
 ·unfold Ah;exact⟨_,Mu.As _ _ _,by simp[C8],by simp only[C8,Kk];exact⟨lN,hcm⟩,by simp[BO]⟩
def eA(P:Program)(T:List TY)(ops:List Oper)(own:List Nat):Nat->List Oper->List AV->List HO->KK->XX->Prop
 |_,[],E,H,K,_=>K E H
 |k,o::r,E,H,K,X=>match A4 own k with
  |true=>(match o.guard,o.op with
   |none,.convert s d x=>obK T E H s d x λv E' H'=>Bu E' o.dst v λHU=>eA P T ops own (k+1) r HU H' K X
   |_,_=>False)
  |false=>gdK ops E o.guard
   (λE=>Ty none P T E H o.op (λv E' H'=>Bu E' o.dst v λHU=>eA P T ops own (k+1) r HU H' K X) X)
   (λE=>Bu E o.dst (.raw undef) λE'=>eA P T ops own (k+1) r E' H K X)
theorem JH(hT:BG G.P T){r:Option Nat}{n:Nat}{ops:Array Oper}{own:List Nat}:∀(l:List Oper){k:Nat}{C:Ae}{mu:Mu}{E:List AV}{H:List HO}{a:Act}{w:World},eA G.P T ops.toList own k l E H K X->Az G C mu E H a w->wpListIn (fw r) n G.P ops (Mg G K X) l a w
 |[],_,_,_,_,_,_,_,h,Af=>⟨_,_,h,_,_,Af⟩
 |o::l,k,C,mu,E,H,a,w,h,Af=>by
  unfold eA at h;unfold wpListIn;split at h
  ·split at h
   ·rename_i s d x hg ho;rw[if_pos (by simp[Um,hg])]
    obtain⟨v,u,E',H',C',mu',w',h1,h2,h3,h4⟩:=ZfR hT Af h
    have hwp:o.wp G.P a w (λa' w'=>wpListIn (fw r) n G.P ops (Mg G K X) l a' w') (Mg G K X):=by
     refine AK (G:=G) (o:=o) (X:=X) (Q:=K) (K:=λv E' H'=>Bu E' o.dst v λHU=>eA G.P T ops.toList own (k+1) l HU H' K X) (λa' w' hp=>?_) h1 (AZ (by simp[execOp,ho]) h2) h3 h4
     obtain⟨y,E2,H2,k1,C2,cD,k2⟩:=hp;rw[Au]at k1;exact JH hT l k1 k2
    exact Bz (λc hc=>by rw[ho]at hc;cases hc) hwp
   ·exact h.elim
  ·rcases HE rfl Af h with⟨hw,E',h1,h2⟩|⟨hw,E',h1,h2⟩
   ·rw[if_pos hw];refine DV hT h1 h2 λa' w' hp=>?_
    obtain⟨x,HU,H',h3,C',mu',h4⟩:=hp;rw[Au]at h3;exact JH hT l h3 h4
   ·rw[if_neg (by simp[hw])]
    rw[Au]at h1;exact⟨λ_ _=>trivial,JH hT l h1 (h2.frame (Bf h2.env o.dst (by unfold Ah;rfl)) (put_defers _ _ _))⟩
theorem Aa.ZcJ(own:List Nat)(hT:BG P T){id:Nat}{ops:Array Oper}(h:eA P T ops.toList own 0 ops.toList E H K X):Aa P (.region id ops false) E H K X:=by
 refine⟨λn G a w hP Af=>?_⟩
 obtain⟨C,mu,Af⟩:=Af;subst hP;exact wpIn_region_list (JH hT _ h Af)
end
def tZ:Inv where
 J:=λ_ _ _=>True
 Ta:=λ_ _ _ _ _ _=>trivial
 Cb:=λ_ _=>True
 nb:=0
def wrP(b:Nat):Value:=.pointer (some ⟨b,0,none⟩)
section
variable {G:Cx}{C C':Ae}{w w':World}{mu:Mu}{H:List HO}{E:List AV}{a:Act}{Ts:List TY}{P:Program}{K:KK}{X:XX}{T e:TypeId}{b:Nat}{bs out:List UInt8}
theorem Az.Zc1(h:Az G C mu E [] a w):Az G C mu E [.inv tZ] a w:=by
 obtain⟨ms,d1,d2⟩:=h.defers
 have one:∀{l:Nat}{y:HO},[HO.inv tZ][l]?=some y->l=0/\y=.inv tZ:=λ{l y} hl=>by
  cases l with
  |zero=>simp at hl;exact⟨rfl,hl.symm⟩
  |succ l=>simp at hl
 have Pz:∀l g,mu l≠some g:=λl g hl=>by have:=h.heap.Is l g hl;simp at this
 refine⟨h.c0,h.c1,h.lt,⟨λl g hl=>absurd hl (Pz l g),λl g b hl=>absurd hl (Pz l g),λl g b l' g' hl=>absurd hl (Pz l g),λl hl=>?_,λl cs hl=>?_,λl e sz es hl=>?_,λl ks vs hl=>?_⟩,h.env,
  ⟨ms,d1,λl cs us DE hl=>?_,λl I hl=>?_,d2.marks,d2.nd,λl l' cs vs ms cs' BY DE hl=>?_⟩,h.Ax,Mx h.Ds.1 (Xac _),h.Ds.2⟩
 ·cases (one hl).2
 ·cases (one hl).2
 ·cases (one hl).2
 ·cases (one hl).2
 ·cases (one hl).2
 ·obtain⟨h0,h1⟩:=one hl;simp only[HO.inv.injEq]at h1;subst h1;exact⟨h0,λ_=>False,λ_=>False,⟨λb hb=>hb.elim,Xac _,λ_ _ _=>.inl trivial,λl g b hl=>absurd hl (Pz l g),λ_ h=>h,λ_ h=>h.elim,λ_ h=>h.elim,λ_ _ h=>h.elim⟩,trivial,λ_ _ h=>h,λ_ _ _ _ _ _ _ h=>h⟩
 ·cases (one hl).2
theorem Aa.Zc1{c:Code}(h:Aa P c E [.inv tZ] K X):Aa P c E [] K X:=
 ⟨λn G a w hP ⟨C,mu,Af⟩=>h.out n G a w hP ⟨C,mu,Af.Zc1⟩⟩
end
def Le(x y:AV):Prop:=∀(C:Ae)(w:World)(mu:Mu)(v:Value),Ah C w x mu v->Ah C w y mu v
inductive Les:List AV->List AV->Prop
 |nil:Les [] []
 |cons {x y:AV} {xs ys:List AV}:Le x y->Les xs ys->Les (x::xs) (y::ys)
theorem Le.refl(x:AV):Le x x:=λ_ _ _ _ h=>h
theorem Le.nil(sz:Nat):Le (.raw (.slice none 0 0)) (.sl sz []):=λ_ _ _ _ h=>by
 unfold Ah at*;exact .inl ⟨⟨none,h⟩,rfl⟩
theorem Les.ZfK{C:Ae}{w:World}{mu:Mu}{xs ys:List AV}(h:Les xs ys):∀{vs:List Value},Ab C w xs mu vs->Ab C w ys mu vs:=by
 induction h with
 |nil=>exact λh=>h
 |cons h1 _ ih=>
  intro vs h;unfold Ab at h⊢;obtain⟨v,BY,k1,k2,k3⟩:=h;exact⟨v,BY,k1,h1 _ _ _ _ k2,ih k3⟩
theorem Le.agg{xs ys:List AV}(h:Les xs ys):Le (.agg xs) (.agg ys):=λ_ _ _ _ k=>by
 unfold Ah at*;obtain⟨vs,k1,k2⟩:=k;exact⟨vs,k1,h.ZfK k2⟩
theorem AO.Yn{P:Go.Program}{f:Nat}{args args':List AV}{R:AV->Prop}(hl:Les args args')(h:AO P f args' R):AO P f args R:=
 ⟨h.Eh,λC w vs h1 h2=>h.out C w vs h1 (hl.ZfK h2)⟩
section
variable {P:Program}{T:List TY}{E:List AV}{H:List HO}{K:KK}{X:XX}
def sF:Code->Bool
 |.region _ _ false|.cond _ _ _|.block _ _|.scope _|.skip|.label _|.exit _|.ret|.seq _ _=>true
 |_=>false
def ZbB(P:Program)(T:List TY)(E:List AV)(H:List HO)(K:KK)(X:XX):Code->Prop
 |.region _ ops false=>Zi P T ops.toList ops.toList E H K X
 |.cond c x y=>De E c λv=>match v with
  |.lit t=>(match t with|true=>Aa P x E H K X|false=>Aa P y E H K X)
  |.bool t=>(t=true->Aa P x E H K X)/\(t=false->Aa P y E H K X)
  |_=>False
 |.block id b=>Aa P b E H K λe E H=>match e with
  |.exit i=>(match Qt i id with|true=>K E H|false=>X (.exit i) E H)
  |.ret=>X .ret E H
  |.panic x=>X (.panic x) E H
 |.scope b=>Aa P b E H K X
 |.skip|.label _=>K E H
 |.exit id=>X (.exit id) E H
 |.ret=>X .ret E H
 |.seq x y=>Aa P x E H (λE H=>Aa P y E H K X) X
 |_=>False
theorem Aa.st{c:Code}(hT:BG P T)(hb:sF c=true)(h:ZbB P T E H K X c):Aa P c E H K X:=by
 unfold sF at hb;split at hb;·exact Aa.ZbC hT h
 ·exact Aa.ZcM h
 ·exact Aa.zR h
 ·exact Aa.zP h
 ·exact Aa.ZcI h
 ·exact Aa.zQ h
 ·exact Aa.ZcL h
 ·exact Aa.ZfH h
 ·exact Aa.seq h
 ·cases hb
end
theorem kW{P Q:Prop}(h:Q)(e:Q->P:=by intro h;(conv=>whnf);(repeat(refine Aa.st Ag rfl ?_;conv=>whnf));exact h):P:=e h
theorem GA{P:Prop}(e:P:=by(conv=>whnf);repeat(refine Aa.st Ag rfl ?_;conv=>whnf)):P:=e
theorem kR{P Q:Prop}(h:Q)(e:Q->P:=by intro h;(repeat(refine Aa.st Ag rfl ?_;conv=>whnf));exact h):P:=e h
theorem Dd{P Q:Prop}(h:Q)(e:Q->P:=by intro h;(refine Aa.st Ag rfl ?_;conv=>whnf);(repeat(refine Aa.st Ag rfl ?_;conv=>whnf));exact h):P:=e h
theorem kRe{P:Prop}(e:P:=by repeat(refine Aa.st Ag rfl ?_;conv=>whnf)):P:=e
theorem kQ{P Q:Prop}(h:Q)(e:Q->P:=by intro h;(conv=>whnf);(repeat(refine And.intro ?_ ?_;(focus (first|rfl|(simp;done)));conv=>whnf));exact h):P:=e h
theorem CV{A P Q:Prop}(a:A)(h:Q)(e:A->Q->P:=by intro a h;(conv=>whnf);(repeat(refine And.intro ?_ ?_;(focus (first|rfl|(simp;done)|(exact a)));conv=>whnf));exact h):P:=e a h
theorem kD{P Q:Prop}(h:Q)(e:Q->P:=by intro h;(repeat(first|(refine⟨λ_=>?_,λh=>absurd h (by decide +kernel)⟩;conv=>whnf)|(refine⟨λh=>absurd h (by decide +kernel),λ_=>?_⟩;conv=>whnf)|(refine⟨by decide,_,rfl,?_⟩;conv=>whnf)|(refine Aa.st Ag rfl ?_;conv=>whnf)));exact h):P:=e h
theorem kDe{P:Prop}(e:P:=by repeat(first|(refine⟨λ_=>?_,λh=>absurd h (by decide +kernel)⟩;conv=>whnf)|(refine⟨λh=>absurd h (by decide +kernel),λ_=>?_⟩;conv=>whnf)|(refine⟨by decide,_,rfl,?_⟩;conv=>whnf)|(refine Aa.st Ag rfl ?_;conv=>whnf))):P:=e
section
variable {H:List HO}{E:List AV}{X:XX}{T:List TY}{P:Program}
theorem kC{f:FuncId}{bs:List AV}{K:AV->KK}{v:AV}{Q:Prop}(h:AO P f bs (λr=>r=v))(k:Q)(hc:An bs=true:=by exact rfl)(e:Q->K v E H:=by intro h;(conv=>whnf);(repeat(refine Aa.st Ag rfl ?_;conv=>whnf));exact h):Aj P f bs E H K X:=
 Aj.Dk h hc λr hr=>by subst hr;exact e k
theorem kCe{f:FuncId}{bs:List AV}{K:AV->KK}{v:AV}(h:AO P f bs (λr=>r=v))(hc:An bs=true:=by exact rfl)(e:K v E H:=by(conv=>whnf);repeat(refine Aa.st Ag rfl ?_;conv=>whnf)):Aj P f bs E H K X:=
 Aj.Dk h hc λr hr=>by subst hr;exact e
theorem kB{f:FuncId}{fn:Func}{c:Code}{args:List AV}{R:AV->Prop}{Q:Prop}(hf:P.funcs[f]?=some fn)(hb:fn.body=some c)(h:Q)(hT:BG P T:=by exact Ag)(hg:Cq P f=true:=by kernel_rfl)
  (e:Q->Ei fn.ntmps args λE=>Aa P c E [] (PN T fn.results.toList R) (λe E H=>match e with|.ret=>PN T fn.results.toList R E H|_=>False):=by intro h;(conv=>whnf);(repeat(refine Aa.st Ag rfl ?_;conv=>whnf));exact h):AO P f args R:=
 AO.A3 hf hb hT hg (e h)
end
section
variable {G:Cx}{C:Ae}{w w':World}{mu:Mu}{H:List HO}{E:List AV}{a:Act}{P:Program}
def ZfF(H:List HO)(x y:AV):Prop:=(closed x=true/\y=x)\/∃l cs,x=.ptr l 0/\H[l]?=some (.cells cs)/\An cs=true/\y=.at_ cs
def Kc(H:List HO):List AV->List AV->Prop
 |[],[]=>True
 |x::xs,y::ys=>ZfF H x y/\Kc H xs ys
 |_,_=>False
theorem Kc.ptr{l:Nat}{cs:List AV}{xs ys:List AV}(hl:H[l]?=some (.cells cs))(hc:An cs=true)(h:Kc H xs ys):Kc H (.ptr l 0::xs) (.at_ cs::ys):=⟨.inr ⟨l,cs,rfl,hl,hc,rfl⟩,h⟩
def cY(C:Ae)(mu:Mu)(H:List HO):Ae:=λb o=>C b o\/∃l cs,H[l]?=some (.cells cs)/\mu l=some (.CS b)
theorem SV:Ext C (cY C mu H) w w:=⟨λ_ _ h=>.inl h,λ_ _ _=>rfl⟩
theorem zC(h:Az G C mu E H a w):∀b o,cY C mu H b o->b<w.heap.size:=λb o hb=>by
 rcases hb with hb|⟨l,cs,hl,hm⟩;·exact h.lt b o hb
 ·exact(h.heap.fresh l _ b hm rfl).2.1
theorem zO(h:Az G C mu E H a w){x y:AV}{v:Value}(hs:ZfF H x y)(hr:Ah C w x mu v):Ah (cY C mu H) w y Mu.none v:=by
 rcases hs with⟨hc,rfl⟩|⟨l,cs,rfl,hl,hc,rfl⟩;·exact Ah.mono SV _ (AI.refl _) (Bk _ hc hr)
 ·obtain⟨b,cur,e,k1,k2,k3,k4⟩:=h.heap.Cr l cs hl;unfold Ah at hr;obtain⟨b',k5,rfl⟩:=hr;rw[k1]at k5;simp only[E8.injEq,GO.CS.injEq]at k5;subst k5;unfold Ah;refine⟨b,0,rfl,(B9 _ _).2 λi hi=>?_⟩
  obtain⟨hlen,Uk⟩:=(AH _).1 (Ab.mono (SV (mu:=mu) (H:=H)) _ (AI.refl _) (A8 _ hc k3));have Fk:i<cur.toList.length:=by omega
  refine⟨cur.toList[i],k4 _ (Jg Fk),⟨.inr ⟨l,cs,hl,k1⟩,?_⟩,Uk i hi Fk⟩;rw[Vw];have hci:cur[i]?=some cur.toList[i]:=by simp at Fk;simp[Fk]
  simp[W1,k2,hci]
theorem Y5(h:Az G C mu E H a w):∀{xs ys:List AV}{vs:List Value},Kc H xs ys->Ab C w xs mu vs->Ab (cY C mu H) w ys Mu.none vs
 |[],[],_,_,hr=>by unfold Ab at*;exact hr
 |x::xs,y::ys,_,hs,hr=>by
  unfold Ab at hr⊢;obtain⟨v,BY,rfl,h2,h3⟩:=hr;exact⟨v,BY,rfl,zO h hs.1 h2,Y5 h hs.2 h3⟩
 |[],_::_,_,hs,_|_::_,[],_,hs,_=>hs.elim
def ZbG(r:AV):Prop:=BN r=true\/∃ks vs,r=.mp ks vs/\CJ ks=true/\CJ vs=true
theorem Zac(h:Az G C mu E H a w)(hb:Below w.heap.size w w'){r:AV}{v:Value}(ho:ZbG r)(hr:Ah (Ld (cY C mu H) w.heap.size w'.heap.size) w' r Mu.none v):Ah (Ld C w.heap.size w'.heap.size) w' r mu v:=by
 rcases ho with ho|⟨ks,vs,rfl,hk,hv⟩;·exact Bb _ ho hr
 ·unfold Ah at hr⊢;rcases hr with hr|⟨b,es,clock,h1,h2,h3,h4,h5⟩;·exact .inl hr
  ·refine .inr ⟨b,es,clock,h1,?_,h3,Ck _ hk h4,Ck _ hv h5.1,h5.2⟩;rcases h2 with (h2|⟨l,cs,hl,hm⟩)|h2;·exact .inl h2
   ·obtain⟨b',cur,e,k1,k2,_⟩:=h.heap.Cr l cs hl;rw[hm]at k1;simp only[E8.injEq,GO.CS.injEq]at k1;subst k1;rw[hb.block b (h.heap.fresh l _ b hm rfl).2.1,k2]at h3;cases h3
   ·exact .inr h2
theorem Aj.LW{f:FuncId}{args args':List AV}{R:AV->Prop}{K:AV->KK}{X:XX}(hc:AO P f args' R)(hs:Kc H args args')(hk:∀r,R r->ZbG r/\K r E H):Aj P f args E H K X:=by
 refine⟨hc.Eh,λG C mu a w us hP Af hr=>?_⟩
 have Zj2:cM (cY C mu H) w:=Af.qI.mono SV (zC Af)
 exact(hc.out (cY C mu H) w us.toArray.toList Zj2 (by simpa using Y5 Af hs hr)).mono λe w' ⟨r,u,k1,k2,k3,k4⟩=>by
  obtain⟨ho,hK⟩:=hk r k2;exact .inl ⟨r,u,E,H,_,mu,k1,hK,Af.below k3,Zac Af k3 ho k4⟩
end
open Go.ChangeMaps (setBlock)
def HJ(es:Array MapEntry)(i:Nat):Nat:=match es[i]? with|some e=>e.born|none=>0
def ItJ(ks vs:List AV)(r:Nat)(d:List Nat)(Sw Sr:Nat->Prop)(w:World):Prop:=
 (Sw r/\Sr r)/\((ks=[]/\vs=[]/\d=[]/\w.heap[r]?=some (.mapIter none 0 #[] 0))\/
  ∃m es clock seen,Sr m/\w.heap[m]?=some (.map es clock)/\w.heap[r]?=some (.mapIter (some m) clock seen clock)/\Fx es.toList clock/\
   (∀(C:Ae)(w':World),Ab C w' ks Mu.none (es.toList.map MapEntry.key)/\Ab C w' vs Mu.none (es.toList.map MapEntry.val))/\
   seen.toList=d.map (HJ es)/\(∀i∈d,i<es.size)/\d.Nodup)
def yU(ks vs:List AV)(r:Nat)(d:List Nat):Inv where
 J:=ItJ ks vs r d
 Ta:=λSw Sr w w' ⟨h0,h⟩ hs=>⟨h0,h.imp (λ⟨h1,h2,h3,h4⟩=>⟨h1,h2,h3,(hs.block r h0.2).trans h4⟩) λ⟨m,es,clock,seen,h1,h2,h3,h4⟩=>⟨m,es,clock,seen,h1,(hs.block m h1).trans h2,(hs.block r h0.2).trans h3,h4⟩⟩
 Cb:=λ_ _=>True
 nb:=0
theorem iY{es:Array MapEntry}(hn:(es.toList.map (·.born)).Nodup){i j:Nat}(hi:i<es.size)(hj:j<es.size)(h:HJ es i=HJ es j):i=j:=by
 unfold HJ at h;rw[JV hi,JV hj]at h;simp only at h;have h1:(es.toList.map (·.born))[i]'(by simpa using hi)=(es.toList.map (·.born))[j]'(by simpa using hj):=by simpa using h
 rcases Nat.lt_trichotomy i j with PB|PB|PB;·exact absurd h1 (VA.1 hn i j _ _ PB)
 ·exact PB
 ·exact absurd h1.symm (VA.1 hn j i _ _ PB)
theorem ZO{es:Array MapEntry}{clock:Nat}(hb:Fx es.toList clock){seen:Array Nat}{d:List Nat}(hs:seen.toList=d.map (HJ es))(hd:∀i∈d,i<es.size)(i:Nat)(hi:i<es.size):es[i]∈(leftOf es seen).toList↔i∉d:=by
 have hm:seen.contains es[i].born=true↔i∈d:=by
  rw[Array.contains_iff_mem,<-Array.mem_toList_iff,hs,KG];have hbi:HJ es i=es[i].born:=by unfold HJ;rw[JV hi]
  constructor
  ·rintro⟨j,hj,e⟩;rw[<-hbi]at e;rw[<-iY hb.2 (hd j hj) hi e];exact hj
  ·intro h;exact⟨i,h,hbi⟩
 unfold leftOf;simp only[Xaf,Xar,Array.getElem_mem_toList,true_and];rw[O0,<-Bool.not_eq_true,hm]
section
variable {G:Cx}{C:Ae}{w w':World}{mu:Mu}{H:List HO}{E:List AV}{a:Act}{T:List TY}{P:Program}
theorem Az.OV(h:Az G C mu E H a w){I:Inv}(Bh:H[0]?=some (.inv I))(hCb:I.Cb=tZ.Cb)(yI:I.nb=tZ.nb):Az G C mu E (H.set 0 (.inv tZ)) a w:=by
 obtain⟨Sw,Sr,hf,hJ,key⟩:=h.Tx Bh;exact key tZ w Sw Sr hCb.symm yI.symm ⟨rfl,rfl,rfl,Ql _,λ_ _=>rfl⟩ (λ_ h=>.inl h) (λ_ h=>.inl (.inl h)) hf.sub hf.lt trivial
theorem Aa.OV{ks vs:List AV}{r:Nat}{d:List Nat}{c:Code}{K:KK}{X:XX}(Bh:H[0]?=some (.inv (yU ks vs r d)))(h:Aa P c E (H.set 0 (.inv tZ)) K X):Aa P c E H K X:=
 ⟨λn G a w hP ⟨C,mu,Af⟩=>h.out n G a w hP ⟨C,mu,Af.OV Bh rfl rfl⟩⟩
def Ua(T:List TY)(E:List AV)(H:List HO)(o:Op)(K:AV->KK):Prop:=
 match o with
 |.range t x=>Cm T t λy=>match y.k with
  |.map _ _=>(match AM E x with
   |.mp ks vs=>(CJ ks=true/\CJ vs=true)/\H[0]?=some (.inv tZ)/\∀r,K (.raw (wrP r)) E (H.set 0 (.inv (yU ks vs r [])))
   |_=>False)
  |_=>False
 |_=>False
def XS(E:List AV)(H:List HO)(o:Op)(K:AV->KK):Prop:=
 match o with
 |.next it false=>∃ks vs r d,AM E it=.raw (wrP r)/\H[0]?=some (.inv (yU ks vs r d))/\(d.length=ks.length->K (.tuple [.lit false]) E H)/\
   ∀i k v,i∉d->ks[i]?=some k->vs[i]?=some v->K (.tuple [.lit true,k,v]) E (H.set 0 (.inv (yU ks vs r (d++[i]))))
 |_=>False
def Ub(E:List AV)(H:List HO)(o:Op)(K:AV->KK):Prop:=
 match o with
 |.entry it=>∃ks vs r d i k v,AM E it=.raw (wrP r)/\H[0]?=some (.inv (yU ks vs r (d++[i])))/\ks[i]?=some k/\vs[i]?=some v/\K (.tuple [k,v]) E H
 |_=>False
theorem fS(hT:BG G.P T)(h:Az G C mu E H a w){t:TypeId}{x:Operand}{K:AV->KK}(hk:Ua T E H (.range t x) K):GM G a w K (Instr.range t (a.eval x)):=by
 unfold Ua at hk;simp only at hk;replace hk:=AL.1 hk;obtain⟨y,hy,hk⟩:=hk
 split at hk;case h_2=>exact hk.elim
 rename_i kt vt XU;have hu:=hT.map hy XU;have hx:=AX h.env x;split at hk;case h_2=>exact hk.elim
 rename_i ks vs pC;obtain⟨⟨cG,hmv⟩,Bh,hk⟩:=hk;rw[pC]at hx;unfold Ah at hx;obtain⟨Sw,Sr,hf,hJ,key⟩:=h.Tx Bh;rcases hx with⟨h1,rfl,rfl⟩|⟨m,es,clock,h1,h2,h3,h4,h5,h6⟩
 ·refine⟨_,_,_,_,_,_,_,hk w.heap.size,by rw[h1];exact run_range_nilMap w t _ _ hu,key (yU [] [] w.heap.size []) (w.alloc (.mapIter none 0 #[] 0)) (λk=>k=w.heap.size) (λk=>k=w.heap.size) rfl rfl
   ⟨rfl,rfl,rfl,by simp,λk hk=>heap_alloc_old w _ hk.1⟩ (λk hk=>.inr (by omega)) (λk hk=>.inl (.inr (by omega))) (λ_ h=>h) (λk hk=>by subst hk;simp)
   ⟨⟨rfl,rfl⟩,.inl ⟨rfl,rfl,rfl,heap_alloc_new w _⟩⟩,by unfold Ah;rfl⟩
 ·have Zjx:=h.lt m 0 h2
  refine⟨_,_,_,_,_,_,_,hk w.heap.size,by rw[h1];exact run_range_map w t _ _ m es clock hu h3,key (yU ks vs w.heap.size []) (w.alloc (.mapIter (some m) clock #[] clock)) (λk=>k=w.heap.size) (λk=>k=w.heap.size\/k=m) rfl rfl
   ⟨rfl,rfl,rfl,by simp,λk hk=>heap_alloc_old w _ hk.1⟩ (λk hk=>.inr (by omega)) (λk hk=>hk.elim (λe=>.inl (.inr (by omega))) λe=>.inr ⟨0,by rw[e];exact h2⟩) (λ_ h=>.inl h) (λk hk=>by rcases hk with rfl|rfl<;>simp<;>omega)
   ⟨⟨rfl,.inl rfl⟩,.inr ⟨m,es,clock,#[],.inr rfl,by rw[heap_alloc_old w _ Zjx];exact h3,heap_alloc_new w _,h6,λC' w'=>⟨Ck _ cG h4,Ck _ hmv h5⟩,rfl,λi hi=>(by cases hi),Pl⟩⟩,by unfold Ah;rfl⟩
theorem JF{C:Ae}{w:World}{mu:Mu}{xs:List AV}{us:List Value}(h:Ab C w xs mu us){i:Nat}{x:AV}{u:Value}(hx:xs[i]?=some x)(hu:us[i]?=some u):Ah C w x mu u:=by
 obtain⟨hi,rfl⟩:=Ak.1 hx;obtain⟨hj,rfl⟩:=Ak.1 hu;exact((AH _).1 h).2 i hi hj
theorem oR(h:Az G C mu E H a w){it:Operand}{ty:TypeId}{K:AV->KK}(hk:XS E H (.next it false) K):GM G a w K (Instr.next (a.eval it) false ty):=by
 unfold XS at hk;simp only at hk;obtain⟨ks,vs,r,d,pC,Bh,vP,lH⟩:=hk;have hx:=AX h.env it;rw[pC]at hx;unfold Ah at hx;obtain⟨Sw,Sr,hf,hJ,key⟩:=h.Tx Bh;obtain⟨⟨j1,j2⟩,hJ⟩:ItJ ks vs r d Sw Sr w:=hJ;rw[hx]
 have Zls:H.set 0 (.inv (yU ks vs r d))=H:=by
  obtain⟨h0,e⟩:=Ak.1 Bh;apply VD;intro i;by_cases hi:0=i;·subst hi;rw[E4 h0,Bh]
  ·rw[C4 hi]
 rcases hJ with⟨rfl,rfl,rfl,hr⟩|⟨m,es,clock,seen,j3,j4,j5,j6,j7,j8,j9,j10⟩
 ·refine⟨_,.tuple #[.bool false],_,_,C,mu,w,vP rfl,?_,h,by unfold Ah;exact⟨[.bool false],rfl,by unfold Ab;exact⟨_,_,rfl,GV,by unfold Ab;rfl⟩⟩⟩
  simp only[wrP,Instr.next,getObj,I0,Sem.run,hr,Result.andThen];rfl
 ·have NU:ks.length=es.size:=by have:=Ap _ (j7 C w).1;simpa using this.symm
  have XW:vs.length=es.size:=by have:=Ap _ (j7 C w).2;simpa using this.symm
  rcases run_next_at (P:=G.P) w ty r m clock clock seen es clock j5 j4 (λx hx=>j6.1 x hx) (Ql _)with⟨h0,A0⟩|⟨e,he,w1,A7,A0⟩
  ·have BW:∀i,i<es.size->i∈d:=λi hi=>by
    by_cases hid:i∈d;·exact hid
    ·have:=(ZO j6 j8 j9 i hi).2 hid;have h0':(leftOf es seen).toList=[]:=NF (by simpa using h0)
     rw[h0']at this;cases this
   have SE:d.length=es.size:=by
    have h1:d.length<=es.size:=by
     have:=List.Nodup.length_le_of_subset j10 (l₂:=Xaa es.size) λi hi=>Rn.2 (j9 i hi)
     simpa using this
    have h2:es.size<=d.length:=by
     have:=List.Nodup.length_le_of_subset (List.nodup_range (n:=es.size)) (l₂:=d) λi hi=>BW i (Rn.1 hi)
     simpa using this
    omega
   exact⟨_,_,_,_,C,mu,w,vP (by omega),A0,h,by unfold Ah;exact⟨[.bool false],rfl,by unfold Ab;exact⟨_,_,rfl,GV,by unfold Ab;rfl⟩⟩⟩
  ·have hem:e∈es.toList:=by
    unfold leftOf at he;simp only[Xaf,Xar]at he;exact he.1
   obtain⟨i,hi,hie⟩:=Ul.1 hem;have Fk:i<es.size:=by simpa using hi
   have ZgM:es[i]=e:=by simpa using hie
   have hid:i∉d:=(ZO j6 j8 j9 i Fk).1 (by rw[ZgM];exact he)
   have hki:ks[i]?=some ks[i]:=CM (by omega)
   have U9:vs[i]?=some vs[i]:=CM (by omega)
   have hmr:m≠r:=λe=>by rw[e]at j4;rw[j4]at j5;cases j5
   have PC:∀b:Nat,w1.heap[b]?=w.heap[b]?:=λb=>by rcases A7 with h|h<;>rw[h]<;>rfl
   have hs1:w1.heap.size=w.heap.size:=by rcases A7 with h|h<;>rw[h]<;>rfl
   have Zji:r<w.heap.size:=hf.lt r j2
   have gA:(setBlock w1 r (.mapIter (some m) clock (seen.push e.born) clock)).heap[r]?=some (.mapIter (some m) clock (seen.push e.born) clock):=by
    simp[setBlock,hs1,Zji]
   have VB:∀b,b≠r->(setBlock w1 r (.mapIter (some m) clock (seen.push e.born) clock)).heap[b]?=w.heap[b]?:=λb hb=>by
    rw[<-PC b];simp only[setBlock];rw[Array.getElem?_setIfInBounds_ne (Ne.symm hb)]
   have EI:(setBlock w1 r (.mapIter (some m) clock (seen.push e.born) clock)).heap.size=w.heap.size:=by simp[setBlock,hs1]
   refine⟨_,_,_,_,C,mu,_,lH i ks[i] vs[i] hid hki U9,A0,key (yU ks vs r (d++[i])) _ Sw Sr rfl rfl
    ⟨by rcases A7 with rfl|rfl<;>rfl,by rcases A7 with rfl|rfl<;>rfl,by rcases A7 with rfl|rfl<;>rfl,Nat.le_of_eq EI.symm,λb hb=>VB b λe=>hb.2 (by rw[e];exact j1)⟩
    (λ_ h=>.inl h) (λ_ h=>.inl (.inl h)) hf.sub (λb hb=>by rw[EI];exact hf.lt b hb)
    ⟨⟨j1,j2⟩,.inr ⟨m,es,clock,seen.push e.born,j3,by rw[VB m hmr];exact j4,gA,j6,j7,?_,?_,?_⟩⟩,?_⟩
   ·rw[QJ,j8,H4];have:HJ es i=e.born:=by unfold HJ;rw[JV Fk,ZgM]
    simp[this]
   ·intro q hq;rcases It.1 hq with hq|hq;·exact j9 q hq
    ·rw[Xak.1 hq];exact Fk
   ·exact Qx.2 ⟨j10,by simp,λx hx y hy=>by rw[Xak.1 hy];exact λe=>hid (e▸hx)⟩
   ·unfold Ah;refine⟨[.bool true,e.key,e.val],rfl,?_⟩;have r1:Ah C (setBlock w1 r (.mapIter (some m) clock (seen.push e.born) clock)) ks[i] Mu.none e.key:=JF (j7 C _).1 hki (by rw[II,CM hi,hie];rfl)
    have r2:Ah C (setBlock w1 r (.mapIter (some m) clock (seen.push e.born) clock)) vs[i] Mu.none e.val:=JF (j7 C _).2 U9 (by rw[II,CM hi,hie];rfl)
    unfold Ab;refine⟨_,_,rfl,GV,?_⟩;unfold Ab;refine⟨_,_,rfl,Ah.mono (Ext.refl _ _) _ (AI.none mu) r1,?_⟩;unfold Ab;refine⟨_,_,rfl,Ah.mono (Ext.refl _ _) _ (AI.none mu) r2,?_⟩;unfold Ab;rfl
theorem fT(h:Az G C mu E H a w){it:Operand}{K:AV->KK}(hk:Ub E H (.entry it) K):GM G a w K (Instr.entry (a.eval it)):=by
 unfold Ub at hk;simp only at hk;obtain⟨ks,vs,r,d,i,k,v,pC,Bh,hki,U9,hk⟩:=hk;have hx:=AX h.env it;rw[pC]at hx;unfold Ah at hx;obtain⟨Sw,Sr,hf,hJ,key⟩:=h.Tx Bh;obtain⟨⟨j1,j2⟩,hJ⟩:ItJ ks vs r (d++[i]) Sw Sr w:=hJ;rw[hx];rcases hJ with⟨_,_,hd,_⟩|⟨m,es,clock,seen,j3,j4,j5,j6,j7,j8,j9,j10⟩;·simp at hd
 ·have hi:i<es.size:=j9 i (by simp)
  have Yu:seen=(seen.pop).push es[i].born:=by
   apply Array.toList_inj.1;rw[QJ,Array.toList_pop,j8,H4];have:HJ es i=es[i].born:=by unfold HJ;rw[JV hi]
   simp[this]
  rw[Yu]at j5;refine⟨_,_,_,_,C,mu,w,hk,run_entry_at (P:=G.P) w r m clock seen.pop es clock es[i] j5 j4 (by simp) j6.2,h,?_⟩
  unfold Ah;refine⟨[es[i].key,es[i].val],rfl,?_⟩;have Sg:i<es.toList.length:=by simpa using hi
  have r1:Ah C w k Mu.none es[i].key:=JF (j7 C w).1 hki (by rw[II,CM Sg];simp)
  have r2:Ah C w v Mu.none es[i].val:=JF (j7 C w).2 U9 (by rw[II,CM Sg];simp)
  unfold Ab;refine⟨_,_,rfl,Ah.mono (Ext.refl _ _) _ (AI.none mu) r1,?_⟩;unfold Ab;refine⟨_,_,rfl,Ah.mono (Ext.refl _ _) _ (AI.none mu) r2,?_⟩;unfold Ab;rfl
end
open Go.MapKept (modify_keys)
structure mJ(P:Program)(kt:TypeId)(pk:AV->Prop):Prop where
 law:Go.Maps.Keyed P kt
 free:∀a,pk a->BN a=true
 reads:∀(C:Ae)(w:World)(mu:Mu)(a:AV)(v:Value),pk a->Ah C w a mu v->∃l,keyOf P kt v=some l
 inj:∀(C:Ae)(w:World)(a b:AV)(v:Value),pk a->pk b->Ah C w a Mu.none v->Ah C w b Mu.none v->a=b
 det:∀(C:Ae)(w:World)(a:AV)(u v:Value),pk a->Ah C w a Mu.none u->Ah C w a Mu.none v->u=v
section
variable {G:Cx}{C:Ae}{w w':World}{mu:Mu}{H:List HO}{E:List AV}{a:Act}{T:List TY}{P:Program}
theorem aY{kt:TypeId}{pk:AV->Prop}(K:mJ P kt pk){k:AV}{kv:Value}(hk:pk k)(hr:Ah C w k mu kv){ks:List AV}{es:List MapEntry}(hks:∀a∈ks,pk a)(hn:ks.Nodup)(hR:Ab C w ks Mu.none (es.map MapEntry.key)):
  ((Instr.findKey kt kv es).run P w=.ok none w/\k∉ks)\/∃j e,(Instr.findKey kt kv es).run P w=.ok (some (j,e.val)) w/\es[j]?=some e/\e.key=kv/\ks[j]?=some k:=by
 have hkn:=Bb (C':=C) (w':=w) (mu':=Mu.none) _ (K.free k hk) hr;obtain⟨l,hl⟩:=K.reads C w Mu.none k kv hk hkn;have hlen:es.length=ks.length:=by have:=Ap _ hR;simpa using this
 have ZjJ:∀e∈es,∃l,keyOf P kt e.key=some l:=λe he=>by
  obtain⟨i,hi,rfl⟩:=Ul.1 he;have Sg:i<ks.length:=by omega
  exact K.reads C w Mu.none ks[i] _ (hks _ (Jg Sg)) (JF hR (CM Sg) (by rw[II,CM hi];rfl))
 have ZfI:∀(j:Nat)(e:MapEntry),es[j]?=some e->∃x,ks[j]?=some x/\pk x/\Ah C w x Mu.none e.key:=λj e he=>by
  have hj:=(Ak.1 he).1;have gH:j<ks.length:=by omega
  exact⟨ks[j],CM gH,hks _ (Jg gH),JF hR (CM gH) (by rw[II,he];rfl)⟩
 rcases K.law.find w hl es ZjJ with⟨h1,h2⟩|⟨j,e,h1,h2,h3⟩
 ·refine .inl ⟨h1,λhm=>?_⟩
  obtain⟨i,hi,e⟩:=Ul.1 hm;have Sg:i<es.length:=by omega
  obtain⟨x,q1,q2,q3⟩:=ZfI i es[i] (CM Sg);rw[CM hi]at q1;simp only[E8.injEq]at q1;rw[<-q1,e]at q3;exact h2 es[i] (Jg Sg) (K.det C w k _ _ hk q3 hkn)
 ·obtain⟨x,q1,q2,q3⟩:=ZfI j e h2;rw[h3]at q3;exact .inr ⟨j,e,h1,h2,h3,by rw[q1,K.inj C w x k kv q2 hk q3 hkn]⟩
def Xh(P:Program)(T:List TY)(E:List AV)(H:List HO)(o:Op)(K:AV->KK):Prop:=
 match o with
 |.lookup t x k ok=>Cm T t λy=>match y.k with
  |.map kt vt=>∃pk,mJ P kt pk/\pk (AM E k)/\Nx H (AM E x) λks vs=>((∀a∈ks,pk a)/\ks.Nodup)/\
    ((AM E k∉ks->Iz T vt λz=>(match ok with|true=>K (.tuple [z,.lit false]) E H|false=>z.force λz=>K z E H))/\
     ∀(j:Nat)(v:AV),ks[j]?=some (AM E k)->vs[j]?=some v->(match ok with|true=>K (.tuple [v,.lit true]) E H|false=>K v E H))
  |_=>False
 |_=>False
def dI(P:Program)(T:List TY)(E:List AV)(H:List HO)(o:Op)(K:AV->KK):Prop:=
 match o with
 |.mapUpdate t m k x=>Cm T t λy=>match y.k with
  |.map kt _=>∃pk,mJ P kt pk/\(pk (AM E k)/\BN (AM E x)=true)/\(match AM E m with
   |.om l=>Cm H l λob=>(match ob with
    |.map ks vs=>((∀a∈ks,pk a)/\ks.Nodup)/\
      ((AM E k∉ks->K (.raw undef) E (H.set l (.map (ks++[AM E k]) (vs++[AM E x]))))/\∀j:Nat,ks[j]?=some (AM E k)->K (.raw undef) E (H.set l (.map ks (vs.set j (AM E x)))))
    |_=>False)
   |_=>False)
  |_=>False
 |_=>False
theorem nD(hT:BG G.P T)(h:Az G C mu E H a w){t:TypeId}{x k:Operand}{ok:Bool}{K:AV->KK}(hk:Xh G.P T E H (.lookup t x k ok) K):GM G a w K (Instr.lookup t (a.eval x) (a.eval k) ok):=by
 unfold Xh at hk;simp only at hk;replace hk:=AL.1 hk;obtain⟨y,hy,hk⟩:=hk
 split at hk;case h_2=>exact hk.elim
 rename_i kt vt XU;have hu:=hT.map hy XU;obtain⟨pk,KT,Z9,hk⟩:=hk;have hx:=AX h.env x;have yO:=AX h.env k;obtain⟨ks,vs,es,⟨⟨hks,Qp⟩,Pz,ZiV⟩,hR,hV,cI⟩:=ZI h.heap hx hk;have hkn:=Bb (C':=C) (w':=w) (mu':=Mu.none) _ (KT.free _ Z9) yO;obtain⟨l,hl⟩:=KT.reads C w Mu.none _ _ Z9 hkn;have vX:(Instr.checkKey es.isEmpty 10000 kt (a.eval k)).run G.P w=.ok () w:=KT.law.check w es.isEmpty hl
 have A0:(Instr.lookup t (a.eval x) (a.eval k) ok).run G.P w=((do
   let (v,ok') <-match <-Instr.findKey kt (a.eval k) es.toList with
    |some (_,v)=>pure (v,true)
    |none=>pure (<-zeroValue vt,false)
   pure (if ok then Value.tuple #[v,.bool ok']else v):Sem Value)).run G.P w:=by
  rcases cI with⟨e1,rfl⟩|⟨b,clock,e1,hb⟩
  ·rw[e1];simp only[Instr.lookup,I0,run_underlying hu,G2,Rr];rw[vX];rfl
  ·rw[e1];simp only[Instr.lookup,I0,run_underlying hu,G2,Go.MapKept.run_getObj_map hb,Rr];rw[vX];rfl
 have XW:es.toList.length=vs.length:=by have:=Ap _ hV;simpa using this
 rcases aY KT Z9 yO hks Qp hR with⟨hf,hnm⟩|⟨j,e,hf,he,pA,hkj⟩
 ·obtain⟨r,z,q1,q2,q3⟩:=YD (C:=C) (w:=w) (mu:=mu) hT (Pz hnm);cases ok with
  |true=>exact⟨_,.tuple #[z,.bool false],_,_,C,mu,w,q1,by rw[A0];simp[hf,q3],h,by unfold Ah;exact⟨[z,.bool false],rfl,by unfold Ab;exact⟨_,_,rfl,q2,by unfold Ab;exact⟨_,_,rfl,GV,by unfold Ab;rfl⟩⟩⟩⟩
  |false=>exact⟨_,z,_,_,C,mu,w,(AV.AJ _ _).1 q1,by rw[A0];simp[hf,q3],h,q2⟩
 ·have Va:j<es.toList.length:=(Ak.1 he).1;have hvj:vs[j]?=some vs[j]:=CM (by omega)
  have q1:=ZiV j vs[j] hkj hvj;have q2:Ah C w vs[j] Mu.none e.val:=JF hV hvj (by rw[II,he];rfl)
  have q2:=Ah.mono (Ext.refl _ _) _ (AI.none mu) q2;cases ok with
  |true=>exact⟨_,.tuple #[e.val,.bool true],_,_,C,mu,w,q1,by rw[A0];simp[hf],h,by unfold Ah;exact⟨[e.val,.bool true],rfl,by unfold Ab;exact⟨_,_,rfl,q2,by unfold Ab;exact⟨_,_,rfl,GV,by unfold Ab;rfl⟩⟩⟩⟩
  |false=>exact⟨_,e.val,_,_,C,mu,w,q1,by rw[A0];simp[hf],h,q2⟩
theorem sK(hT:BG G.P T)(h:Az G C mu E H a w){t:TypeId}{m k x:Operand}{K:AV->KK}(hk:dI G.P T E H (.mapUpdate t m k x) K):
  ∃E' H' C' mu' w',K (.raw undef) E' H'/\(Instr.mapUpdate t (a.eval m) (a.eval k) (a.eval x)).run G.P w=.ok () w'/\Az G C' mu' E' H' a w':=by
 unfold dI at hk;simp only at hk;replace hk:=AL.1 hk;obtain⟨y,hy,hk⟩:=hk
 split at hk;case h_2=>exact hk.elim
 rename_i kt vt XU;have hu:=hT.map hy XU;obtain⟨pk,KT,⟨Z9,NT⟩,hk⟩:=hk;have hm:=AX h.env m;have yO:=AX h.env k;have Vx:=AX h.env x;split at hk;case h_2=>exact hk.elim
 rename_i l hme;rw[hme]at hm;replace hk:=AL.1 hk;obtain⟨ob,Bh,hk⟩:=hk
 cases ob<;>first|exact hk.elim|skip
 rename_i ks vs;simp only at hk;obtain⟨⟨hks,Qp⟩,vP,lH⟩:=hk;obtain⟨b,es,clock,h1,h2,h3⟩:=h.heap.maps l ks vs Bh;unfold Ah at hm;obtain⟨b',h4,h5⟩:=hm;rw[h1]at h4;simp only[E8.injEq,GO.CS.injEq]at h4;subst h4;have hkm:=KT.free _ Z9;have hkn:=Bb (C':=C) (w':=w) (mu':=Mu.none) _ hkm yO;obtain⟨lit,hl⟩:=KT.reads C w Mu.none _ _ Z9 hkn;have vX:(Instr.checkKey false 10000 kt (a.eval k)).run G.P w=.ok () w:=KT.law.check w false hl;rcases aY KT Z9 yO hks Qp (h3.2 C w).1 with⟨hf,hnm⟩|⟨j,e,hf,he,pA,hkj⟩
 ·refine⟨_,_,C,mu,w.putObj b (.map (es.push {key:=a.eval k,val:=a.eval x,born:=clock}) (clock+1)),vP hnm,?_,h.Tt h1 h2 Bh ?_⟩
  ·simp only[Instr.mapUpdate,I0,run_underlying hu,G2,h5,Go.MapKept.run_getObj_map h2,vX,hf];exact Go.MapKept.run_setObj_map _ h2
  ·refine⟨by rw[QJ];exact h3.1.push _ _,λC' w'=>?_⟩
   simp only[QJ,H4,Ky,List.map_nil]
   exact⟨AF (h3.2 C' w').1 (by unfold Ab;exact⟨_,_,rfl,Bb _ hkm yO,by unfold Ab;rfl⟩),
    AF (h3.2 C' w').2 (by unfold Ab;exact⟨_,_,rfl,Bb _ NT Vx,by unfold Ab;rfl⟩)⟩
 ·have g1':es[j]?=some e:=by simpa using he
  refine⟨_,_,C,mu,w.putObj b (.map (es.modify j λe=>{e with key:=a.eval k,val:=a.eval x}) clock),lH j hkj,?_,h.Tt h1 h2 Bh ?_⟩
  ·simp only[Instr.mapUpdate,I0,run_underlying hu,G2,h5,Go.MapKept.run_getObj_map h2,vX,hf,g1',Qs,Option.getD_some,pA,KT.law.stays w hl];exact Go.MapKept.run_setObj_map _ h2
  ·refine⟨h3.1.of_map ?_,λC' w'=>?_⟩
   ·apply VD;intro i;simp only[II,Hs,Sf];by_cases PB:j=i;·subst PB;rw[g1'];simp
    ·simp[PB]
   have e1:(es.modify j λe=>{e with key:=a.eval k,val:=a.eval x}).toList.map MapEntry.key=es.toList.map MapEntry.key:=modify_keys j _ (λe' vU=>by
    rw[g1']at vU;simp only[E8.injEq]at vU;subst vU;exact pA.symm)
   have e2:(es.modify j λe=>{e with key:=a.eval k,val:=a.eval x}).toList.map MapEntry.val=(es.toList.map MapEntry.val).set j (a.eval x):=by
    apply VD;intro i;simp only[II,Hs,Sf,List.getElem?_set,Fl,Nw];by_cases PB:j=i
    ·subst PB;have AP:j<es.size:=by have:=(Ak.1 he).1;simpa using this
     simp[g1',AP]
    ·simp[PB]
   rw[e1,e2];exact⟨(h3.2 C' w').1,Zg (h3.2 C' w').2 (Bb _ NT Vx) j⟩
def Y1(T:List TY)(E:List AV)(H:List HO)(o:Op)(K:AV->KK):Prop:=
 match o with
 |.call c=>(match c.callee with
  |.builtin .clear=>(match c.args.toList,c.argTypes.toList with
   |[x],[t]=>Cm T t λy=>(match y.k with
    |.map _ _=>(match AM E x with
     |.om l=>Cm H l λob=>(match ob with|.map _ _=>K (.tuple []) E (H.set l (.map [] []))|_=>False)
     |_=>False)
    |_=>False)
   |_,_=>False)
  |_=>False)
 |_=>False
theorem dJ(hT:BG G.P T)(h:Az G C mu E H a w){t ty:TypeId}{x:Operand}{y:TY}{kt vt:Nat}(hy:T[t]?=some y)(XU:y.k=.map kt vt){l:Nat}(hx:AM E x=.om l){ks vs:List AV}(Bh:H[l]?=some (.map ks vs)){K:AV->KK}(hk:K (.tuple []) E (H.set l (.map [] []))):
  GM G a w K (Xat #[t] ty #[a.eval x]):=by
 have hu:=hT.map hy XU;have hm:=AX h.env x;rw[hx]at hm;obtain⟨b,es,clock,h1,h2,h3⟩:=h.heap.maps l ks vs Bh;unfold Ah at hm;obtain⟨b',h4,h5⟩:=hm;rw[h1]at h4;simp only[E8.injEq,GO.CS.injEq]at h4;subst h4;refine⟨_,.tuple #[],_,_,C,mu,w.putObj b (.map #[] clock),hk,?_,h.Tt h1 h2 Bh ⟨Fx.nil _,λC' w'=>⟨by unfold Ab;rfl,by unfold Ab;rfl⟩⟩,by unfold Ah;exact⟨[],rfl,by unfold Ab;rfl⟩⟩
 have gA:=Go.MapKept.run_setObj_map (P:=G.P) (Obj.map #[] clock) h2;simp only[Xat,h5,I0,run_underlying hu,G2,Go.MapKept.run_getObj_map h2];simp[I0,run_underlying hu,Go.MapKept.run_getObj_map h2,gA,World.putObj];try rfl
end
def Zar(n:Nat):List Nat->Bool
 |[]=>false
 |m::l=>bif Qt n m then true else Zar n l
section
variable {G:Cx}{C:Ae}{w w':World}{mu:Mu}{H:List HO}{E:List AV}{a:Act}{T:List TY}{P:Program}{K:KK}{X:XX}
def spK(P:Program)(T:List TY)(E:List AV)(H:List HO)(o:Op)(K:AV->KK):Prop:=
 match o with
 |.range t x=>Ua T E H (.range t x) K
 |.next x b=>XS E H (.next x b) K
 |.entry x=>Ub E H (.entry x) K
 |.lookup t x k ok=>Xh P T E H (.lookup t x k ok) K
 |.mapUpdate t m k x=>dI P T E H (.mapUpdate t m k x) K
 |.call c=>Y1 T E H (.call c) K
 |_=>False
theorem dG(hT:BG G.P T){o:Oper}{K:AV->KK}{Kn:KK}{r:Option Nat}{n:Nat}(h:spK G.P T E H o.op K)(Af:Az G C mu E H a w){next:Act->World->Prop}(hn:∀a w,IQ G o K a w->next a w):
  o.wpIn (fw r) n G.P a w next (Mg G Kn X):=by
 unfold spK at h;cases ho:o.op<;>rw[ho]at h<;>first|exact h.elim|skip
 case lookup t x k ok=>
  obtain⟨r,v,E',H',C',mu',w',k1,k2,k3,k4⟩:=nD hT Af h;exact Bz (λc hc=>by rw[ho]at hc;cases hc) (AK (X:=X) (Q:=Kn) hn k1 (AZ (by simp[execOp,ho]) k2) k3 k4)
 case mapUpdate t m k x=>
  obtain⟨E',H',C',mu',w',h1,h2,h3⟩:=sK hT Af h;refine Bz (λc hc=>by rw[ho]at hc;cases hc) ?_
  unfold Oper.wp;have:(execOp a.eval o).run G.P w=.ok .skip w':=by simp[execOp,ho,h2]
  rw[this];exact hn _ _ ⟨_,E',H',h1,C',mu',h3.frame (Bf h3.env o.dst (by unfold Ah;rfl)) (put_defers _ _ _)⟩
 case range t x=>
  obtain⟨r,v,E',H',C',mu',w',k1,k2,k3,k4⟩:=fS hT Af h;exact Bz (λc hc=>by rw[ho]at hc;cases hc) (AK (X:=X) (Q:=Kn) hn k1 (AZ (by simp[execOp,ho]) k2) k3 k4)
 case next x b=>
  cases b with
  |true=>exact h.elim
  |false=>
   obtain⟨r,v,E',H',C',mu',w',k1,k2,k3,k4⟩:=oR (ty:=o.type) Af h;exact Bz (λc hc=>by rw[ho]at hc;cases hc) (AK (X:=X) (Q:=Kn) hn k1 (AZ (by simp[execOp,ho]) k2) k3 k4)
 case entry x=>
  obtain⟨r,v,E',H',C',mu',w',k1,k2,k3,k4⟩:=fT Af h;exact Bz (λc hc=>by rw[ho]at hc;cases hc) (AK (X:=X) (Q:=Kn) hn k1 (AZ (by simp[execOp,ho]) k2) k3 k4)
 case call c=>
  simp only at h;unfold Y1 at h;simp only at h;split at h;case h_2=>exact h.elim
  rename_i hc;split at h;case h_2=>exact h.elim
  rename_i x t h1 h2;obtain⟨cK,args,Jt⟩:=c;simp only at hc h1 h2;subst hc;obtain rfl:args=#[x]:=by cases args;simp_all
  obtain rfl:Jt=#[t]:=by cases Jt;simp_all
  replace h:=AL.1 h;obtain⟨y,hy,h⟩:=h
  split at h;case h_2=>exact h.elim
  rename_i kt vt XU;split at h;case h_2=>exact h.elim
  rename_i l hl;replace h:=AL.1 h;obtain⟨ob,Bh,h⟩:=h
  cases ob<;>first|exact h.elim|skip
  rename_i ks vs;obtain⟨r,v,E',H',C',mu',w',k1,k2,k3,k4⟩:=dJ (ty:=o.type) hT Af hy XU hl Bh h;exact Bz (λc hc=>by rw[ho]at hc;cases hc) (AK (X:=X) (Q:=Kn) hn k1 (by simp[execOp,ho,resolve,invoke,builtin,k2]) k3 k4)
def Wi(P:Program)(T:List TY)(ops:List Oper)(sp:List Nat):Nat->List Oper->List AV->List HO->KK->XX->Prop
 |_,[],E,H,K,_=>K E H
 |n,o::r,E,H,K,X=>gdK ops E o.guard
   (λE=>match Zar n sp with
    |true=>spK P T E H o.op (λv E' H'=>Bu E' o.dst v λHU=>Wi P T ops sp (n+1) r HU H' K X)
    |false=>Ty none P T E H o.op (λv E' H'=>Bu E' o.dst v λHU=>Wi P T ops sp (n+1) r HU H' K X) X)
   (λE=>Bu E o.dst (.raw undef) λE'=>Wi P T ops sp (n+1) r E' H K X)
theorem JG(hT:BG G.P T){r:Option Nat}{n:Nat}{ops:Array Oper}{sp:List Nat}{K:KK}{X:XX}:∀(l:List Oper)(k:Nat){C:Ae}{mu:Mu}{E:List AV}{H:List HO}{a:Act}{w:World},Wi G.P T ops.toList sp k l E H K X->Az G C mu E H a w->wpListIn (fw r) n G.P ops (Mg G K X) l a w
 |[],k,_,_,_,_,_,_,h,Af=>⟨_,_,h,_,_,Af⟩
 |o::l,k,C,mu,E,H,a,w,h,Af=>by
  unfold Wi at h;unfold wpListIn;rcases HE rfl Af h with⟨hw,E',h1,h2⟩|⟨hw,E',h1,h2⟩
  ·rw[if_pos hw];split at h1
   ·refine dG hT h1 h2 λa' w' hp=>?_
    obtain⟨x,HU,H',h3,C',mu',h4⟩:=hp;rw[Au]at h3;exact JG hT l (k+1) h3 h4
   ·refine DV hT h1 h2 λa' w' hp=>?_
    obtain⟨x,HU,H',h3,C',mu',h4⟩:=hp;rw[Au]at h3;exact JG hT l (k+1) h3 h4
  ·rw[if_neg (by simp[hw])]
   rw[Au]at h1;exact⟨λ_ _=>trivial,JG hT l (k+1) h1 (h2.frame (Bf h2.env o.dst (by unfold Ah;rfl)) (put_defers _ _ _))⟩
theorem Aa.FP(sp:List Nat)(hT:BG P T){id:Nat}{ops:Array Oper}(h:Wi P T ops.toList sp 0 ops.toList E H K X):Aa P (.region id ops false) E H K X:=
 ⟨λn G a w hP Af=>by
  obtain⟨C,mu,Af⟩:=Af
  subst hP
  exact wpIn_region_list (JG hT _ 0 h Af)⟩
end
section
variable {T:List TY}{P:Program}
theorem Aa.never{c:Code}{E:List AV}{H:List HO}{K:KK}{X:XX}{I:Inv}(Bh:H[0]?=some (.inv I))(Pz:∀Sw Sr w,¬I.J Sw Sr w):Aa P c E H K X:=
 ⟨λn G a w hP ⟨C,mu,Af⟩=>by
  obtain⟨ms,_,x⟩:=Af.defers
  obtain⟨_,Sw,Sr,_,hJ,_⟩:=x.Hz 0 I Bh
  exact absurd hJ (Pz Sw Sr w)⟩
end
section
variable {G:Cx}{C C':Ae}{w w':World}{mu:Mu}{H:List HO}{E:List AV}{a:Act}{T:List TY}{P:Program}
def cL(l:Nat)(o:HO):List HO:=Li l HO.dead++[o]
theorem Md{l i:Nat}{o ob:HO}(h:(cL l o)[i]?=some ob):(i<l/\ob=.dead)\/(i=l/\ob=o):=by
 unfold cL at h;rw[SG]at h;split at h
 ·rename_i hi;rw[Yy]at hi;rw[Sk hi]at h;exact .inl ⟨hi,(E8.inj h).symm⟩
 ·rename_i hi;rw[Yy]at hi h
  have h2:i-l=0:=by
   have:=(Ak.1 h).1;simp at this;omega
  rw[h2]at h;exact .inr ⟨by omega,(E8.inj h).symm⟩
theorem xK(l:Nat)(o:HO):(cL l o)[l]?=some o:=by
 unfold cL;rw[U3 (by simp)]
 simp
theorem lP{F:List HO}{e:TypeId}{sz:Nat}{es:List AV}(hc:∀x∈es,closed x=true):∀(l:Nat){H:List HO},H[l]?=some (.arr e sz es)->Ew F (cL l (.arr e sz es)) H True
 |0,[],h=>by simp at h
 |0,o::H,h=>by
  simp only[ND,E8.injEq]at h;exact⟨h,hc,trivial⟩
 |l+1,[],h=>by simp at h
 |l+1,o::H,h=>by
  have:=lP (F:=F) hc l (H:=H) (by simpa using h)
  exact this
theorem LR{l:Nat}{e:TypeId}{sz:Nat}{es:List AV}(i:Nat):AR (cL l (.arr e sz es)) i=decide (i=l):=by
 rw[Bool.eq_iff_iff,Cw,decide_eq_true_eq];constructor
 ·rintro⟨ob,h1,h2⟩;rcases Md h1 with⟨_,rfl⟩|⟨h,_⟩;·cases h2
  ·exact h
 ·rintro rfl;exact⟨_,xK _ _,rfl⟩
theorem tC(l:Nat)(e:TypeId)(sz:Nat)(es:List AV):Cp (cL l (.arr e sz es))=true:=by
 induction l with
 |zero=>rfl
 |succ l ih=>exact ih
theorem Aj.fA{f:FuncId}{rest:List AV}{e:TypeId}{sz n:Nat}{es:List AV}{R:AV->List AV->Prop}{K:AV->KK}{X:XX}(l:Nat)(h:Ed P f (.own 0 sz 0 n::rest) e sz es R)(WH:An rest=true)(hl:H[l]?=some (.arr e sz es))(hc:∀x∈es,closed x=true)
  (hk:∀r Cg,R r Cg->Cg.length=es.length->closed r=true/\K r E (H.set l (.arr e sz Cg))):Aj P f (.own l sz 0 n::rest) E H K X:=by
 refine⟨h.Eh,λG C mu a w vs hP Af hr=>?_⟩
 have hh:=lP (F:=cL l (.arr e sz es)) hc l hl;obtain⟨k0,k⟩:=Af.heap.BM l e sz es hl
 obtain⟨x,NT⟩:∃x,mu l=some (.arr x):=by
  rcases k with⟨k1,_⟩|⟨b,cap,cur,k1,_⟩;·exact⟨_,k1⟩
  ·exact⟨_,k1⟩
 obtain⟨HQ,Zgy⟩:∃HQ:Mu,HQ=λi=>if i=0 then mu l else none:=⟨_,rfl⟩
 have e0:HQ 0=mu l:=by rw[Zgy];rfl
 have m1:∀{i g},HQ i=some g->i=0/\mu l=some g:=λ{i g} hi=>by
  rw[Zgy]at hi;by_cases h0:i=0;·subst h0;exact⟨rfl,hi⟩
  ·simp only[if_neg h0]at hi;cases hi
 have PC:Bc HQ=Mu.none:=by
  funext i
  unfold Bc;cases hi:HQ i with
  |none=>rfl
  |some g=>
   obtain⟨_,h2⟩:=m1 hi;rw[NT]at h2;injection h2 with h2
   subst h2;rfl
 obtain⟨cD,Zdt⟩:∃cD:Mu,cD=mu.only (cL l (.arr e sz es)):=⟨_,rfl⟩;have e2:cD l=mu l:=by rw[Zdt];exact Fa (by rw[LR];simp)
 have m2:∀{i g},cD i=some g->i=l/\mu l=some g:=λ{i g} hi=>by
  rw[Zdt]at hi;obtain⟨h1,h2⟩:=B8 hi;rw[LR,decide_eq_true_eq]at h1;subst h1;exact⟨rfl,h2⟩
 have Z7:AU C w (λ_=>True) HQ [.arr e sz es]:=by
  refine⟨λi g hi=>by have:=(m1 hi).1;subst this;simp,λi g b hi hg=>⟨trivial,(Af.heap.fresh l g b (m1 hi).2 hg).2⟩,λi g b i' g' hi hg Fk SD=>by rw[(m1 hi).1,(m1 Fk).1],λi hi=>?_,λi cs hi=>?_,λi e' BI Cg hi=>?_,λi ks vs hi=>?_⟩
  ·rcases i with _|i<;>simp at hi
  ·rcases i with _|i<;>simp at hi
  ·rcases i with _|i
   ·simp only[ND,E8.injEq,HO.arr.injEq]at hi;obtain⟨rfl,rfl,rfl⟩:=hi;refine⟨k0,?_⟩;rw[e0,PC];exact k.imp id λ⟨b,cap,cur,k1,k2,k3,k4,k5,k6,k7⟩=>⟨b,cap,cur,k1,k2,k3,k4,k5,A8 _ (Fs hc) k6,k7⟩
   ·simp at hi
  ·rcases i with _|i<;>simp at hi
 have Ro:Ab C w (.own 0 sz 0 n::rest) HQ vs:=by
  unfold Ab at hr⊢;obtain⟨v,BY,rfl,h1,h2⟩:=hr;refine⟨v,BY,rfl,?_,Ab.mono (Ext.refl _ _) _ (AI.none _) (A8 _ WH h2)⟩;unfold Ah at h1⊢;rw[e0];exact h1
 refine(h.out C HQ w vs Af.qI Z7 Ro).mono λen w' hp=>?_
 obtain⟨r,v,Cg,C',rfl,hR,hlen,GK,Zb2,Fi⟩:=hp;obtain⟨hcr,hK⟩:=hk r Cg hR hlen
 have vJ:Kl C cD w C' cD w':=by
  refine⟨⟨GK.same.os,GK.same.tape,GK.same.output,GK.same.size,λb hb=>GK.same.block b ⟨hb.1,λi g hi=>by obtain⟨_,h2⟩:=m1 hi;exact hb.2 l g (by rw[e2];exact h2)⟩⟩,GK.sub,λb o hc=>?_,λi b hi=>hi,λi g b hi hg=>.inl ⟨i,g,hi,hg⟩⟩
  obtain⟨q1,q2⟩:=GK.new b o hc;refine⟨q1,q2.imp id λq=>q.imp id λ⟨i,g,hi,hg⟩=>?_⟩
  obtain⟨_,h2⟩:=m1 hi;exact⟨l,g,by rw[e2];exact h2,hg⟩
 have Zb1:AU C' w' (λ_=>True) cD (cL l (.arr e sz Cg)):=by
  obtain⟨q0,q⟩:=Zb2.BM 0 e sz Cg rfl
  have G0:Bc cD=Mu.none:=by
   funext i
   unfold Bc;cases hi:cD i with
   |none=>rfl
   |some g=>
    obtain⟨_,h2⟩:=m2 hi;rw[NT]at h2;injection h2 with h2
    subst h2;rfl
  refine⟨λi g hi=>by have:=(m2 hi).1;subst this;unfold cL;simp,λi g b hi hg=>⟨trivial,(Zb2.fresh 0 g b (by rw[e0];exact(m2 hi).2) hg).2⟩,λi g b i' g' hi hg Fk SD=>by rw[(m2 hi).1,(m2 Fk).1],λi hi=>?_,λi cs hi=>?_,λi e' BI es2 hi=>?_,λi ks vs hi=>?_⟩
  ·rcases Md hi with⟨h1,_⟩|⟨_,h1⟩
   ·cases hm:cD i with
    |none=>rfl
    |some g=>have:=(m2 hm).1;omega
   ·cases h1
  ·rcases Md hi with⟨_,h1⟩|⟨_,h1⟩<;>cases h1
  ·rcases Md hi with⟨_,h1⟩|⟨h0,h1⟩;·cases h1
   ·subst h0;injection h1 with h1 h2 h3
    subst h1 h2 h3;refine⟨q0,?_⟩;rw[e0,PC]at q;rw[e2,G0];exact q
  ·rcases Md hi with⟨_,h1⟩|⟨_,h1⟩<;>cases h1
 rw[Zdt]at vJ Zb1
 have oZ:mu.mix (mu.only (cL l (.arr e sz es))) (cL l (.arr e sz es))=mu:=by
  funext i
  unfold Mu.mix;split;·rename_i h;exact Fa h
  ·rfl
 have ME:∀i,Iw ([]:List HO) i=false:=λi=>rfl
 have hlH:l<H.length:=(Ak.1 hl).1
 obtain⟨p1,p2⟩:=XG (HS:=[]) (H1:=cL l (.arr e sz Cg)) (H':=H.set l (.arr e sz Cg)) Af hh vJ Zb1 (by simp[cL]) (tC _ _ _ _) (λi hi=>by
   rcases Md hi with⟨h1,_⟩|⟨_,h1⟩;·unfold cL;rw[Ll (by simpa using h1),Sk h1]
   ·cases h1)
  (by simp) (λi hi=>by rw[LR,decide_eq_true_eq]at hi;subst hi;rw[E4 hlH,xK])
  (λi hi=>by
   rw[LR,decide_eq_false_iff_not]at hi
   rw[C4 (Ne.symm hi)]
   cases H[i]? with
   |none=>rfl
   |some o=>simp only[Qs];rw[jU ME])
  (λi x _ hm=>by rw[oZ];exact hm)
 rw[GQ ME,oZ]at p1;exact .inl ⟨r,v,_,_,C',_,rfl,hK,p1,Ah.mono (Ext.refl _ _) _ (AI.none _) (Bk _ hcr Fi)⟩
end
end Go.Av