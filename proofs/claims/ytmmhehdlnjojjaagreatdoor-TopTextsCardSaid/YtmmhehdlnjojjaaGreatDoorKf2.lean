/- A part of the proof. -/
import Derived.Test.YtmmhehdlnjojjaaGreatDoorKc2
import Derived.RecoverIn
import Derived.Lib.AppendStr
import Derived.Lib.UnsafeStr
import Derived.Maps.RangeRun
import Derived.Maps.Keyed
set_option linter.unusedVariables false
set_option maxRecDepth 100000
set_option linter.unusedSectionVars false
set_option linter.unusedSimpArgs false
open Bool renaming and_eq_true → Am, not_eq_true' → Bc, or_eq_true → Bg
open Go.Region renaming ready → Ao, wanted → Ki, binds → Ky
open List renaming getElem?_eq_some_iff → Ap, getElem?_set_self → As, getElem?_set_ne → A1, mem_append_right → A3, map_append → A6, replicate → A9, length_cons → Be, mem_append → Cc, nodup_append → CL, getElem?_eq_getElem → C2, getElem?_cons_succ → C5, mem_cons → Dy, getElem?_cons_zero → ET, nodup_nil → F5, length_append → G8, mem_map → Hs, all_eq_true → Hx, range'_succ → HB, isEmpty_iff → HS, filter_cons → Ip, length_nil → It, mem_range → IW, range → Jg, all_cons → JQ
open Nat renaming eq_of_beq_eq_true → AZ, le_trans → A5, lt_of_lt_of_le → Bb, beq → C4, zero_le → De, ne_of_beq_eq_false → E3, le_of_ble_eq_true → Fc, le_refl → GH, not_lt_zero → Ix
open Array renaming getElem?_eq_some_iff → A0, replicate → A2, setIfInBounds_comm → C3, getElem?_toList → Fo
open Option renaming some → A4
open Go.Result renaming andThen_ok → Cz
open Go.Oper renaming semAt_none → E4, looksAt → Fw
open Go.Operand renaming tmp → G1
open Go.Op renaming operands → G2
open Go.Sem renaming run_bind → Hp, run_pure → Hq
open And renaming intro → IV
open Go.Value renaming ownBlock → I0
open Prod renaming fst → Kp
namespace Go.Av
theorem Yav{P:Prop}(e:P:=by refine Vy (wpIn_region_any hm ?_);have h2:=Hv (r:=G.rd) (n:=n) hT _ _ _ _ a _ h1 ⟨C,mu,Dx⟩;simpa using h2):P:=e
theorem Yaw{P:Prop}(e:P:=by exact Dd (λc hc=>by rw[ho]at hc;cases hc) (A8 (X:=X) (Q:=Kn) hn k1 (Bm (by simp[execOp,ho]) k2) k3 k4)):P:=e
end Go.Av
namespace Go.Av
open Go.RowKit (Below)
variable {v:Value}{f:FuncId}{t e:TypeId}{ts:List TypeId}{m n id l:Nat}{cs p:List AV}{x y:Code}{o:Oper}{Q:Exit->Act->World->Prop}{ops:Array Oper}{rv:Option AV}{fn:Func}{vs:List Value}
def ZdO:AV->AV->Prop
 |.raw (.slice none 0 0),.sl _ []=>True
 |x,y=>x=y
def ZaV:List AV->List AV->Prop
 |[],[]=>True
 |x::xs,y::ys=>ZdO x y/\ZaV xs ys
 |_,_=>False
def nle:AV->AV->Prop
 |.agg cs,.agg ds=>ZaV cs ds
 |x,y=>ZdO x y
def ZgG:List AV->List AV->Prop
 |[],[]=>True
 |x::xs,y::ys=>nle x y/\ZgG xs ys
 |_,_=>False
section
variable {C:Af}{w:World}{mu:Mu}
theorem bY(x y:AV)(h:ZdO x y)(hr:Aj C w x mu v):Aj C w y mu v:=by
 unfold ZdO at h;split at h;unfold Aj at hr⊢;exact .inl ⟨⟨none,hr⟩,rfl⟩;subst h;exact hr
theorem WX:∀(xs ys:List AV){vs:List Value},ZaV xs ys->Ac C w xs mu vs->Ac C w ys mu vs
 |[],[],vs,_,hr=>hr
 |x::xs,y::ys,vs,h,hr=>by unfold Ac at hr⊢;obtain⟨v,CJ,h1,h2,h3⟩:=hr;exact⟨v,CJ,h1,bY x y h.1 h2,WX xs ys h.2 h3⟩
 |[],_::_,_,h,_|_::_,[],_,h,_=>h.elim
theorem ZdN(x y:AV)(h:nle x y)(hr:Aj C w x mu v):Aj C w y mu v:=by
 unfold nle at h;split at h;unfold Aj at hr⊢;obtain⟨vs,h1,h2⟩:=hr;exact⟨vs,h1,WX _ _ h h2⟩;exact bY _ _ h hr
theorem bX:∀(xs ys:List AV){vs:List Value},ZgG xs ys->Ac C w xs mu vs->Ac C w ys mu vs
 |[],[],vs,_,hr=>hr
 |x::xs,y::ys,vs,h,hr=>by unfold Ac at hr⊢;obtain⟨v,CJ,h1,h2,h3⟩:=hr;exact⟨v,CJ,h1,ZdN x y h.1 h2,bX xs ys h.2 h3⟩
 |[],_::_,_,h,_|_::_,[],_,h,_=>h.elim
end
theorem Ah.args{P:Program}{args args':List AV}{E:List AV}{H:List HO}{K:AV->KK}{X:XX}(hl:ZgG args args')(h:Ah P f args' E H K X):Ah P f args E H K X:=
 ⟨h.D7,λG C mu a w vs hP Ai hr=>h.out G C mu a w vs hP Ai (bX _ _ hl hr)⟩
def nP(P:Program)(m:Nat):List TypeId->List (List AV)->Prop
 |[],[]=>True
 |t::ts,p::ps=>LO P m t p/\nP P m ts ps
 |_,_=>False
section
variable {P:Program}
theorem nW{m:Nat}:∀(fs:List Field)(parts:List (List AV)),parts.length=fs.length->(∀(i:Nat) f p,fs[i]?=some f->parts[i]?=some p->LO P m f.type p)->nP P m (fs.map (·.type)) parts
 |[],[],_,_=>trivial
 |f::fs,p::ps,hl,h=>⟨h 0 f p rfl rfl,nW fs ps (by simpa using hl) λi f p h1 h2=>h (i+1) f p (by simpa using h1) (by simpa using h2)⟩
 |[],_::_,hl,_|_::_,[],hl,_=>by simp at hl
theorem FU{fs:Array Field}(hu:P.underlying t=some (.struct fs))(Ib:fs.toList.map (·.type)=ts)(h:LO P (m+1) t cs):
  ∃parts,cs=parts.flatten/\nP P m ts parts:=by
 unfold LO at h;rw[hu]at h;obtain⟨parts,h1,h2,h3⟩:=h;refine⟨parts,h1,?_⟩;rw[<-Ib];exact nW fs.toList parts (by simpa using h2) λi f p e1 e2=>h3 i f p (by simpa using e1) e2
theorem gW{fs:Array Field}{x:AV}(hu:P.underlying t=some (.struct fs))(Ib:fs.toList.map (·.type)=ts)(h:Wf P (m+1) t x):
  ∃parts,x=.agg parts.flatten/\nP P m ts parts:=by
 obtain⟨c,rfl⟩:=h.2.1 (by simp[Br,hu]);obtain⟨parts,h1,h2⟩:=FU hu Ib h.1;exact⟨parts,by rw[<-h1];rfl,h2⟩
theorem A7{ps:List (List AV)}(h:nP P m (t::ts) ps):∃p r,ps=p::r/\LO P m t p/\nP P m ts r:=by
 cases ps with
 |nil=>exact h.elim
 |cons p r=>exact⟨p,r,rfl,h.1,h.2⟩
theorem IC{ps:List (List AV)}(h:nP P m [] ps):ps=[]:=by
 cases ps with
 |nil=>rfl
 |cons p r=>exact h.elim
theorem C9{k:IntKind}(hu:P.underlying t=some (.int k))(h:LO P (m+1) t p):∃n,p=[.int k n]/\IU k n:=by
 unfold LO at h;rw[hu]at h;exact h
theorem M7(hu:P.underlying t=some .string)(h:LO P (m+1) t p):∃l,p=[.str l]/\l.length<=reachBytes:=by
 unfold LO at h;rw[hu]at h;exact h
theorem Fg(hu:P.underlying t=some (.slice e))(h:LO P (m+1) t p):∃es:List AV,p=[.sl (P.cellsOf e) es]/\es.length<=maxLen/\∀y∈es,Wf P m e y:=by
 unfold LO at h;rw[hu]at h;exact h
theorem xG{k:IntKind}(hu:P.underlying t=some (.slice e))(he:P.underlying e=some (.int k))(hc:P.cellsOf e=1)(h:LO P (m+2) t p):
  ∃l:List Int,p=[.sl 1 (l.map (.int k))]/\l.length<=maxLen/\∀n∈l,IU k n:=by
 obtain⟨es,rfl,h1,h2⟩:=Fg hu h;obtain⟨l,rfl,h3⟩:=Fp (f:=AV.int k) (p:=IU k) λy hy=>X9 he (h2 y hy);exact⟨l,by rw[hc],by simpa using h1,h3⟩
theorem Rs(hu:P.underlying t=some (.slice e))(he:P.underlying e=some .string)(hc:P.cellsOf e=1)(h:LO P (m+2) t p):
  ∃l:List (List UInt8),p=[.sl 1 (l.map .str)]/\l.length<=maxLen/\∀s∈l,s.length<=reachBytes:=by
 obtain⟨es,rfl,h1,h2⟩:=Fg hu h;obtain⟨l,rfl,h3⟩:=Fp (f:=AV.str) (p:=λs=>s.length<=reachBytes) λy hy=>Zdf he (h2 y hy);exact⟨l,by rw[hc],by simpa using h1,h3⟩
end
def Gz:Op->Bool
 |.move _|.assign _|.build _ _|.load _ _|.store _ _ _|.field _ _ _|.fieldAddr _ _ _|.extract _ _|.typeAssert _ _ _ _|.unOp _ _ _|.binOp _ _ _ _ _|.convert _ _ _|.makeInterface _ _|.alloc _|.box _ _=>true
 |_=>false
section
variable {G:Cx}{C C':Af}{w w':World}{mu:Mu}{H:List HO}{E:List AV}{a:Act}{T:List TY}{P:Program}
theorem aX{ρ:Operand->Value}(hq:Gz o.op=true){r:Next}(h:(execOp ρ o).run P w=.ok r w'):(∃v,r=.value v)\/r=.skip:=by
 have hv:∀s:Sem Value,(do pure (Next.value (<-s)):Sem Next).run P w=.ok r w'->∃v,r=.value v:=λs h=>by
  rw[Hp]at h;cases hs:s.run P w with
  |ok v w2=>
   rw[hs]at h;simp only[Cz,Hq,Result.ok.injEq]at h;exact⟨v,h.1.symm⟩
  |halt e w2=>rw[hs]at h;cases h
 have hu:∀s:Sem Unit,(do s;pure Next.skip:Sem Next).run P w=.ok r w'->r=.skip:=λs h=>by
  rw[Hp]at h;cases hs:s.run P w with
  |ok v w2=>
   rw[hs]at h;simp only[Cz,Hq,Result.ok.injEq]at h;exact h.1.symm
  |halt e w2=>rw[hs]at h;cases h
 unfold execOp at h
 cases ho:o.op<;>rw[ho]at h hq<;>first
  |(simp[Gz]at hq;done)
  |exact .inl (hv _ h)
  |exact .inr (hu _ h)
  |(simp only[Hq,Result.ok.injEq]at h;exact .inl ⟨_,h.1.symm⟩)
theorem quiet_mono(hq:Gz o.op=true){next next':Act->World->Prop}{Q':Exit->Act->World->Prop}(hn:∀a' w',next a' w'->a'.defers=a.defers->next' a' w')
  (hQ:∀e a' w',Q e a' w'->a'.defers=a.defers->Q' e a' w') (h:o.wpIn (fw none) n P a w next Q):o.wpIn (fw none) n P a w next' Q':=by
 refine⟨h.1,?_⟩;have h2:=h.2;rw[show(fw none).round=none from rfl,E4]at h2 ⊢;cases hr:(execOp a.eval o).run P w with
 |ok r w'=>
  rw[hr]at h2;rcases aX hq hr with⟨v,rfl⟩|rfl;exact hn _ _ h2 (put_defers _ _ _);exact hn _ _ h2 (put_defers _ _ _)
 |halt e w'=>
  rw[hr]at h2;cases e with
  |panic v=>exact hQ _ _ _ h2 rfl
  |_=>exact h2
theorem Mb{n:Nat}{ops:Array Oper}{Q:Exit->Act->World->Prop}{d:List Deferred}:∀(l:List Oper){a:Act}{w:World},(l.all λo=>Gz o.op)=true->a.defers=d->wpListIn (fw none) n P ops Q l a w->wpListIn (fw none) n P ops (λe a w=>Q e a w/\a.defers=d) l a w
 |[],a,w,_,hd,h=>⟨h,hd⟩
 |o::l,a,w,hq,hd,h=>by
  simp only[JQ,Am]at hq;unfold wpListIn at h⊢;split at h;·rename_i hw;rw[if_pos hw];exact quiet_mono hq.1 (λa' w' k e=>Mb l hq.2 (e.trans hd) k) (λe a' w' k e'=>⟨k,e'.trans hd⟩) h
  rename_i hw;rw[if_neg hw];exact⟨h.1,Mb l hq.2 ((put_defers _ _ _).trans hd) h.2⟩
theorem KW{n:Nat}{ops:Array Oper}{Q:Exit->Act->World->Prop}{d:List Deferred}(hq:(ops.toList.all λo=>Gz o.op)=true):∀(fuel:Nat)(listed:Array Bool){a:Act}{w:World},a.defers=d->wpAnyIn (fw none) n P .any ops Q fuel listed a w->
  wpAnyIn (fw none) n P .any ops (λe a w=>Q e a w/\a.defers=d) fuel listed a w
 |0,listed,a,w,hd,h=>⟨h.1,h.2,hd⟩
 |fuel+1,listed,a,w,hd,h=>by
  refine⟨λhr=>⟨h.1 hr,hd⟩,λi hi=>?_⟩;have h:=h.2 i hi;unfold wpOpIn at h⊢;cases ho:ops[i]? with
  |none=>
   rw[ho]at h;exact KW hq fuel _ hd h
  |some o=>
   rw[ho]at h;simp only at h⊢;have hqo:Gz o.op=true:=Hx.1 hq o (by have:o∈ops:=Array.mem_of_getElem? ho;simpa using this);split at h;·rename_i hw;rw[if_pos hw];exact quiet_mono hqo (λa' w' k e=>KW hq fuel _ (e.trans hd) k) (λe a' w' k e'=>⟨k,e'.trans hd⟩) h
   rename_i hw;rw[if_neg hw];exact⟨h.1,KW hq fuel _ ((put_defers _ _ _).trans hd) h.2⟩
structure Nb(P:Program)(c:Code)(E:List AV)(H:List HO)(K:KK)(X:XX):Prop where
 out:∀(n:Nat)(G:Cx)(a:Act)(w:World)(d:List Deferred),G.P=P->G.rd=none->St G E H a w->a.defers=d->c.wpIn (fw none) n P (λe a' w'=>L6 G K X e a' w'/\a'.defers=d) a w
def sdK(P:Program)(T:List TY):Code->List AV->List HO->KK->XX->Prop
 |.skip,E,H,K,_=>K E H
 |.region id ops draw,E,H,K,X=>match draw with
  |false=>(match ops.toList.all (λo=>Gz o.op)with|true=>TI P T ops.toList ops.toList E H K X|false=>Nb P (.region id ops false) E H K X)
  |true=>Nb P (.region id ops true) E H K X
 |.seq a b,E,H,K,X=>sdK P T a E H (λE H=>sdK P T b E H K X) X
 |.cond c a b,E,H,K,X=>DF E c λv=>match v with
  |.lit t=>(match t with|true=>sdK P T a E H K X|false=>sdK P T b E H K X)
  |.bool t=>(t=true->sdK P T a E H K X)/\(t=false->sdK P T b E H K X)
  |_=>False
 |.ret,E,H,_,X=>X .ret E H
 |c,E,H,K,X=>Nb P c E H K X
theorem Eu(hT:CY P T):∀(c:Code){E:List AV}{H:List HO}{K:KK}{X:XX},sdK P T c E H K X->Nb P c E H K X
 |.skip,E,H,K,X,h=>⟨λn G a w d hP MK Ai hd=>wpIn_skip ⟨⟨E,H,h,Ai⟩,hd⟩⟩
 |.region id ops draw,E,H,K,X,h=>by
  unfold sdK at h;cases draw with
  |false=>
   refine⟨λn G a w d hP MK Ai hd=>?_⟩;obtain⟨C,mu,Ai⟩:=Ai;subst hP;simp only at h;split at h;·rename_i hq;exact wpIn_region_list (Mb _ hq hd (Hg hT _ h Ai))
   exact h.out n G a w d rfl MK ⟨C,mu,Ai⟩ hd
  |true=>exact h
 |.seq x y,E,H,K,X,h=>⟨λn G a w d hP MK Ai hd=>by
  unfold sdK at h;refine wpIn_seq (wpIn_mono ((Eu hT x h).out n G a w d hP MK Ai hd) λe a w q=>?_);cases e with
  |normal=>obtain⟨⟨E',H',h1,h2⟩,hd⟩:=q;exact(Eu hT y h1).out n G a w d hP MK h2 hd
  |_=>exact q⟩
 |.cond c x y,E,H,K,X,h=>⟨λn G a w d hP MK Ai hd=>by
  unfold sdK at h;rw[Ae]at h;have UH:=Ai;obtain⟨C,mu,Dx⟩:=UH;have hr:=Bv Dx.env c;split at h
  ·rename_i t hb;rw[hb]at hr;have hv:=B5 hr;cases t with
   |true=>exact wpIn_cond_true hv ((Eu hT x h).out n G a w d hP MK Ai hd)
   |false=>exact wpIn_cond_false hv ((Eu hT y h).out n G a w d hP MK Ai hd)
  ·rename_i t hb;rw[hb]at hr;have hv:=BY hr;exact wpIn_cond_split hv (λht=>(Eu hT x (h.1 ht)).out n G a w d hP MK Ai hd) (λht=>(Eu hT y (h.2 ht)).out n G a w d hP MK Ai hd)
  exact h.elim⟩
 |.ret,E,H,K,X,h=>⟨λn G a w d hP MK Ai hd=>wpIn_ret ⟨⟨E,H,h,Ai⟩,hd⟩⟩
 |.block _ _,_,_,_,_,h=>h
 |.exit _,_,_,_,_,h=>h
 |.loop b,_,_,_,_,h=>h
 |.rangeFunc _ _ _ _,_,_,_,_,h=>h
 |.scope _,_,_,_,_,h=>h
 |.label _,_,_,_,_,h=>h
 |.goto _,_,_,_,_,h=>h
 |.refuse _,_,_,_,_,h=>h
def XW(C:Af)(w:World)(mu:Mu)(u:FrameMode)(rv:Option AV):Prop:=
 match rv with
 |none=>u=.returning
 |some x=>∃v,u=.panicking [{v,recovered:=false}]/\Aj C w x mu v
def Zjw(rv:Option AV):AV:=match rv with|none=>.raw .nilIface|some x=>x
def taK(T:List TY)(x:AV)(t:TypeId)(K:AV->Prop):Prop:=
 Dr T t λy=>match y.k with
  |.struct _=>(match x with
   |.iface t' v=>(match C4 t' t with|true=>K (.tuple [v,.lit true])|false=>False)
   |.raw .nilIface=>(match C4 y.zero.length y.size&&Nat.ble 2 y.size with|true=>K (.tuple [.agg y.zero,.lit false])|false=>False)
   |_=>False)
  |_=>False
def isRec(o:Op):Bool:=match o with
 |.call c=>(match c.callee with|.builtin .recover=>(match c.args.toList with|[]=>true|_=>false)|_=>false)
 |_=>false
def Ps(P:Program)(T:List TY)(ops:List Oper):List Oper->List AV->List HO->KK->Prop
 |[],E,H,K=>K E H
 |o::r,E,H,K=>gdK ops E o.guard
   (λE=>match o.op with
    |.typeAssert x _ t true=>DF E x λv=>taK T v t λv=>BV E o.dst v λE=>Ps P T ops r E H K
    |op=>(match Gz op with
     |true=>TX none P T E H op (λv E' H'=>BV E' o.dst v λE=>Ps P T ops r E H' K) (λ_ _ _=>False)
     |false=>False))
   (λE=>BV E o.dst (.raw undef) λE=>Ps P T ops r E H K)
def Zgu(P:Program)(T:List TY)(ops:List Oper)(rv:AV)(E:List AV)(H:List HO)(K:KK):Prop:=
 match ops with
 |o::r=>(isRec o.op=true/\o.guard=none)/\BV E o.dst rv λE=>Ps P T ops r E H K
 |[]=>False
theorem zN(hT:CY G.P T){x:AV}(hx:Aj C w x mu v){xt:TypeId}{K:AV->Prop}(h:taK T x t K):
  ∃r u,K r/\Aj C w r mu u/\(Instr.typeAssert v xt t true).run G.P w=.ok u w:=by
 unfold taK at h;replace h:=Bf.1 h;obtain⟨y,hy,h⟩:=h;obtain⟨i,d,hi,hd,he⟩:=hT.facts hy;split at h
 ·rename_i fs hk;have Ai:∃fs,d=.struct fs:=by rw[he]at hk;simp only at hk;cases d<;>first|exact⟨_,rfl⟩|(simp[kindOf]at hk;done)
  obtain⟨fs',rfl⟩:=Ai;split at h
  ·rename_i t' av;split at h;·rename_i hb;obtain rfl:=AZ hb;unfold Aj at hx;obtain⟨q,rfl,hq⟩:=hx;refine⟨_,.tuple #[q,.bool true],h,by unfold Aj;exact⟨[q,.bool true],rfl,by simp[Ac,hq,Aj]⟩,?_⟩;simp[Instr.typeAssert,underlying,hd]
   exact h.elim
  ·unfold Aj at hx;subst hx;split at h
   ·rename_i hb;simp only[Am]at hb;have OJ:2<=y.size:=Fc hb.2;obtain⟨z,hz,hzr⟩:=EE (C:=C) (mu:=mu) (w:=w) hT hy (AZ hb.1) (by omega);have hzl:=AM _ hzr
    have Y7:∃cs,z=.agg cs:=by
     cases z with
     |agg cs=>exact⟨cs,rfl⟩
     |_=>
      exfalso;have:=AZ hb.1;simp[Value.cells]at hzl;omega
    obtain⟨cs,rfl⟩:=Y7;refine⟨_,.tuple #[.agg cs,.bool false],h,by unfold Aj;exact⟨[.agg cs,.bool false],rfl,by simp only[Ac,Aj];exact⟨_,_,rfl,⟨cs.toList,by simp,hzr⟩,_,_,rfl,rfl,rfl⟩⟩,?_⟩;simp[Instr.typeAssert,underlying,hd,hz]
   exact h.elim
  exact h.elim
 exact h.elim
theorem Zaq(h:isRec o.op=true)(ρ:Operand->Value)(w:World):(execOp ρ o).run P w=.ok .recover w:=by
 unfold isRec at h;split at h
 ·rename_i c hc;split at h
  ·rename_i hb;split at h;·rename_i ha;simp[execOp,hc,resolve,hb,invoke,builtin]
   cases h
  cases h
 cases h
theorem tC(hq:Gz o.op=true){next:Act->World->Prop}(h:o.wpIn (fw none) n P a w next Q):
  (∃v w',(execOp a.eval o).run P w=.ok (.value v) w'/\next (a.put o.dst v) w')\/(∃w',(execOp a.eval o).run P w=.ok .skip w'/\next (a.put o.dst undef) w')\/∃v w',Q (.panic [{v,recovered:=false}]) a w':=by
 have h2:=h.2;rw[show(fw none).round=none from rfl,E4]at h2;cases hr:(execOp a.eval o).run P w with
 |ok r w'=>
  rw[hr]at h2;rcases aX hq hr with⟨v,rfl⟩|rfl;exact .inl ⟨v,w',rfl,h2⟩;exact .inr (.inl ⟨w',rfl,h2⟩)
 |halt e w'=>
  rw[hr]at h2;cases e with
  |panic v=>exact .inr (.inr ⟨v,w',h2⟩)
  |_=>exact h2.elim
theorem IJ(hT:CY G.P T){n:Nat}{ops:Array Oper}{Q:Exit->Act->List Frame->World->Prop}{FK:List Frame}{K:KK}{D:List Deferred}
  (hQ:∀E' H' a' w',K E' H'->St G E' H' a' w'->a'.defers=D->Q .normal a' FK w'):
  ∀(l:List Oper)(k:Nat),(∀j,l[j]?=ops[k+j]?)->∀{C:Af}{mu:Mu}{E:List AV}{H:List HO}{a:Act}{w:World},Ps G.P T ops.toList l E H K->AJ G C mu E H a w->a.defers=D->
   wpOpsSIn (fw none) n G.P ops Q (List.range' k l.length) a FK w
 |[],k,hk,C,mu,E,H,a,w,h,Ai,hD=>by unfold Ps at h;exact hQ _ _ _ _ h ⟨C,mu,Ai⟩ hD
 |o::l,k,hk,C,mu,E,H,a,w,h,Ai,hD=>by
  have h0:ops[k]?=some o:=by simpa using (hk 0).symm
  have KR:∀j,l[j]?=ops[k+1+j]?:=λj=>by have:=hk (j+1);simp only[C5]at this;rw[this];congr 1;omega
  unfold Ps at h;simp only[Be,HB];unfold wpOpsSIn;simp only[h0];refine⟨λ_ _=>trivial,?_⟩;rcases GK rfl Ai h with⟨hw,E',h1,h2⟩|⟨hw,E',h1,h2⟩
  ·rw[if_pos hw];split at h1;·rename_i x xt t ho;rw[Ae]at h1;obtain⟨r,v,k1,k2,k3⟩:=zN hT (Bv h2.env x) (xt:=xt) h1;(have:(execOp a.eval o).run G.P w=.ok (.value v) w:=by simp[execOp,ho,k3]);simp only[this];rw[AF]at k1;exact IJ hT hQ l (k+1) KR k1 (h2.frame (BF h2.env o.dst k2) (put_defers _ _ _)) ((put_defers _ _ _).trans hD)
   split at h1;·rename_i hq;have hw:=Ex (r:=none) (n:=n) (Kn:=K) hT h1 h2 (next:=λa' w'=>I9 G o (λv E' H'=>BV E' o.dst v λE=>Ps G.P T ops.toList l E H' K) a' w') (λ_ _ h=>h);(have go:∀{a':Act}{w':World},I9 G o (λv E' H'=>BV E' o.dst v λE=>Ps G.P T ops.toList l E H' K) a' w'->a'.defers=D->wpOpsSIn (fw none) n G.P ops Q (List.range' (k+1) l.length) a' FK w':=by intro a' w' hp hd;obtain⟨r,Gp,H'',kZ,C',mu',Dx⟩:=hp;rw[AF]at kZ;exact IJ hT hQ l (k+1) KR kZ Dx hd);rcases tC hq hw with⟨v,w',e1,e2⟩|⟨w',e1,e2⟩|⟨v,w',e2⟩;simp only[e1];exact go e2 ((put_defers _ _ _).trans hD);simp only[e1];exact go e2 ((put_defers _ _ _).trans hD);obtain⟨x,v',E1,H1,C1,Qk,_,hf,_⟩:=e2;exact hf.elim
   exact h1.elim
  rw[if_neg (by simp[hw])];rw[AF]at h1;exact IJ hT hQ l (k+1) KR h1 (h2.frame (BF h2.env o.dst (show Aj C w (.raw undef) mu undef by unfold Aj;rfl)) (put_defers _ _ _)) ((put_defers _ _ _).trans hD)
theorem tB(hT:CY G.P T){Q:Exit->Act->List Frame->World->Prop}{c₀:Frame}{cs:List Frame}{u:FrameMode}{K:KK}{D:List Deferred}
  (hu:c₀.mode=u) (yC:XW C w mu u rv) (hQ:∀u' E' H' a' w',settle u'=.returning->K E' H'->St G E' H' a' w'->a'.defers=D->Q .normal a' ({c₀ with mode:=u'}::cs) w')
  (h:Zgu G.P T ops.toList (Zjw rv) E H K) (Ai:AJ G C mu E H a w) (hD:a.defers=D):wpOpsSIn (fw none) n G.P ops Q (Jg ops.size) a (c₀::cs) w:=by
 unfold Zgu at h;split at h
 ·rename_i o r vO;obtain⟨⟨h1,h2⟩,h3⟩:=h;rw[AF]at h3;have DT:ops.size=r.length+1:=by rw[<-Array.length_toList,vO];rfl
  have h0:ops[0]?=some o:=by rw[<-Fo,vO];rfl
  have KR:∀j,r[j]?=ops[0+1+j]?:=λj=>by rw[<-Fo,vO,show 0+1+j=j+1 by omega,C5]
  rw[DT,List.range_eq_range',HB];unfold wpOpsSIn;simp only[h0];refine⟨λ_ _=>trivial,?_⟩;rw[if_pos (by simp[Ki,h2]),Zaq h1];cases rv with
  |none=>
   have hm:c₀.mode=.returning:=hu.trans yC;(have:recoverD (c₀::cs)=none:=by simp[recoverD,hm]);simp only[this];(have he:c₀={c₀ with mode:=.returning}:=by rw[<-hm]);rw[he];exact IJ hT (λE' H' a' w' q1 q2 q3=>hQ .returning E' H' a' w' rfl q1 q2 q3) r (0+1) KR h3 (Ai.frame (BF Ai.env o.dst (show Aj C w (.raw .nilIface) mu .nilIface by unfold Aj;rfl)) (put_defers _ _ _)) ((put_defers _ _ _).trans hD)
  |some x=>
   obtain⟨v,hv,hx⟩:=yC;have hm:c₀.mode=.panicking [{v,recovered:=false}]:=hu.trans hv;(have:recoverD (c₀::cs)=some (v,{c₀ with mode:=.panicking [{v,recovered:=true}]}::cs):=by simp[recoverD,hm]);simp only[this];exact IJ hT (λE' H' a' w' q1 q2 q3=>hQ _ E' H' a' w' rfl q1 q2 q3) r (0+1) KR h3 (Ai.frame (BF Ai.env o.dst hx) (put_defers _ _ _)) ((put_defers _ _ _).trans hD)
 exact h.elim
structure O1(P:Program)(f:FuncId)(args:List AV)(H0:List HO)(rv:Option AV)(R:List HO->Prop):Prop where
 D7:Cp P f=true
 out:∀(n:Nat)(C:Af)(mu:Mu)(w:World)(vs:List Value)(u:FrameMode),gE C w->B0 C w (λ_=>True) mu H0->Ac C w args mu vs->XW C w mu u rv->
  CallsDIn (fw none) n P f vs.toArray u w λe u' w'=>∃v H1 C' mu',e=.returned v/\settle u'=.returning/\R H1/\Su C mu w C' mu' w'/\B0 C' w' (λ_=>True) mu' H1/\
   H1.length=H0.length/\DC H1=true/\∀l:Nat,H0[l]?=some HO.dead->H1[l]?=some HO.dead
theorem O1.Ak{rest:Code}{args:List AV}{H0:List HO}{R:List HO->Prop}(hf:P.funcs[f]?=some fn)(hb:fn.body=some (.seq (.region id ops false) rest))(Ik:fn.results=#[])
  (hT:CY P T) (hg:Cp P f=true) (Of:DC H0=true)
  (h:EN fn.ntmps args λE=>Zgu P T ops.toList (Zjw rv) E H0 λE H=>Nb P rest E H (λ_ H=>EB H0.length H H0 H R) (λe _ H=>match e with|.ret=>EB H0.length H H0 H R|_=>False)):O1 P f args H0 rv R:=by
 refine⟨hg,λn C mu w vs u AA hh hr yC=>callsDIn_of_wpSIn hf hb trivial λc₀ cs hu=>?_⟩;unfold EN at h;rw[Ev,Dl]at h;let G:Cx:={P:=P,lL:=⟨AA,λb o hc ⟨l,g,hl,hg⟩=>(hh.fresh l g b hl hg).2.2 o hc⟩,C0:=C,M0:=λb=>∃l g,mu l=some g/\g.Az=some b,W0:=w,Dv:=λl b=>mu l=some (.D6 b),np:=H0.length}
 have Ai:AJ G C mu (args++A9 (fn.ntmps-args.length) (.raw undef)) H0 {tmps:=vs.toArray++A2 (fn.ntmps-vs.toArray.size) undef,defers:=[]} w:=by refine⟨λ_ _ h=>h,λ_ _ h=>.inl h,AA.lt,⟨hh.JX,λl g b hl hg=>⟨.inr ⟨l,g,hl,hg⟩,(hh.fresh l g b hl hg).2⟩,hh.sep,hh.dead,hh.Dp,hh.Dk,hh.maps⟩,?_,⟨[],rfl,Wh Of⟩,⟨rfl,rfl,rfl,GH _,λ_ _ _=>rfl⟩,GH _,λ_ _ _ h=>h⟩;have hl:=AM _ hr;have:=Bj hr (CG (C:=C) (w:=w) (mu:=mu) (fn.ntmps-args.length));simpa[hl]using this
 have BQ:∀(tmps:Array Value)(w:World),(results fn tmps).run P w=.ok (.tuple #[]) w:=λtmps w=>by rw[FX,Ik];simp
 refine wpSIn_seq (wpSIn_region ?_);refine tB (G:=G) hT hu yC (D:=[]) (λu' E' H' a' w1 hu' hk Dx hD=>?_) h Ai rfl;skip
 have fin:∀H a w',EB H0.length H H0 H R->(∃E,St G E H a w')->∃v H1 C' mu',Ending.returned (.tuple #[])=.returned v/\settle u'=.returning/\R H1/\Su C mu w C' mu' w'/\B0 C' w' (λ_=>True) mu' H1/\
   H1.length=H0.length/\DC H1=true/\∀l:Nat,H0[l]?=some HO.dead->H1[l]?=some HO.dead:=by
  rintro H a w' hk ⟨E,C1,Qk,Ai⟩;obtain⟨r,H1,C',mu',k1,k2,k3,_,k4⟩:=vU (x:=.bool true) (v:=.bool true) (R:=λ_ H1=>R H1) (n:=0) hh Ai (by unfold Aj;rfl) (by unfold EO;simpa[closed,AV.AS]using hk);exact⟨_,H1,C',mu',rfl,hu',k1,k2,k3,k4⟩
 refine wpSIn_of_wpIn rfl (wpIn_mono (hk.out n G a' w1 [] rfl rfl Dx hD) λe a w' q=>?_);obtain⟨q,hd⟩:=q;cases e with
 |normal|ret=>obtain⟨E,H,h1,h2⟩:=q;exact⟨hd,u',rfl,_,BQ _ _,fin H a w' h1 ⟨E,h2⟩⟩
 |exit id=>obtain⟨E,H,h1,h2⟩:=q;exact h1.elim
 |goto l|outgrown=>exact q.elim
 |panic ch=>obtain⟨x,v,E,H,C1,Qk,_,hk,_⟩:=q;exact hk.elim
end
section
variable {G:Cx}{C C':Af}{w w':World}{mu:Mu}{H H0:List HO}{E:List AV}{a:Act}{T:List TY}{P:Program}
structure Oi(P:Program)(f:FuncId)(cap:List AV)(rv:Option AV)(E:List AV)(H:List HO)(K:KK):Prop where
 D7:Cp P f=true
 out:∀(n:Nat)(G:Cx) C mu (a:Act) (w:World) (vs:List Value) (u:FrameMode),G.P=P->AJ G C mu E H a w->Ac C w cap mu vs->XW C w mu u rv->
  CallsDIn (fw none) n P f vs.toArray u w λe u' w'=>∃v E' H' C' mu',e=.returned v/\settle u'=.returning/\K E' H'/\AJ G C' mu' E' H' a w'
def TJ(rv:Option AV):List AV:=match rv with|some x=>[x]|none=>[]
theorem Oi.tT{cap:List AV}{R:List HO->Prop}{K:KK}(h:O1 P f cap H0 rv R)(hw:AR H0 cap=true)(hx:AR H0 (TJ rv)=true)(hh:Eh H0 H0 H True)
  (hk:∀H1,R H1->Yl H0 E λE'=>Cg H0 H0 H1 H λH'=>K E' H'):Oi P f cap rv E H K:=by
 refine⟨h.D7,λn G C mu a w vs u hP Ai hr yC=>(h.out n C (mu.only H0) w vs u Ai.qR (TZ Ai hh) (CM cap hw hr) ?_).mono λe u' w' hp=>?_⟩
 ·cases rv with
  |none=>exact yC
  |some x=>
   obtain⟨v,hv,Oe⟩:=yC;have:=CM (H0:=H0) [x] hx (C:=C) (w:=w) (mu:=mu) (vs:=[v]) (by unfold Ac;exact⟨v,[],rfl,Oe,by unfold Ac;rfl⟩);unfold Ac at this;obtain⟨v',CJ,he,k,_⟩:=this;simp only[List.cons.injEq]at he;obtain⟨rfl,_⟩:=he;exact⟨v,hv,k⟩
 obtain⟨v,H1,C',mu',he,hs,hR,hp,vK,hlen,Of,Xs⟩:=hp;have Q3:=(GJ hh).1;have hk:=hk H1 hR;rw[Bk]at hk;obtain⟨H',k1,k2,k3,k4⟩:=Gg Q3 hk;obtain⟨m1,m2⟩:=merged Ai hh hp vK hlen Of Xs k2 k3 k4;exact⟨v,_,_,C',_,he,hs,k1,m1⟩
def Cx.mB(G:Cx)(ms:List Nat)(f:FuncId)(vs:List Value):Cx:=
 {G with ds:={target:=.fn (.func f) vs.toArray,args:=#[]}::(ms.map mark++G.ds),Lf:=ms.map (λD=>(D,Gj))++G.Lf,MK:=λl h=>let ⟨r,hr⟩:=G.MK l h;⟨r,A3 _ hr⟩}
def gh(g:Nat)(vs:List Value)(H:List HO):Prop:=∃cap,H[g]?=some (.ghost cap vs [])
abbrev DK:=FuncId->Nat->List Value->KK
abbrev DX:=FuncId->Nat->List Value->XX
def QD(G:Cx)(K:KK)(X:XX)(K2:DK)(X2:DX)(e:Exit)(a:Act)(w:World):Prop:=
 L6 G K X e a w\/∃ms f vs g,Cp G.P f=true/\L6 (G.mB ms f vs) (λE H=>gh g vs H/\K2 f g vs E H) (λe E H=>gh g vs H/\X2 f g vs e E H) e a w
structure Jj(P:Program)(c:Code)(E:List AV)(H:List HO)(K:KK)(X:XX)(K2:DK)(X2:DX):Prop where
 out:∀(n:Nat)(G:Cx)(a:Act)(w:World),G.P=P->G.rd=none->St G E H a w->Qq (fw none) n P c (QD G K X K2 X2) a w
theorem Jj.seq1{K:KK}{X:XX}{K2:DK}{X2:DX}(h:Aa P x E H (λE H=>Jj P y E H K X K2 X2) X):Jj P (.seq x y) E H K X K2 X2:=
 ⟨λn G a w hP hr Ai=>SK (BX (by have:=h.out n G a w hP Ai;rwa [hr]at this) λe a w q=>by
  cases e with
  |normal=>obtain⟨E',H',h1,h2⟩:=q;exact h1.out n G a w hP hr h2
  |_=>exact .inl q)⟩
theorem Jj.Zgk{K:KK}{X:XX}{K2:DK}{X2:DX}(h:Jj P x E H (λE H=>Jj P y E H K X K2 X2) X (λf g vs E H=>Aa P y E H (λE H=>gh g vs H/\K2 f g vs E H) (λe E H=>gh g vs H/\X2 f g vs e E H)) X2):Jj P (.seq x y) E H K X K2 X2:=
 ⟨λn G a w hP hr Ai=>SK (BX (h.out n G a w hP hr Ai) λe a w q=>by
  rcases q with q|⟨ms,f,vs,g,hg,q⟩
  ·cases e with
   |normal=>obtain⟨E',H',h1,h2⟩:=q;exact h1.out n G a w hP hr h2
   |_=>exact .inl q
  ·cases e with
   |normal=>
    obtain⟨E',H',⟨_,h1⟩,h2⟩:=q;refine BX (by have:=h1.out n (G.mB ms f vs) a w hP h2;rwa [show(G.mB ms f vs).rd=none from hr]at this) λe a w q=>.inr ⟨ms,f,vs,g,hg,q⟩
   |_=>exact .inr ⟨ms,f,vs,g,hg,q⟩)⟩
def WG(P:Program)(T:List TY)(ops:List Oper):List Oper->List AV->List HO->(FuncId->List AV->KK)->XX->Prop
 |[],_,_,_,_=>False
 |o::r,E,H,K,X=>match o.op with
  |.defer c=>(match r,o.guard with
   |[],none=>(match c.callee,c.args.toList with
    |.value f,[]=>DF E f λv=>(match v with
     |.fn f cap=>Cp P f=true/\BV E o.dst (.raw undef) λE=>K f cap E H
     |_=>False)
    |_,_=>False)
   |_,_=>False)
  |op=>gdK ops E o.guard (λE=>TX none P T E H op (λv E' H'=>BV E' o.dst v λGp=>WG P T ops r Gp H' K X) X) (λE=>BV E o.dst (.raw undef) λE'=>WG P T ops r E' H K X)
theorem tK{F:Fence}{K K':Act->World->Prop}{Q':Exit->Act->World->Prop}(h:∀a w,K a w->K' a w)(hq:∀e a w,Q e a w->Q' e a w)(hh:o.wpIn F n P a w K Q):o.wpIn F n P a w K' Q':=by
 unfold Oper.wpIn at*;refine⟨hh.1,?_⟩;have hh:=hh.2;have hl:LetsOut Q->LetsOut Q':=λh=>by obtain⟨a,w,k⟩:=h;exact⟨a,w,hq _ _ _ k⟩
 generalize (o.semAt F.round a.eval).run P w=r at*;cases r with
 |ok x w'=>
  cases x<;>simp only[Oper.uponIn]at hh ⊢<;>
   first
    |exact h _ _ hh
    |exact⟨hh.1,CallsIn.mono hh.2 (λe O6 he=>by cases e<;>first|exact h _ _ he|exact hq _ _ _ he|exact hl he)⟩
    |exact⟨hh.1,RowsIn.mono hh.2 (λ_ _ he=>h _ _ he)⟩
    |exact⟨hh.1,RoundIn.mono hh.2 (λe O6 he=>by cases e<;>first|exact h _ _ he|exact hq _ _ _ he|exact hl he)⟩
 |halt x w'=>cases x<;>simp only[Oper.uponIn]at hh ⊢<;>first|exact hq _ _ _ hh|exact hh
theorem zU{ms:List Nat}{cap:List AV}(h:AJ G C mu E H a w)(d1:a.defers=ms.map mark++G.ds)(d2:B2 C w G.fresh mu H (ms.map (λD=>(D,Gj))++G.Lf))(hr:Ac C w cap mu vs):
  AJ (G.mB ms f vs) C mu E (H++[.ghost cap vs []]) {a with defers:={target:=.fn (.func f) vs.toArray,args:=#[]}::a.defers} w:=by
 have get:∀{l:Nat}{ob:HO},(H++[HO.ghost cap vs []])[l]?=some ob->H[l]?=some ob\/(l=H.length/\ob=.ghost cap vs []):=λ{l ob} hl=>by
  rcases Nat.lt_or_ge l H.length with k|k;rw[List.getElem?_append_left k]at hl;exact .inl hl;rw[List.getElem?_append_right k]at hl;have:l-H.length=0:=by have:=(Ap.1 hl).1;simp at this;omega
  rw[this]at hl;simp at hl;exact .inr ⟨by omega,hl.symm⟩
 refine⟨h.c0,h.c1,h.lt,⟨λl g hl=>?_,h.heap.fresh,h.heap.sep,λl hl=>?_,λl cs hl=>?_,λl e sz es hl=>?_,λl ks vs hl=>?_⟩,h.env,⟨[],by simp[Cx.mB,d1],⟨λl cs CJ DL hl=>?_,λl I hl=>?_,λD hD=>d2.marks D (by simpa[Cx.mB]using hD),?_,λl l' cs vs1 ms1 cs' vs2 cA hl CT BK D hD hD'=>?_⟩⟩,⟨h.Ax.os,h.Ax.tape,h.Ax.output,h.Ax.size,h.Ax.block⟩,?_⟩;have:=h.heap.JX l g hl;simp;omega
 ·rcases get hl with k|⟨_,k⟩;·exact h.heap.dead l k
  cases k
 ·rcases get hl with k|⟨_,k⟩;·exact h.heap.Dp l cs k
  cases k
 ·rcases get hl with k|⟨_,k⟩;·exact h.heap.Dk l e sz es k
  cases k
 ·rcases get hl with k|⟨_,k⟩;·exact h.heap.maps l ks vs k
  cases k
 ·rcases get hl with k|⟨_,k⟩;·obtain⟨q1,q2,q3⟩:=d2.BG l cs CJ DL k;exact⟨q1,q2,λD hD=>⟨(q3 D hD).1,by simpa[Cx.mB]using (q3 D hD).2⟩⟩
  cases k;exact⟨hr,F5,λD hD=>by cases hD⟩
 ·rcases get hl with k|⟨_,k⟩;·obtain⟨h0,Sw,Sr,q1,q2,q3,q4⟩:=d2.Ho l I k;refine⟨h0,Sw,Sr,q1,q2,λD hD=>q3 D (by simpa[Cx.mB]using hD),λl' cs CJ DL CT D hD=>?_⟩;rcases get CT with k'|⟨_,k'⟩;exact q4 l' cs CJ DL k' D hD;cases k';cases hD
  cases k
 have:=d2.nd;simpa[Cx.mB]using this
 ·rcases get hl with k|⟨k0,k⟩
  ·rcases get CT with k'|⟨_,k'⟩;·exact d2.sep l l' cs vs1 ms1 cs' vs2 cA k k' BK D hD hD'
   cases k';cases hD'
  cases k;cases hD
 exact⟨by have:=h.Dv.1;simp only[G8,Be,It];exact A5 this (by omega),h.Dv.2⟩
theorem Ow(hT:CY G.P T)(MK:G.rd=none){n:Nat}{ops:Array Oper}{K0:KK}{K:FuncId->List AV->KK}{X:XX}{K2:DK}{X2:DX}(hK:∀f cap E H,K f cap E H->∀vs,K2 f H.length vs E (H++[.ghost cap vs []])):
  ∀(l:List Oper){C:Af}{mu:Mu}{E:List AV}{H:List HO}{a:Act}{w:World},WG G.P T ops.toList l E H K X->AJ G C mu E H a w->wpListIn (fw none) n G.P ops (QD G K0 X K2 X2) l a w
 |[],_,_,_,_,_,_,h,Ai=>by unfold WG at h;exact h.elim
 |o::l,C,mu,E,H,a,w,h,Ai=>by
  unfold WG at h;split at h
  ·rename_i c YZ;split at h
   ·rename_i hg;split at h
    ·rename_i f hc ha;rw[Ae]at h;split at h;·rename_i fi cap dP;obtain⟨Kt,h⟩:=h;rw[AF]at h;have hf:=Bv Ai.env f;rw[dP]at hf;unfold Aj at hf;obtain⟨vs,vT,EA⟩:=hf;obtain⟨ms,d1,d2⟩:=Ai.defers;unfold wpListIn;rw[if_pos (by simp[Ki,hg])];refine⟨λ_ _=>trivial,?_⟩;rw[show(fw none).round=none from rfl,E4];(have BQ:(execOp a.eval o).run G.P w=.ok (.defer {target:=.fn (.func fi) vs.toArray,args:=#[]}) w:=by obtain⟨Gs,args,N0⟩:=c;simp only at hc ha;subst hc;(have:args=#[]:=by simpa using ha);subst this;simp[execOp,YZ,resolve,vT,Deferred.ofValue]);rw[BQ,Oper.uponIn_defer];refine .inr ⟨ms,fi,vs,H.length,Kt,_,_,⟨⟨cap,by simp⟩,hK _ _ _ _ h vs⟩,C,mu,?_⟩;(have hx:Aj C w (.raw undef) mu undef:=by unfold Aj;rfl);exact(zU Ai d1 d2 EA).frame (BF (a:={a with defers:={target:=.fn (.func fi) vs.toArray,args:=#[]}::a.defers}) Ai.env o.dst hx) (put_defers _ _ _)
     exact h.elim
    exact h.elim
   exact h.elim
  unfold wpListIn;rcases GK rfl Ai h with⟨hw,E',h1,h2⟩|⟨hw,E',h1,h2⟩;rw[if_pos hw];refine tK (λ_ _ h=>h) (λe a w q=>.inl q) (Ex (r:=none) (Kn:=K0) hT h1 h2 λa' w' hp=>?_);obtain⟨x,Gp,H',h3,C',mu',h4⟩:=hp;rw[AF]at h3;exact Ow hT MK hK l h3 h4;rw[if_neg (by simp[hw])];rw[AF]at h1;exact⟨λ_ _=>trivial,Ow hT MK hK l h1 (h2.frame (BF h2.env o.dst (show Aj C w (.raw undef) mu undef by unfold Aj;rfl)) (put_defers _ _ _))⟩
theorem Jj.region{K:KK}{X:XX}{K2:DK}{X2:DX}(hT:CY P T)(h:WG P T ops.toList ops.toList E H (λf cap E H=>∀vs,K2 f H.length vs E (H++[.ghost cap vs []])) X):Jj P (.region id ops false) E H K X K2 X2:=
 ⟨λn G a w hP hr Ai=>by
  obtain⟨C,mu,Ai⟩:=Ai
  subst hP
  exact Vy (wpIn_region_list (Ow hT hr (λf cap E H k=>k) _ h Ai))⟩
theorem B2.less{fr:Nat->Prop}{d1 d2:List (Nat×Obj)}(h:B2 C w fr mu H (d1++d2)):B2 C w fr mu H d2:=by
 refine⟨λl cs vs ms hl=>?_,λl I hl=>?_,λD hD=>h.marks D (A3 _ hD),?_,h.sep⟩;obtain⟨q1,q2,q3⟩:=h.BG l cs vs ms hl;refine⟨q1,q2,λD hD=>⟨(q3 D hD).1,λhd=>(q3 D hD).2 ?_⟩⟩;rw[A6];exact A3 _ hd;obtain⟨h0,Sw,Sr,q1,q2,q3,q4⟩:=h.Ho l I hl;exact⟨h0,Sw,Sr,q1,q2,λD hD=>q3 D (A3 _ hD),q4⟩;have:=h.nd;rw[A6]at this;exact(CL.1 this).2.1
theorem PK{n:Nat}{fn:Func}{R:Ending->World->Prop}{tmps tm2:Array Value}{u:FrameMode}(hu:u≠.run):∀(ms:List Nat){w:World}{a:Act},a.tmps=tm2->AJ G C mu E H a w->B2 C w G.fresh mu H (ms.map (λD=>(D,Gj))++G.Lf)->
  (∀a' w',a'.tmps=tm2->AJ G C mu E H a' w'->B2 C w' G.fresh mu H G.Lf->LeavesInM (fw none) n G.P fn tmps R G.ds u w')->LeavesInM (fw none) n G.P fn tmps R (ms.map mark++G.ds) u w
 |[],w,a,ha,h,hx,hr=>hr a w ha h (by simpa using hx)
 |D::ms,w,a,ha,h,hx,hr=>by simp only[List.map_cons,List.cons_append,LeavesInM];obtain⟨h1,h2⟩:=h.O8 hx;refine⟨hu,.inl ⟨D,_,rfl,run_takeDeferred ?_,PK hu ms (a:={a with defers:=ms.map mark++G.ds}) (by exact ha) h1 h2 hr⟩⟩;exact(hx.marks (D,Gj) (by simp)).at_
theorem sU(hg:Cp P f=true)(w:World):(invoke (.fn (.func f) vs.toArray) #[]).run P w=.ok (.enter f vs.toArray) w:=by
 unfold Cp at hg;cases Xo:P.funcs[f]? with
 |none=>rw[Xo]at hg;cases hg
 |some fn=>
  rw[Xo]at hg;simp only[Am]at hg;have BK:fn.name ≠ "runtime.NumGoroutine":=by simpa using hg.2
  have hb:fn.body≠none:=by cases hh:fn.body<;>simp_all
  simp[invoke,callFunc,Xo,BK,hb]
theorem cK{R:Ending->World->Prop}{tmps:Array Value}(Y4:G.ds=[])(ZpV:G.Lf=[]){ms:List Nat}{g:Nat}{u:FrameMode}{K:KK}(hu:u≠.run)(hgf:Cp G.P f=true)
  (Ai:AJ (G.mB ms f vs) C mu E H a w) (yC:XW C w mu u rv) (ZF:gh g vs H) (hd:∀cap CJ,H[g]?=some (.ghost cap CJ [])->Oi G.P f cap rv E H K) (ht:a.tmps=tmps)
  (vU:∀E H C mu a w,K E H->a.tmps=tmps->AJ G C mu E H a w->∃v,(results fn tmps).run G.P w=.ok v w/\R (.returned v) w):LeavesInM (fw none) n G.P fn tmps R a.defers u w:=by
 obtain⟨cA,d1,d2⟩:=Ai.defers;rw[d1]
 -- zJ Zlp value Zow in zJ frame
 obtain⟨rs,Ic,dS⟩:∃rs:List Value,Ac C w (TJ rv) mu rs/\∀w',Ac C w' (TJ rv) mu rs->XW C w' mu u rv:=by
  cases rv with
  |none=>exact⟨[],by unfold TJ Ac;rfl,λ_ _=>yC⟩
  |some x=>
   obtain⟨v,hv,hx⟩:=yC;refine⟨[v],by unfold TJ Ac;exact⟨v,[],rfl,hx,by unfold Ac;rfl⟩,λw' h=>⟨v,hv,?_⟩⟩;unfold TJ Ac at h;obtain⟨v',CJ,he,k,_⟩:=h;simp only[List.cons.injEq]at he;obtain⟨rfl,_⟩:=he;exact k
 have hl:rs.length=(TJ rv).length:=AM _ Ic;have Gr:AJ (G.mB ms f vs) C mu (TJ rv++E) H {tmps:=(rs++a.tmps.toList).toArray,defers:=a.defers} w:=Ai.frame (by simpa using Bj Ic Ai.env) rfl;refine PK (G:=G.mB ms f vs) hu cA rfl Gr d2 λa' w' ha hs hx=>?_;have dQ:=hs.env;rw[ha]at dQ;have h1:Ac C w' (TJ rv) mu rs:=by have:=dQ.take (TJ rv).length;simpa[<-hl]using this
 have h2:Ac C w' E mu a.tmps.toList:=by have:=dQ.drop (TJ rv).length;simpa[<-hl]using this
 have JW:AJ (G.mB ms f vs) C mu E H {tmps:=a.tmps,defers:=a'.defers} w':=hs.frame h2 rfl;obtain⟨cap,Kv⟩:=ZF;have EA:Ac C w' cap mu vs:=(hx.BG g cap vs [] Kv).1;show LeavesInM (fw none) n G.P fn tmps R ({target:=.fn (.func f) vs.toArray,args:=#[]}::(ms.map mark++G.ds)) u w';unfold LeavesInM;refine⟨hu,.inr ⟨λh=>(by cases h),_,_,f,vs.toArray,rfl,sU hgf w',λ_ _=>trivial,((hd cap vs Kv).out (n-1) (G.mB ms f vs) C mu _ w' vs u rfl JW EA (dS w' h1)).mono λe u' O6 hp=>?_⟩⟩;obtain⟨v,E',H',C',mu',rfl,UI,hk,DW⟩:=hp;obtain⟨xX,e1,e2⟩:=DW.defers;simp only[UI];have e3:B2 C' O6 G.fresh mu' H' (ms.map (λD=>(D,Gj))++G.Lf):=e2.less;have BU:AJ G C' mu' E' H' {tmps:=a.tmps,defers:=ms.map mark++G.ds} O6:=⟨DW.c0,DW.c1,DW.lt,DW.heap,DW.env,⟨ms,rfl,e3⟩,⟨DW.Ax.os,DW.Ax.tape,DW.Ax.output,DW.Ax.size,DW.Ax.block⟩,DW.Dv⟩;rw[show ms.map mark++G.ds=ms.map mark by simp[Y4]];exact Iw Y4 ms (by exact ht) BU e3 λa' w' ha hs=>vU _ _ _ _ _ _ hk ha hs
def V9(P:Program)(T:List TY)(rs:List ResultVar)(R:AV->Prop)(f:FuncId)(g:Nat)(rv:Option AV)(E:List AV)(H:List HO):Prop:=
 Dr H g λob=>match ob with|.ghost cap _ _=>Oi P f cap rv E H (Ot T rs R)|_=>False
theorem Au.JM{c:Code}{args:List AV}{R:AV->Prop}(hf:P.funcs[f]?=some fn)(hb:fn.body=some c)(hT:CY P T)(hg:Cp P f=true)
  (h:EN fn.ntmps args λE=>Jj P c E [] (Ot T fn.results.toList R) (λe E H=>match e with|.ret=>Ot T fn.results.toList R E H|_=>False)
   (λf g _ E H=>V9 P T fn.results.toList R f g none E H) (λf g _ e E H=>match e with|.ret=>V9 P T fn.results.toList R f g none E H|.panic x=>V9 P T fn.results.toList R f g (some x) E H|_=>False)):Au P f args R:=by
 refine⟨hg,λC w vs AA hr=>(callsIn_wide (n:=0)).1 (DE (F:=Fence.wide) (n:=0) hf hb trivial ?_ rfl)⟩;unfold EN at h;rw[Ev,Dl]at h;let G:Cx:={P:=P,C0:=C,M0:=λ_=>False,W0:=w,lL:=⟨AA,λ_ _ _ h=>h⟩}
 have Ai:St G (args++A9 (fn.ntmps-args.length) (.raw undef)) [] {tmps:=vs.toArray++A2 (fn.ntmps-vs.toArray.size) undef,defers:=[]} w:=by refine⟨C,Mu.none,λ_ _ h=>h,λ_ _ h=>.inl h,AA.lt,US _ _ _,?_,⟨[],rfl,S4 _ _ _ _⟩,⟨rfl,rfl,rfl,GH _,λ_ _ _=>rfl⟩,De _,λ_ _ h=>absurd h (Ix _)⟩;have hl:=AM _ hr;have:=Bj hr (CG (C:=C) (w:=w) (mu:=Mu.none) (fn.ntmps-args.length));simpa[hl]using this
 let RR:Ending->World->Prop:=λe w'=>∃r v',e=.returned v'/\R r/\Below w.heap.size w w'/\Aj (Mz C w.heap.size w'.heap.size) w' r Mu.none v'
 have Zjv:∀tmps E H C1 Qk a w',Ot T fn.results.toList R E H->a.tmps=tmps->AJ G C1 Qk E H a w'->∃v,(results fn tmps).run G.P w'=.ok v w'/\RR (.returned v) w':=by intro tmps E H C1 Qk a w' hk ha hs;obtain⟨r,v,h1,h2,h3⟩:=Zal (G:=G) hT hs (λ_ h=>h) hk;rw[ha]at h2;exact⟨v,h2,r,v,rfl,h1,⟨hs.Ax.os,hs.Ax.tape,hs.Ax.output,hs.Ax.size,λk hk=>hs.Ax.block k hk (λh=>h)⟩,h3⟩
 have fin:∀E H a w',Ot T fn.results.toList R E H->St G E H a w'->LeavesInM (fw none) 0 P fn a.tmps RR a.defers .returning w':=by rintro E H a w' hk ⟨C',mu',Ai⟩;obtain⟨ms,d1,d2⟩:=Ai.defers;rw[show a.defers=ms.map mark by simpa[G]using d1];exact Iw (G:=G) rfl ms rfl Ai d2 λa' O6 ha JW=>Zjv _ _ _ _ _ _ _ hk ha JW
 have Zcb:∀{ms f vs g rv u}{C1:Af}{Qk:Mu}{E H a w'},u≠.run->Cp P f=true->gh g vs H->V9 P T fn.results.toList R f g rv E H->AJ (G.mB ms f vs) C1 Qk E H a w'->XW C1 w' Qk u rv->LeavesInM (fw none) 0 P fn a.tmps RR a.defers u w':=by intro ms f vs g rv u C1 Qk E H a w' hu hgf ZF hk Ai yC;refine cK (G:=G) rfl rfl hu hgf Ai yC ZF (K:=Ot T fn.results.toList R) (λcap CJ Kv=>?_) rfl (λE H C mu a w hk ha hs=>Zjv _ _ _ _ _ _ _ hk ha hs);unfold V9 at hk;replace hk:=Bf.1 hk;obtain⟨ob,BR,hk⟩:=hk;rw[Kv]at BR;simp only[A4.injEq]at BR;subst BR;exact hk
 refine BX (h.out 0 G _ w rfl rfl Ai) λe a w' q=>?_;rcases q with q|⟨ms,f',CJ,g,hgf,q⟩
 ·cases e with
  |normal|ret=>obtain⟨E,H,h1,h2⟩:=q;exact fin E H a w' h1 h2
  |exit id=>obtain⟨E,H,h1,h2⟩:=q;exact h1.elim
  |panic ch=>obtain⟨x,v,E,H,C,mu,_,h1,_⟩:=q;exact h1.elim
  |goto l|outgrown=>exact q.elim
 cases e with
 |normal|ret=>obtain⟨E,H,⟨h0,h1⟩,C1,Qk,h2⟩:=q;exact Zcb (by simp) hgf h0 h1 h2 rfl
 |exit id=>obtain⟨E,H,h1,h2⟩:=q;exact h1.2.elim
 |panic ch=>obtain⟨x,v,E,H,C1,Qk,rfl,⟨h0,h1⟩,h2,h3⟩:=q;exact Zcb (rv:=some x) (by simp) hgf h0 h1 h2 ⟨v,rfl,h3⟩
 |goto l|outgrown=>exact q.elim
end
section
variable {E:List AV}{H:List HO}{T:List TY}{P:Program}{K:KK}{X:XX}
theorem Aa.s_reg(hT:CY P T)(h:TI P T ops.toList ops.toList E H K X):Aa P (.region id ops false) E H K X:=
 Ay hT (.region id ops false) (by unfold nD;exact h)
theorem Aa.s_cond{c:Operand}(h:DF E c λv=>match v with
  |.lit t=>(match t with|true=>Aa P x E H K X|false=>Aa P y E H K X)
  |.bool t=>(t=true->Aa P x E H K X)/\(t=false->Aa P y E H K X)
  |_=>False):Aa P (.cond c x y) E H K X:=⟨λn G a w hP Ai=>by
  rw[Ae]at h;have UH:=Ai;obtain⟨C,mu,Dx⟩:=UH;have hr:=Bv Dx.env c;split at h
  ·rename_i t hb;rw[hb]at hr;have hv:=B5 hr;cases t with
   |true=>exact NY hv (h.out n G a w hP Ai)
   |false=>exact Ma hv (h.out n G a w hP Ai)
  ·rename_i t hb;rw[hb]at hr;have hv:=BY hr;exact L9 hv (λht=>(h.1 ht).out n G a w hP Ai) (λht=>(h.2 ht).out n G a w hP Ai)
  exact h.elim⟩
theorem Aa.Zdw{b:Code}(h:Aa P b E H K λe E H=>match e with
  |.exit i=>(match C4 i id with|true=>K E H|false=>X (.exit i) E H)
  |.ret=>X .ret E H
  |.panic x=>X (.panic x) E H):Aa P (.block id b) E H K X:=⟨λn G a w hP Ai=>by
  refine Wj (BX (h.out n G a w hP Ai) λe a w q=>?_);cases e with
  |normal=>exact q
  |exit i=>
   obtain⟨E',H',h1,h2⟩:=q;simp only[Exit.inBlock];simp only at h1;split at h1;·rename_i hb;rw[if_pos (AZ hb)];exact⟨E',H',h1,h2⟩
   rename_i hb;rw[if_neg (E3 hb)];exact⟨E',H',h1,h2⟩
  |ret|panic ch|goto l=>exact q
  |outgrown=>exact q⟩
theorem Aa.Zdt{b:Code}(h:Aa P b E H K X):Aa P (.scope b) E H K X:=⟨λn G a w hP Ai=>Wi (λl a w q=>q) (h.out n G a w hP Ai)⟩
theorem Aa.iL(h:K E H):Aa P .skip E H K X:=⟨λn G a w hP Ai=>Vy (wpIn_skip ⟨E,H,h,Ai⟩)⟩
theorem Aa.Zdv(h:K E H):Aa P (.label l) E H K X:=⟨λn G a w hP Ai=>Vy (wpIn_label ⟨E,H,h,Ai⟩)⟩
theorem Aa.s_exit(h:X (.exit id) E H):Aa P (.exit id) E H K X:=⟨λn G a w hP Ai=>Vy (wpIn_exit ⟨E,H,h,Ai⟩)⟩
theorem Aa.Zjr(h:X .ret E H):Aa P .ret E H K X:=⟨λn G a w hP Ai=>Vy (wpIn_ret ⟨E,H,h,Ai⟩)⟩
end
section
variable {G:Cx}{C C':Af}{w w':World}{mu mu':Mu}{H H0:List HO}{E:List AV}{a:Act}{T:List TY}{P:Program}
def Co:List Bool->List AV->List Value->List AV
 |true::m,_::cs,v::vs=>.raw v::Co m cs vs
 |false::m,c::cs,_::vs=>c::Co m cs vs
 |_,_,_=>[]
def back:List Bool->List AV->List AV->List AV
 |true::m,_::GL,c::cs=>c::back m GL cs
 |false::m,c1::GL,_::cs=>c1::back m GL cs
 |_,_,_=>[]
def Dg:Nat->List AV->List HO
 |0,cs=>[.cells cs]
 |l+1,cs=>.dead::Dg l cs
theorem Rt:∀{m:List Bool}{cs:List AV}{vs:List Value},m.length=cs.length->Ac C w cs mu vs->Ac C w (Co m cs vs) mu vs
 |[],[],_,_,h=>by unfold Ac at h;subst h;unfold Co Ac;rfl
 |[],_::_,_,hm,_|_::_,[],_,hm,_=>by cases hm
 |b::m,c::cs,_,hm,h=>by
  unfold Ac at h;obtain⟨v,CJ,rfl,h1,h2⟩:=h;cases b with
  |true=>unfold Co Ac;exact⟨v,CJ,rfl,by unfold Aj;rfl,Rt (by simpa using hm) h2⟩
  |false=>unfold Co Ac;exact⟨v,CJ,rfl,h1,Rt (by simpa using hm) h2⟩
theorem Vp(hx:Ext C C' w w')(hle:AU mu mu'):∀{m:List Bool}{GL cs:List AV}{vs us:List Value},m.length=cs.length->GL.length=cs.length->Ac C w cs mu vs->Ac C' w' (Co m GL vs) mu' us->Ac C' w' (back m GL cs) mu' us
 |[],[],[],_,us,_,_,h,h'=>by unfold Ac at h;subst h;unfold Co Ac at h';subst h';unfold back Ac;rfl
 |b::m,c1::GL,c::cs,_,us,hm,hl,h,h'=>by
  unfold Ac at h;obtain⟨v,CJ,rfl,h1,h2⟩:=h;cases b with
  |true=>
   unfold Co Ac at h';obtain⟨u,Tf,rfl,k1,k2⟩:=h';unfold Aj at k1;subst k1;unfold back Ac;exact⟨_,Tf,rfl,Aj.mono hx _ hle h1,Vp hx hle (by simpa using hm) (by simpa using hl) h2 k2⟩
  |false=>
   unfold Co Ac at h';obtain⟨u,Tf,rfl,k1,k2⟩:=h';unfold back Ac;exact⟨u,Tf,rfl,k1,Vp hx hle (by simpa using hm) (by simpa using hl) h2 k2⟩
 |[],_,_::_,_,_,hm,_,_,_|_::_,_,[],_,_,hm,_,_,_=>by cases hm
 |[],_::_,[],_,_,_,hl,_,_|_::_,[],_::_,_,_,_,hl,_,_=>by cases hl
theorem bP:∀(l:Nat)(cs:List AV),(Dg l cs).length=l+1
 |0,_=>rfl
 |l+1,cs=>by simp[Dg,bP l cs]
theorem QP:∀(l:Nat)(cs:List AV)(i:Nat),Bi (Dg l cs) i=true->i=l
 |0,cs,0,_=>rfl
 |0,cs,i+1,h=>by obtain⟨ob,h1,_⟩:=Cq.1 h;simp[Dg]at h1
 |l+1,cs,0,h=>by obtain⟨ob,h1,h2⟩:=Cq.1 h;simp[Dg]at h1;subst h1;cases h2
 |l+1,cs,i+1,h=>by obtain⟨ob,h1,h2⟩:=Cq.1 h;rw[QP l cs i (Cq.2 ⟨ob,by simpa[Dg]using h1,h2⟩)]
theorem T0:∀(l:Nat)(cs:List AV),(Dg l cs)[l]?=some (.cells cs)
 |0,_=>rfl
 |l+1,cs=>by simpa[Dg]using T0 l cs
theorem T1:∀(l:Nat)(cs:List AV)(i:Nat),KJ (Dg l cs) i=false
 |0,cs,0|0,cs,i+1|l+1,cs,0=>rfl
 |l+1,cs,i+1=>T1 l cs i
mutual
theorem Zaa(h:∀i,KJ H0 i=false):∀x:AV,RN H0 x=x
 |.own k sz lo n|.el k sz i o=>by unfold RN;rw[h k]
 |.fn f cap|.mv f cap=>by unfold RN;rw[Jo h cap]
 |.iface t x=>by unfold RN;rw[Zaa h x]
 |.agg cs=>by unfold RN;rw[Jo h cs]
 |.tuple vs=>by unfold RN;rw[Jo h vs]
 |.any|.int _ _|.bool _|.lit _|.str _|.sl _ _|.at_ _|.raw _|.ptr _ _|.mp _ _|.om _=>by unfold RN;rfl
theorem Jo(h:∀i,KJ H0 i=false):∀xs:List AV,JJ H0 xs=xs
 |[]=>by unfold JJ;rfl
 |x::xs=>by unfold JJ;rw[Zaa h x,Jo h xs]
end
theorem Zds(h:∀i,KJ H0 i=false)(o:HO):GX H0 o=o:=by
 cases o<;>simp[GX,Jo h]
theorem AJ.Zap(Ai:AJ G C mu E H a w){cs':List AV}(hl:H[l]?=some (.cells cs))(h:∀b cur e,mu l=some (.D6 b)->w.heap[b]?=some (.cells cur e (0,0))->Ac C w cs mu cur.toList->Ac C w cs' mu cur.toList):AJ G C mu E (H.set l (.cells cs')) a w:=by
 have AA:l<H.length:=(Ap.1 hl).1;have hg:∀{k:Nat}{ob:HO},(H.set l (.cells cs'))[k]?=some ob->k≠l->H[k]?=some ob:=λ{k ob} hk Jb=>by rwa [A1 (λe=>Jb e.symm)]at hk
 have hs:∀{ob:HO},(H.set l (.cells cs'))[l]?=some ob->ob=.cells cs':=λ{ob} hk=>by rw[As AA]at hk;simpa using hk.symm
 refine⟨Ai.c0,Ai.c1,Ai.lt,⟨λi g hi=>by simpa using Ai.heap.JX i g hi,Ai.heap.fresh,Ai.heap.sep,λk hk=>?_,λk cs2 hk=>?_,λk e sz es hk=>?_,λk ks vs hk=>?_⟩,Ai.env,?_,Ai.Ax,by simpa using Ai.Dv.1,Ai.Dv.2⟩
 ·by_cases Jb:k=l;·subst Jb;cases hs hk
  exact Ai.heap.dead k (hg hk Jb)
 ·by_cases Jb:k=l;·subst Jb;have:=hs hk;simp only[HO.cells.injEq]at this;subst this;obtain⟨b,cur,e,k1,k2,k3,k4⟩:=Ai.heap.Dp k cs hl;exact⟨b,cur,e,k1,k2,h b cur e k1 k2 k3,k4⟩
  exact Ai.heap.Dp k cs2 (hg hk Jb)
 ·by_cases Jb:k=l;·subst Jb;cases hs hk
  exact Ai.heap.Dk k e sz es (hg hk Jb)
 ·by_cases Jb:k=l;·subst Jb;cases hs hk
  exact Ai.heap.maps k ks vs (hg hk Jb)
 obtain⟨ms,d1,d2⟩:=Ai.defers;have hg2:∀{k:Nat}{ob:HO},(H.set l (.cells cs'))[k]?=some ob->ob.real=false->H[k]?=some ob:=λ{k ob} hk dI=>by by_cases Jb:k=l;subst Jb;rw[hs hk]at dI;cases dI;exact hg hk Jb
 exact⟨ms,d1,⟨λk cs' vs gm hk=>d2.BG k cs' vs gm (hg2 hk rfl),λk I hk=>by obtain⟨h0,Sw,Sr,q1,q2,q3,q4⟩:=d2.Ho k I (hg2 hk rfl);exact⟨h0,Sw,Sr,q1,q2,q3,λk' cs' vs gm KR=>q4 k' cs' vs gm (hg2 KR rfl)⟩,d2.marks,d2.nd,λk k' cs' vs gm cs2 vs2 gm2 hk KR=>d2.sep k k' cs' vs gm cs2 vs2 gm2 (hg2 hk rfl) (hg2 KR rfl)⟩⟩
theorem WS{l:Nat}{cs:List AV}{F:List HO}(hw:AR F cs=true):∀{H:List HO}(l:Nat),H[l]?=some (.cells cs)->Eh F (Dg l cs) H True
 |[],l,h=>by simp at h
 |o::r,0,h=>by simp at h;subst h;unfold Dg Eh;exact⟨rfl,hw,by unfold Eh;trivial⟩
 |o::r,l+1,h=>by unfold Dg Eh;exact WS (l:=l) hw l (by simpa using h)
theorem Zbv{args:List AV}(m:List Bool){R X':List Value->AV->List HO->Prop}{Tc:List Value}(hl:H[l]?=some (.cells cs))(hm:m.length=cs.length)
  (h:∀vs:List Value,vs.length=cs.length->Bq P f args (Dg l (Co m cs vs)) (R vs) (X' vs))
  (hw:∀c,AR (Dg l c) args=true) (hwc:∀vs:List Value,vs.length=cs.length->AR (Dg l (Co m cs vs)) (Co m cs vs)=true) (hP:G.P=P) (Ai:AJ G C mu E H a w) (hr:Ac C w args mu Tc):
  Calls P f Tc.toArray w λe w'=>∃(vs:List Value) (r:AV) (v:Value) (H1:List HO) (C':Af),vs.length=cs.length/\((e=.returned v/\R vs r H1)\/(e=.panicked [{v:=v,recovered:=false}]/\X' vs r H1))/\Aj C' w' r mu v/\
   ∀GL,H1=Dg l (Co m GL vs)->GL.length=cs.length->AJ G C' mu E (H.set l (.cells (back m GL cs))) a w':=by
 obtain⟨b,cur,e0,hb,FG,Y6,Y0⟩:=Ai.heap.Dp l cs hl;have hlen:cur.toList.length=cs.length:=AM _ Y6;have AA:l<H.length:=(Ap.1 hl).1;have Gr:AJ G C mu E (H.set l (.cells (Co m cs cur.toList))) a w:=Ai.Zap hl λb' Zol e' k1 k2 k3=>by rw[hb]at k1;simp only[A4.injEq,GO.D6.injEq]at k1;subst k1;rw[FG]at k2;simp only[A4.injEq,Obj.cells.injEq]at k2;obtain⟨rfl,_⟩:=k2;exact Rt hm Y6
 have hgl:(H.set l (.cells (Co m cs cur.toList)))[l]?=some (.cells (Co m cs cur.toList)):=by rw[As AA]
 have hh:Eh (Dg l (Co m cs cur.toList)) (Dg l (Co m cs cur.toList)) (H.set l (.cells (Co m cs cur.toList))) True:=WS (l:=l) (hwc _ hlen) l hgl;have hct:=h cur.toList hlen;refine(hct.out C (mu.only (Dg l (Co m cs cur.toList))) w Tc Ai.qR (TZ Gr hh) (CM args (hw _) hr)).mono λe w' hp=>?_;obtain⟨r,v,H1,C',mu',kU,Ks,vK,F4,ZfG,Of,Xs⟩:=hp;have vV:Ext C C' w w':=Ext.of_block (Ks.sub) λb o hc=>Ks.same.block b ⟨Ai.lt b o hc,λl g hl hg=>(Ai.heap.fresh l g b (CZ hl).2 hg).2.2 o hc⟩;have Q3:Bi (Dg l (Co m cs cur.toList)) l=true:=Cq.2 ⟨_,T0 _ _,rfl⟩
 have Znk:mu.mix mu' (Dg l (Co m cs cur.toList))=mu:=funext λi=>by
  cases MJ:Bi (Dg l (Co m cs cur.toList)) i with
  |false=>exact Hk MJ
  |true=>
   rw[Hl MJ];have:=QP _ _ _ MJ;subst this;rw[hb];exact Ks.Dv i b (by rw[Ig MJ];exact hb)
 have UO:l<H1.length:=by rw[ZfG,bP];omega
 obtain⟨m1,m2⟩:=merged (H':=H.set l H1[l]) Gr hh Ks vK ZfG Of Xs (by simp)
  (λi hi=>by
   have:=QP _ _ _ hi
   subst this
   rw[As AA,C2 UO])
  (λi hi=>by
   have BK:¬l=i:=λe=>by subst e;rw[Q3]at hi;cases hi
   rw[A1 BK,A1 BK]
   cases H[i]? with
   |none=>rfl
   |some o=>simp[Zds (T1 l _)])
 rw[Znk]at m1 m2;rw[Jo (T1 l _)]at m1;refine⟨cur.toList,r,v,H1,C',hlen,kU,Aj.mono (Ext.refl _ _) _ m2 F4,λGL lI Qm=>?_⟩;have e1:H1[l]=.cells (Co m GL cur.toList):=by have:=T0 l (Co m GL cur.toList);rw[<-lI,C2 UO]at this;exact A4.inj this
 rw[e1]at m1;have h3:=m1.Zap (l:=l) (cs:=Co m GL cur.toList) (cs':=back m GL cs) (As AA) λb' Zol e' k1 k2 k3=>Vp vV (AU.refl _) hm Qm Y6 k3;rwa [List.set_set]at h3
theorem Ah.bV{args:List AV}(m:List Bool){R X':List Value->AV->List HO->Prop}{K:AV->KK}{X:XX}(hl:H[l]?=some (.cells cs))(hm:m.length=cs.length)
  (h:∀vs:List Value,vs.length=cs.length->Bq P f args (Dg l (Co m cs vs)) (R vs) (X' vs))
  (hw:∀c,AR (Dg l c) args=true) (hwc:∀vs:List Value,vs.length=cs.length->AR (Dg l (Co m cs vs)) (Co m cs vs)=true)
  (hk:∀(vs:List Value) r H1,vs.length=cs.length->R vs r H1->∃GL,H1=Dg l (Co m GL vs)/\GL.length=cs.length/\Dn H l (.cells (back m GL cs)) λH'=>K r E H')
  (hx:∀(vs:List Value) r H1,vs.length=cs.length->X' vs r H1->∃GL,H1=Dg l (Co m GL vs)/\GL.length=cs.length/\Dn H l (.cells (back m GL cs)) λH'=>X (.panic r) E H'):Ah P f args E H K X:=by
 refine⟨(h (cs.map λ_=>undef) (by simp)).D7,λG C mu a w Tc hP Ai hr=>(Zbv m hl hm h hw hwc hP Ai hr).mono λe w' hp=>?_⟩;obtain⟨vs,r,v,H1,C',hlen,kU,F4,key⟩:=hp;rcases kU with⟨rfl,hR⟩|⟨rfl,hR⟩;obtain⟨GL,h1,h2,h3⟩:=hk _ r H1 hlen hR;rw[AY]at h3;exact .inl ⟨r,v,_,_,C',_,rfl,h3,key GL h1 h2,F4⟩;obtain⟨GL,h1,h2,h3⟩:=hx _ r H1 hlen hR;rw[AY]at h3;exact .inr ⟨r,v,_,_,C',_,rfl,h3,key GL h1 h2,F4⟩
theorem XR:∀{m:List Bool}{cs:List AV},m.length=cs.length->back m cs cs=cs
 |[],[],_=>rfl
 |b::m,c::cs,h=>by cases b<;>simp[back,XR (m:=m) (cs:=cs) (by simpa using h)]
theorem gB.bV{args:List AV}(m:List Bool){r0:AV}(hm:m.length=cs.length)
  (h:∀vs:List Value,vs.length=cs.length->Bq P f args (Dg l (Co m cs vs)) (λr H1=>r=r0/\H1=Dg l (Co m cs vs)) (λ_ _=>False))
  (hw:∀c,AR (Dg l c) args=true) (hwc:∀vs:List Value,vs.length=cs.length->AR (Dg l (Co m cs vs)) (Co m cs vs)=true):gB P f l cs args r0:=by
 refine⟨(h (cs.map λ_=>undef) (by simp)).D7,λG C mu E H a w us hP Ai hl hr=>(Zbv m hl hm h hw hwc hP Ai hr).mono λe w' hp=>?_⟩;obtain⟨vs,r,v,H1,C',hlen,kU,F4,key⟩:=hp;rcases kU with⟨rfl,rfl,hH⟩|⟨_,h⟩
 ·have:=key cs hH rfl;rw[XR hm]at this;have e:H.set l (.cells cs)=H:=by refine List.ext_getElem? λi=>?_;by_cases hi:l=i;subst hi;rw[As (Ap.1 hl).1,hl];rw[A1 hi]
  rw[e]at this;exact⟨v,C',rfl,this,F4⟩
 exact h.elim
theorem Ah.look{as:List AV}{v:AV}{K:AV->KK}{X:XX}(h:gB P f l cs as v)(hl:H[l]?=some (.cells cs))(hk:K v E H):Ah P f as E H K X:=
 ⟨h.D7,λG C mu a w vs hP Ai hr=>(h.out G C mu E H a w vs hP Ai hl hr).mono λe w' ⟨u,C',h1,h2,h3⟩=>.inl ⟨v,u,E,H,C',mu,h1,hk,h2,h3⟩⟩
end
end Go.Av
namespace Go.Av
variable {id l n:Nat}{x:Operand}{v:Value}{Q:Prop}{t tw eb:TypeId}{Kw:KK}{fr:Nat->Prop}{ms:List Nat}{E0 xs ys:List AV}{us:List Value}{f:FuncId}{fn:Func}{c:Code}{R:AV->Prop}
inductive OT where
 |done
 |none
 |one (j:Nat) (t r:OT)
def OT.isNone:OT->Bool
 |.none=>true
 |_=>false
section
variable {G:Cx}{C:Af}{w w':World}{mu:Mu}{H:List HO}{E:List AV}{a:Act}{T:List TY}{P:Program}{ops:Array Oper}{K:KK}{X:XX}
def okT(ops:Array Oper):OT->Nat->Array Bool->List Nat->Bool
 |.done,_,listed,rs=>rs.isEmpty&&(Ao .any ops listed).isEmpty
 |.none,_,_,rs=>rs.isEmpty
 |.one j t r,f+1,listed,i::rs=>C4 i j&&!t.isNone&&okT ops t f (listed.setIfInBounds j true) (Ao .any ops (listed.setIfInBounds j true))&&okT ops r (f+1) listed rs
 |.one _ _ _,_,_,_=>false
def qO(ops:Array Oper)(t:OT):Bool:=!t.isNone&&okT ops t ops.size (A2 ops.size false) (Ao .any ops (A2 ops.size false))
def enT(P:Program)(T:List TY)(ops:List Oper)(K:KK)(X:XX):OT->List AV->List HO->Prop
 |.done,E,H=>K E H
 |.none,_,_=>True
 |.one j t r,E,H=>(∃o Kw,ops[j]?=some o/\FR P T ops o E H Kw X/\∀E' H',Kw E' H'->enT P T ops K X t E' H')/\enT P T ops K X r E H
structure EnF(P:Program)(T:List TY)(ops:List Oper)(K:KK)(X:XX)(t:OT)(E:List AV)(H:List HO):Prop where
 out:enT P T ops K X t E H
def en1(P:Program)(T:List TY)(ops:List Oper)(K:KK)(X:XX)(t:OT)(E:List AV)(H:List HO):Prop:=
 match t with
 |.done=>K E H
 |.none=>True
 |.one j t r=>(Dr ops j λo=>FR P T ops o E H (λE' H'=>EnF P T ops K X t E' H') X)/\EnF P T ops K X r E H
theorem EnF.step{LP:List Oper}{t:OT}(h:en1 P T LP K X t E H):EnF P T LP K X t E H:=by
 cases t with
 |done|none=>exact⟨h⟩
 |one j t r=>
  obtain⟨h1,h2⟩:=h;replace h1:=Bf.1 h1;obtain⟨o,ho,h1⟩:=h1;exact⟨⟨o,_,ho,h1,λ_ _ h=>h.out⟩,h2.out⟩
def Vu:Nat->List Nat
 |0=>[]
 |n+1=>n::Vu n
theorem Vt:∀{n i:Nat},i<n->DO (Vu n) i=true
 |n+1,i,h=>by unfold Vu DO;split;rfl;rename_i hb;have:=E3 hb;exact Vt (by omega)
theorem Zg{n0:Nat}:∀(t:OT)(f:Nat)(listed:Array Bool)(rs:List Nat)(E:List AV)(H:List HO),okT ops t f listed rs=true->enT P T ops.toList K X t E H->
  (∀i∈rs,∃f',f=f'+1/\mD P T ops n0 (Vu ops.size) K X i (Gu P T ops n0 (Vu ops.size) K X f' (listed.setIfInBounds i true)) E H)/\(t.isNone=false->rs=Ao .any ops listed->Gu P T ops n0 (Vu ops.size) K X f listed E H)
 |.done,f,listed,rs,E,H,hB,h=>by
  unfold okT at hB;simp only[Am,HS]at hB;obtain⟨rfl,hr⟩:=hB;refine⟨λi hi=>by simp at hi,λ_ _=>?_⟩;cases f with
  |zero=>unfold Gu;exact λ_=>⟨hr,h⟩
  |succ f=>unfold Gu;exact λ_=>⟨λ_=>h,λi hi=>by rw[hr]at hi;simp at hi⟩
 |.none,f,listed,rs,E,H,hB,h=>by unfold okT at hB;simp only[HS]at hB;subst hB;exact⟨λi hi=>by simp at hi,λhn=>by cases hn⟩
 |.one j t r,f,listed,rs,E,H,hB,h=>by
  cases f with
  |zero=>unfold okT at hB;cases hB
  |succ f=>
   cases rs with
   |nil=>unfold okT at hB;cases hB
   |cons i rs=>
    unfold okT at hB;simp only[Am,Bc]at hB;obtain⟨⟨⟨h1,h2⟩,h3⟩,h4⟩:=hB;obtain rfl:=AZ h1;unfold enT at h;obtain⟨k1,k2⟩:=h;obtain⟨o,Kw,ho,k1,k3⟩:=k1;(have Y1:ops[i]?=some o:=by simpa using ho);have AA:i<ops.size:=(A0.1 Y1).1;(have hd:mD P T ops n0 (Vu ops.size) K X i (Gu P T ops n0 (Vu ops.size) K X f (listed.setIfInBounds i true)) E H:=by unfold mD;rw[Y1];simp only;rw[Vt AA];simp only;exact⟨_,k1,λE1 H1 hk=>(Zg (n0:=n0) t f _ _ E1 H1 h3 (k3 _ _ hk)).2 h2 rfl⟩);have hr:=(Zg (n0:=n0) r (f+1) listed rs E H h4 k2).1;(have Dj:∀i'∈i::rs,∃f',f+1=f'+1/\mD P T ops n0 (Vu ops.size) K X i' (Gu P T ops n0 (Vu ops.size) K X f' (listed.setIfInBounds i' true)) E H:=by intro i' EW;rcases Dy.1 EW with rfl|EW;exact⟨f,rfl,hd⟩;exact hr i' EW);refine⟨Dj,λ_ Ic=>?_⟩;unfold Gu;refine λ_=>⟨λh0=>(by rw[<-Ic]at h0;cases h0),λi' EW=>?_⟩;rw[<-Ic]at EW;obtain⟨f',e,hh⟩:=Dj i' EW;cases e;exact hh
theorem Aa.NK(t:OT)(hT:CY P T)(hm:P.follows .mixedOrders=true)(hB:qO ops t=true)(h:EnF P T ops.toList K X t E H):Aa P (.region id ops true) E H K X:=by
 refine⟨λn G a w hP Ai=>?_⟩;subst hP;obtain⟨C,mu,Ai⟩:=Ai;have Dx:AJ G C mu E H a w.drew:=Ai.drew;unfold qO at hB;simp only[Am,Bc]at hB;have h1:=(Zg (n0:=H.length) t _ _ _ E H hB.2 h.out).2 hB.1 rfl;exact Yav
theorem Nb.NK(t:OT)(hT:CY P T)(hm:P.follows .mixedOrders=true)(hq:(ops.toList.all λo=>Gz o.op)=true)(hB:qO ops t=true)(h:EnF P T ops.toList K X t E H):Nb P (.region id ops true) E H K X:=by
 refine⟨λn G a w d hP MK Ai hd=>?_⟩;subst hP;obtain⟨C,mu,Ai⟩:=Ai;have Dx:AJ G C mu E H a w.drew:=Ai.drew;unfold qO at hB;simp only[Am,Bc]at hB;have h1:=(Zg (n0:=H.length) t _ _ _ E H hB.2 h.out).2 hB.1 rfl;refine wpIn_region_any hm ?_;have h2:=Hv (r:=none) (n:=n) hT _ _ _ _ a _ h1 ⟨C,mu,Dx⟩;exact KW hq _ _ hd (by simpa using h2)
end
section
variable {H:List HO}{E:List AV}{T:List TY}{P:Program}
theorem Aa.ZhQ{x y:Code}{ι:Type}(tm:ι->List AV)(hp:ι->List HO)(pre:ι->Prop){K:KK}{X:XX}(ok:∀i,pre i->AR (hp i) (tm i)=true/\CR (hp i) (hp i) True)(len:∀i,H.length<=(hp i).length)
  (h1:Aa P x E H (λE' H'=>∃j,YM E' (tm j) (Kr H' (hp j) (pre j))) X) (h2:∀j,pre j->Aa P y (tm j) (hp j) K X):Aa P x E H (λE H=>Aa P y E H K X) X:=by
 refine⟨λn G a w hP Ai=>?_⟩;have hnp:G.np<=H.length:=by obtain⟨C,mu,h⟩:=Ai;exact h.Dv.1
 refine BX (h1.out n G a w hP Ai) λe a' w' hq=>?_;cases e with
 |normal=>
  obtain⟨E',H',⟨j,hj⟩,Dx⟩:=hq;obtain⟨Zg9,hj⟩:=Ii _ _ _ hj;obtain⟨hpj,R,rfl⟩:=Kq hj;obtain⟨C,mu,Dx⟩:=Dx.le Zg9;exact⟨tm j,hp j,h2 j hpj,C,_,Dx.drop (ok j hpj).1 (ok j hpj).2 (A5 hnp (len j))⟩
 |exit id|ret|panic c|goto l|outgrown=>exact hq
end
section
variable {G:Cx}{C:Af}{w w':World}{mu:Mu}{H:List HO}{E:List AV}{a:Act}{T:List TY}{P:Program}{ops:Array Oper}{n0 i j:Nat}{o oi oj:Oper}{we:List Nat}{K:KK}{X:XX}
def exB(o:Oper):Bool:=match o.op with|.extract (.tmp _) _=>o.guard.isNone&&o.dst.isSome|_=>false
def stB(o:Oper):Bool:=match o.op with|.store _ (.tmp _) (.tmp _)=>o.guard.isNone&&o.dst.isNone|_=>false
def pvB(o:Oper):Bool:=match o.op with|.move (.tmp _)=>o.guard.isNone&&o.dst.isSome|.binOp _ _ _ _ _=>o.guard.isNone&&o.dst.isSome|_=>false
def swB(oi oj:Oper):Bool:=(mvB oi&&apB oj)||((exB oi&&stB oj)||(pvB oi&&stB oj))
def Uc(v:AV):Bool:=match v with|.own _ _ _ _=>false|.agg cs=>cs.all GC|_=>true
theorem U2:∀(cs:List AV){K:KK},cs.all GC=true->(MQ cs E H K↔K E H)
 |[],K,_=>by unfold MQ;exact Iff.rfl
 |v::r,K,h=>by simp only[JQ,Am]at h;unfold MQ;have:=U2 r (K:=K) h.2;cases v<;>first|exact this|exact absurd h.1 (by simp[GC])
theorem XA{v:AV}{K:KK}(h:Uc v=true):XB v E H K↔K E H:=by
 unfold XB;cases v<;>first|exact Iff.rfl|exact U2 _ h|cases h
def Qi(E:List AV)(o:Oper):Prop:=match o.op with|.store _ a x=>(match BL E a with|.ptr _ _=>True|.el _ _ _ _=>Uc (BL E x)=true|_=>False)|_=>True
def Zdo(E:List AV)(o:Oper)(Q:Prop):Prop:=match o.op with|.store _ a x=>DF E a λp=>(match p with|.ptr _ _=>Q|.el _ _ _ _=>DF E x λv=>(match Uc v with|true=>Q|false=>False)|_=>False)|_=>Q
theorem zS{E:List AV}{o:Oper}:Zdo E o Q↔Qi E o/\Q:=by
 unfold Zdo Qi;split
 ·rw[Ae];split;simp
  ·rw[Ae];split;·rename_i h;simp[h]
   rename_i h;simp[h]
  simp
 simp
theorem T3{ad:Operand}{K:AV->KK}{k:Nat}(hp:BL E ad=.ptr l k)(h:EJ T E H t ad x K):
  ∃H',K (.raw undef) E H'/\∀(E2:List AV),BL E2 ad=BL E ad->BL E2 x=BL E x->∀K':AV->KK,K' (.raw undef) E2 H'->EJ T E2 H t ad x K':=by
 unfold EJ at h;replace h:=Bf.1 h;obtain⟨y,hy,h⟩:=h;rw[Ae,Ae,AB,hp]at h;split at h;case h_2=>exact h.elim
 rename_i hc;simp only at h;replace h:=Bf.1 h;obtain⟨ob,BR,h⟩:=h;split at h;case h_2=>exact h.elim
 split at h;case h_2=>exact h.elim
 rename_i hb;rw[DS,AY]at h;refine⟨_,h,λE2 e1 e2 K' k=>?_⟩;unfold EJ;refine Bf.2 ⟨y,hy,?_⟩;rw[Ae,Ae,AB,e1,e2,hp];simp only[hc];refine Bf.2 ⟨_,BR,?_⟩;simp only[hb];rw[DS,AY];exact k
theorem N9{ad:Operand}{K:AV->KK}{z i k:Nat}(hp:BL E ad=.el l z i k)(h:EJ T E H t ad x K):
  ∃H',K (.raw undef) E H'/\∀(E2:List AV),BL E2 ad=BL E ad->BL E2 x=BL E x->∀K':AV->KK,K' (.raw undef) E2 H'->EJ T E2 H t ad x K':=by
 unfold EJ at h;replace h:=Bf.1 h;obtain⟨y,hy,h⟩:=h;rw[Ae,Ae,AB,hp]at h;split at h;case h_2=>exact h.elim
 rename_i hc;simp only at h;replace h:=Bf.1 h;obtain⟨ob,BR,h⟩:=h;split at h;case h_2=>exact h.elim
 split at h;case h_2=>exact h.elim
 rename_i hb;obtain⟨G5,hold,h⟩:=h;rw[AB]at h;split at h;case h_2=>exact h.elim
 rename_i OJ;split at h;·rename_i hb3;rw[AY]at h;refine⟨_,h,λE2 e1 e2 K' k=>?_⟩;unfold EJ;refine Bf.2 ⟨y,hy,?_⟩;rw[Ae,Ae,AB,e1,e2,hp];simp only[hc];refine Bf.2 ⟨_,BR,?_⟩;simp only[hb];refine⟨G5,hold,?_⟩;rw[AB];simp only[OJ,hb3];rw[AY];exact k
 rename_i hb3;rw[DS,AY]at h;refine⟨_,h,λE2 e1 e2 K' k=>?_⟩;unfold EJ;refine Bf.2 ⟨y,hy,?_⟩;rw[Ae,Ae,AB,e1,e2,hp];simp only[hc];refine Bf.2 ⟨_,BR,?_⟩;simp only[hb];refine⟨G5,hold,?_⟩;rw[AB];simp only[OJ,hb3];rw[DS,AY];exact k
theorem ZeK(OH:exB oi=true)(SY:stB oj=true)(p1:∀t,oi.dst=some t->t∉oj.looksAt ops)
  (h:KQ P T ops.toList n0 i oi E H λE' H'=>Qi E' oj/\FR P T ops.toList oj E' H' Kw X):Qi E oj/\FR P T ops.toList oj E H (λE1 H1=>KQ P T ops.toList n0 i oi E1 H1 Kw) X:=by
 obtain⟨kN,nG,ity,Zbg,Zbn,igd⟩:=oi;obtain⟨UB,jop,jty,uP,uR,jgd⟩:=oj;unfold exB at OH;unfold stB at SY;simp only at OH SY;cases nG<;>first|cases OH|skip
 rename_i x m;cases x<;>first|cases OH|skip
 rename_i s;cases igd<;>simp at OH;cases kN<;>simp at OH;rename_i d;cases jop<;>first|cases SY|skip
 rename_i st ad xx;cases ad<;>first|cases SY|skip
 rename_i ta;cases xx<;>first|cases SY|skip
 rename_i tx;cases jgd<;>simp at SY;subst SY;have hd:=p1 d rfl;have q1:(G1 ta)≠.tmp d:=λe=>hd (by cases e;simp[Fw,G2]);have q2:(G1 tx)≠.tmp d:=λe=>hd (by cases e;simp[Fw,G2]);have XN:∀{v:AV}{x:Operand},x≠.tmp d->BL (E.set d v) x=BL E x:=λ{v x} hx=>by have:=P7 (E:=E) (d:=some d) (x:=v) (y:=x) (λt ht he=>hx (by cases ht;exact he));simpa[B8]using this
 have ex:∀{E:List AV}{H:List HO}{K:KK},KQ P T ops.toList n0 i {dst:=some d,op:=.extract (.tmp s) m,type:=ity,pos:=Zbg,after:=Zbn,guard:=none} E H K↔∃vs v,BL E (.tmp s)=.tuple vs/\vs[m]?=some v/\SD v λv=>K (E.set d v) H:=λ{E H K}=>by
  unfold KQ Zb rK Cj;simp only[Ae,Tw,AF,B8];constructor
  ·intro h;split at h;·rename_i vs hv;replace h:=Bf.1 h;obtain⟨v,hv2,h⟩:=h;rw[AV.AS]at h;exact⟨vs,v,hv,hv2,h⟩
   exact h.elim
  intro⟨vs,v,hv,hv2,h⟩;rw[hv];refine Bf.2 ⟨v,hv2,?_⟩;rw[AV.AS];exact h
 rw[ex]at h;obtain⟨vs,v,hv,hv2,h⟩:=h;obtain⟨u,⟨h0,h1⟩,hu,_,_⟩:=Nt h;unfold Qi at h0⊢;simp only at h0⊢;rw[XN q1,XN q2]at h0;refine⟨h0,?_⟩;have wst:∀{E:List AV}{H:List HO}{K:KK},((∃l k,BL E (.tmp ta)=.ptr l k)\/∃l z i k,BL E (.tmp ta)=.el l z i k/\Uc (BL E (.tmp tx))=true)->(FR P T ops.toList {dst:=none,op:=.store st (.tmp ta) (.tmp tx),type:=jty,pos:=uP,after:=uR,guard:=none} E H K X↔EJ T E H st (.tmp ta) (.tmp tx) (λv E' H'=>SD v λv=>K E' H')):=λ{E H K} hp=>by unfold FR Zb TX;rcases hp with⟨l,k,hp⟩|⟨l,z,i,k,hp,hn⟩;simp only[Ae,hp,BV];simp only[Ae,hp,BV];exact XA hn
 generalize hp:BL E (.tmp ta)=p at h0;have hpp:(∃l k,p=.ptr l k)\/∃l z i k,p=.el l z i k/\Uc (BL E (.tmp tx))=true:=by cases p<;>first|exact .inl ⟨_,_,rfl⟩|exact .inr ⟨_,_,_,_,rfl,h0⟩|exact h0.elim
 rw[wst (by rw[XN q1,XN q2,hp];exact hpp)]at h1;rw[wst (by rw[hp];exact hpp)];obtain⟨H',h2,h3⟩:∃H',SD (.raw undef) (λv=>Kw (E.set d u) H')/\∀(E2:List AV),BL E2 (.tmp ta)=BL (E.set d u) (.tmp ta)->BL E2 (.tmp tx)=BL (E.set d u) (.tmp tx)->∀K':AV->KK,K' (.raw undef) E2 H'->EJ T E2 H st (.tmp ta) (.tmp tx) K':=by rcases hpp with⟨l,k,rfl⟩|⟨l,z,i,k,rfl,_⟩;exact T3 (by rw[XN q1];exact hp) h1;exact N9 (by rw[XN q1];exact hp) h1
 refine h3 E (XN q1).symm (XN q2).symm _ ?_;unfold SD at h2⊢;simp only at h2⊢;rw[ex];exact⟨vs,v,hv,hv2,hu _ h2⟩
theorem ZdE(OH:pvB oi=true)(SY:stB oj=true)(p1:∀t,oi.dst=some t->t∉oj.looksAt ops)
  (h:KQ P T ops.toList n0 i oi E H λE' H'=>Qi E' oj/\FR P T ops.toList oj E' H' Kw X):Qi E oj/\FR P T ops.toList oj E H (λE1 H1=>KQ P T ops.toList n0 i oi E1 H1 Kw) X:=by
 obtain⟨kN,nG,ity,Zbg,Zbn,igd⟩:=oi;obtain⟨UB,jop,jty,uP,uR,jgd⟩:=oj;unfold pvB at OH;unfold stB at SY;simp only at OH SY
 obtain⟨hg,hdd⟩:igd=none/\∃d,kN=some d:=by
  cases nG<;>first|cases OH|skip
  ·rename_i x;(cases x<;>first|cases OH|skip);cases igd<;>cases kN<;>simp at OH;exact⟨rfl,_,rfl⟩
  cases igd<;>cases kN<;>simp at OH;exact⟨rfl,_,rfl⟩
 obtain⟨d,rfl⟩:=hdd;subst hg;cases jop<;>first|cases SY|skip
 rename_i st ad xx;cases ad<;>first|cases SY|skip
 rename_i ta;cases xx<;>first|cases SY|skip
 rename_i tx;cases jgd<;>simp at SY;subst SY;have hd:=p1 d rfl;have q1:(G1 ta)≠.tmp d:=λe=>hd (by cases e;simp[Fw,G2]);have q2:(G1 tx)≠.tmp d:=λe=>hd (by cases e;simp[Fw,G2]);have XN:∀{v:AV}{x:Operand},x≠.tmp d->BL (E.set d v) x=BL E x:=λ{v x} hx=>by have:=P7 (E:=E) (d:=some d) (x:=v) (y:=x) (λt ht he=>hx (by cases ht;exact he));simpa[B8]using this
 have pv:∀{E:List AV}{H:List HO}{K:KK},KQ P T ops.toList n0 i {dst:=some d,op:=nG,type:=ity,pos:=Zbg,after:=Zbn,guard:=none} E H K↔Cj T E H nG λv=>SD v λv=>K (E.set d v) H:=λ{E H K}=>by
  cases nG<;>first|cases OH|skip
  all_goals
   unfold KQ Zb rK Cj;simp only[Ae,Tw,AF,B8]
 have noH:∀{E:List AV}{H H':List HO}{K:AV->Prop},Cj T E H nG K->Cj T E H' nG K:=λ{E H H' K} h=>by
  cases nG<;>first|cases OH|skip
  all_goals exact h
 rw[pv]at h;obtain⟨r,hr,dS⟩:=Iv h;obtain⟨u,⟨h0,h1⟩,hu,_,_⟩:=Nt hr;unfold Qi at h0⊢;simp only at h0⊢;rw[XN q1,XN q2]at h0;refine⟨h0,?_⟩;have wst:∀{E:List AV}{H:List HO}{K:KK},((∃l k,BL E (.tmp ta)=.ptr l k)\/∃l z i k,BL E (.tmp ta)=.el l z i k/\Uc (BL E (.tmp tx))=true)->(FR P T ops.toList {dst:=none,op:=.store st (.tmp ta) (.tmp tx),type:=jty,pos:=uP,after:=uR,guard:=none} E H K X↔EJ T E H st (.tmp ta) (.tmp tx) (λv E' H'=>SD v λv=>K E' H')):=λ{E H K} hp=>by unfold FR Zb TX;rcases hp with⟨l,k,hp⟩|⟨l,z,i,k,hp,hn⟩;simp only[Ae,hp,BV];simp only[Ae,hp,BV];exact XA hn
 generalize hp:BL E (.tmp ta)=p at h0;have hpp:(∃l k,p=.ptr l k)\/∃l z i k,p=.el l z i k/\Uc (BL E (.tmp tx))=true:=by cases p<;>first|exact .inl ⟨_,_,rfl⟩|exact .inr ⟨_,_,_,_,rfl,h0⟩|exact h0.elim
 rw[wst (by rw[XN q1,XN q2,hp];exact hpp)]at h1;rw[wst (by rw[hp];exact hpp)];obtain⟨H',h2,h3⟩:∃H',SD (.raw undef) (λv=>Kw (E.set d u) H')/\∀(E2:List AV),BL E2 (.tmp ta)=BL (E.set d u) (.tmp ta)->BL E2 (.tmp tx)=BL (E.set d u) (.tmp tx)->∀K':AV->KK,K' (.raw undef) E2 H'->EJ T E2 H st (.tmp ta) (.tmp tx) K':=by rcases hpp with⟨l,k,rfl⟩|⟨l,z,i,k,rfl,_⟩;exact T3 (by rw[XN q1];exact hp) h1;exact N9 (by rw[XN q1];exact hp) h1
 refine h3 E (XN q1).symm (XN q2).symm _ ?_;unfold SD at h2⊢;simp only at h2⊢;rw[pv];exact noH (H:=H) (dS E H (λ_ _=>rfl) (λ_ _ _ _ _ h=>h) _ (hu _ h2))
theorem Zdn(hm:swB oi oj=true)(p1:∀t,oi.dst=some t->t∉oj.looksAt ops)(p2:∀t,oi.dst=some t->oj.dst≠some t)(p3:∀t,oj.dst=some t->t∉oi.looksAt ops)
  (h:KQ P T ops.toList n0 i oi E H λE' H'=>Qi E' oj/\FR P T ops.toList oj E' H' Kw X):Qi E oj/\FR P T ops.toList oj E H (λE1 H1=>KQ P T ops.toList n0 i oi E1 H1 Kw) X:=by
 unfold swB at hm;rcases Bg _ _▸hm with hm|hm
 ·rw[Am]at hm;refine⟨?_,oS hm.1 hm.2 p1 p2 p3 (ID h λ_ _ k=>k.2)⟩;have h2:=hm.2;unfold apB at h2;unfold Qi;split;·rename_i YZ;rw[YZ]at h2;simp at h2
  trivial
 rcases Bg _ _▸hm with hm|hm<;>rw[Am]at hm;exact ZeK hm.1 hm.2 p1 h;exact ZdE hm.1 hm.2 p1 h
def jB(P:Program)(T:List TY)(ops:List Oper)(n0:Nat)(we:List Nat):Nat->List Oper->List AV->List HO->KK->XX->Prop
 |_,[],E,H,K,_=>K E H
 |i,o::r,E,H,K,X=>match DO we i with
  |false=>KQ P T ops n0 i o E H λE H=>jB P T ops n0 we (i+1) r E H K X
  |true=>Zdo E o (Zb ops E o.guard (TX none P T E H o.op (λv E' H'=>SD v λv=>BV E' o.dst v λGp=>jB P T ops n0 we (i+1) r Gp H' K X) X)
    (BV E o.dst (.raw undef) λE'=>jB P T ops n0 we (i+1) r E' H K X))
theorem oA{ZjA:List Oper}(h:Zdo E o (FR P T ZjA o E H Kw X)):Qi E o/\FR P T ZjA o E H Kw X:=zS.1 h
def Zj(P:Program)(T:List TY)(ops:Array Oper)(n0:Nat)(we:List Nat)(K:KK)(X:XX)(j:Nat)(Kn:KK)(E:List AV)(H:List HO):Prop:=
 match ops[j]? with
 |none=>Kn E H
 |some o=>match DO we j with
  |false=>KQ P T ops.toList n0 j o E H Kn
  |true=>∃Kw:KK,Qi E o/\FR P T ops.toList o E H Kw X/\∀E H,Kw E H->Kn E H
def HQ(P:Program)(T:List TY)(ops:Array Oper)(n0:Nat)(we:List Nat)(K:KK)(X:XX):Nat->Array Bool->List AV->List HO->Prop
 |0,listed,E,H=>Sat P E H->Ao .any ops listed=[]/\K E H
 |fuel+1,listed,E,H=>Sat P E H->(Ao .any ops listed=[]->K E H)/\
  ∀i∈Ao .any ops listed,Zj P T ops n0 we K X i (HQ P T ops n0 we K X fuel (listed.setIfInBounds i true)) E H
theorem mC(hT:CY G.P T){r:Option Nat}{Kn K:KK}(h:Zj G.P T ops n0 we K X i Kn E H)(Ai:AJ G C mu E H a w):
  wpOpIn (fw r) n G.P ops (L6 G K X) i (λa w=>∃E' H',Kn E' H'/\St G E' H' a w) a w:=by
 unfold Zj at h;by_cases hwr:(∃o,ops[i]?=some o)/\DO we i=true
 ·obtain⟨⟨o,ho⟩,hm⟩:=hwr;rw[ho]at h;simp only at h;rw[hm]at h;obtain⟨Kw,_,h,hKw⟩:=h;unfold FR at h;unfold wpOpIn;rw[ho];simp only;rcases Ra Ai h with⟨hw,h⟩|⟨hw,h⟩;·rw[if_pos hw];refine Ex hT h Ai λa' w' hp=>?_;obtain⟨r,E',H',hk,C',mu',Dx⟩:=hp;obtain⟨E1,H1,k1,k2⟩:=bZ (Kn:=λE H=>Kw E H) hk Dx;exact⟨E1,H1,hKw _ _ k1,k2⟩
  rw[if_neg (by simp[hw])];rw[AF]at h;exact⟨λ_ _=>trivial,B8 E o.dst (.raw undef),H,hKw _ _ h,C,mu,Ai.frame (BF Ai.env o.dst (by unfold Aj;rfl)) (put_defers _ _ _)⟩
 unfold wpOpIn;split;·rename_i ho;rw[ho]at h;exact⟨E,H,h,C,mu,Ai⟩
 rename_i o ho;rw[ho]at h;simp only at h;split at h
 ·rcases Pd hT ho h Ai with⟨hw,h⟩|⟨hw,h⟩;·rw[if_pos hw];exact h
  rw[if_neg (by simp[hw])];exact⟨λ_ _=>trivial,h⟩
 rename_i hm;exact absurd ⟨⟨o,ho⟩,hm⟩ hwr
theorem Sp(hT:CY G.P T){r:Option Nat}{n:Nat}:∀(fuel:Nat)(listed:Array Bool)(E:List AV)(H:List HO)(a:Act)(w:World),HQ G.P T ops n0 we K X fuel listed E H->St G E H a w->wpAnyIn (fw r) n G.P .any ops (L6 G K X) fuel listed a w
 |0,listed,E,H,a,w,h,Ai=>by unfold HQ at h;obtain⟨h1,h2⟩:=h ⟨G,a,w,rfl,Ai⟩;exact⟨h1,E,H,h2,Ai⟩
 |fuel+1,listed,E,H,a,w,h,Ai=>by unfold HQ at h;obtain⟨h1,h2⟩:=h ⟨G,a,w,rfl,Ai⟩;refine⟨λh0=>⟨E,H,h1 h0,Ai⟩,λi hi=>?_⟩;obtain⟨C,mu,Ai⟩:=Ai;exact wpOpIn_mono (λa' w' ⟨E',H',k1,k2⟩=>Sp hT fuel _ E' H' a' w' k1 k2) (mC hT (h2 i hi) Ai)
theorem fW(hT:CY P T)(hi:ops[i]?=some oi)(hwi:DO we i=false){U:Nat->Bool}(hUi:U i=true)
  (hUp:∀j oj,U j=true->j≠i->ops[j]?=some oj->∃e∈oj.after,Ky .any e=true/\U e.on=true):
  ∀(fuel:Nat)(listed:Array Bool)(E:List AV)(H:List HO),(∀j,U j=true->listed.getD j false=false)->
   (∀j oj,ops[j]?=some oj->U j=false->listed.getD j true=false->(DO we j=false\/swB oi oj=true)/\oi.apart ops oj=true)->
   i∈Ao .any ops listed->KQ P T ops.toList n0 i oi E H (HQ P T ops n0 we K X fuel (listed.setIfInBounds i true))->HQ P T ops n0 we K X (fuel+1) listed E H:=by
 intro fuel
 induction fuel with
 |zero=>
  intro listed E H hU hap hr h;unfold HQ;intro hs;refine⟨λh0=>(by rw[h0]at hr;cases hr),λj hj=>?_⟩;by_cases NU:j=i;subst NU;unfold Zj;rw[hi];simp only;rw[hwi];exact h;obtain⟨Y2,oj,DP,Dj⟩:=mem_ready.1 hj
  have hUj:U j=false:=by
   cases hu:U j with
   |false=>rfl
   |true=>
    obtain⟨e,he,hb,yA⟩:=hUp j oj hu NU DP;have:=Dj e he hb;rw[hU _ yA]at this;cases this
  obtain⟨hwj,lG⟩:=hap j oj DP hUj Y2;exfalso;obtain⟨vi,obi,di,ki,ti⟩:=Ih h;have JW:Sat P (B8 E oi.dst vi) (Fu H (n0+i) obi):=Tq hT hi (ti E H ⟨λ_ _=>rfl,λ_ _ _ _ _ _ _=>rfl⟩ (λ_ _ _ _ _ h=>h) rfl _ ⟨rfl,rfl⟩) hs;unfold HQ at ki;have:=ready_mono hj NU;rw[(ki JW).1]at this;cases this
 |succ fuel ih=>
  intro listed E H hU hap hr h;unfold HQ;intro hs;refine⟨λh0=>(by rw[h0]at hr;cases hr),λj hj=>?_⟩;by_cases NU:j=i;subst NU;unfold Zj;rw[hi];simp only;rw[hwi];exact h;obtain⟨Y2,oj,DP,Dj⟩:=mem_ready.1 hj
  have hUj:U j=false:=by
   cases hu:U j with
   |false=>rfl
   |true=>
    obtain⟨e,he,hb,yA⟩:=hUp j oj hu NU DP;have:=Dj e he hb;rw[hU _ yA]at this;cases this
  obtain⟨hwj,lG⟩:=hap j oj DP hUj Y2
  have rest:∀E1 H1,KQ P T ops.toList n0 i oi E1 H1 (HQ P T ops n0 we K X fuel ((listed.setIfInBounds j true).setIfInBounds i true))->HQ P T ops n0 we K X (fuel+1) (listed.setIfInBounds j true) E1 H1:=λE1 H1 k=>by
   refine ih (listed.setIfInBounds j true) E1 H1 (λk hk=>?_) (λk ok hk hu hun=>?_) (ready_mono hr (Ne.symm NU)) k;·(have BK:j≠k:=λhe=>by subst he;rw[hUj]at hk;cases hk);rw[getD_set_ne false BK];exact hU k hk
   refine hap k ok hk hu ?_;by_cases hjk:j=k;subst hjk;exact Y2;rw[getD_set_ne true hjk]at hun;exact hun
  unfold Zj;rw[DP];simp only;cases hmw:DO we j with
  |false=>
   simp only;(have hc:=nZ (Kj:=HQ P T ops n0 we K X fuel ((listed.setIfInBounds i true).setIfInBounds j true)) hT hs hi DP (Ne.symm NU) lG h λE' H' JW k=>by unfold HQ at k;have:=(k JW).2 j (ready_mono hj NU);unfold Zj at this;rw[DP]at this;simp only at this;rw[hmw]at this;exact this);refine ID hc λE1 H1 k=>rest E1 H1 ?_;rw[C3 _ _ NU];exact k
  |true=>
   simp only;(have hmv:swB oi oj=true:=by rcases hwj with k|k;rw[hmw]at k;cases k;simpa using k);obtain⟨p1,p2,p3⟩:=Oper.apart_spec lG;obtain⟨vi,obi,di,ki,ti⟩:=Ih h;have refl:Fi ops.toList E E oi:=⟨λ_ _=>rfl,λ_ _ _ _ _ _ _=>rfl⟩;have JW:Sat P (B8 E oi.dst vi) (Fu H (n0+i) obi):=Tq hT hi (ti E H refl (λ_ _ _ _ _ h=>h) rfl _ ⟨rfl,rfl⟩) hs;unfold HQ at ki;have hd:=(ki JW).2 j (ready_mono hj NU);unfold Zj at hd;rw[DP]at hd;simp only at hd;rw[hmw]at hd;obtain⟨Kw,hw0,EV,hw2⟩:=hd;have h3:=ti E H refl (λ_ _ _ _ _ h=>h) rfl (λE' H'=>Qi E' oj/\FR P T ops.toList oj E' H' Kw X) ⟨hw0,EV⟩;obtain⟨h4,h5⟩:=Zdn hmv p1 p2 p3 h3;refine⟨_,h4,h5,λE1 H1 k=>rest E1 H1 (ID k λE2 H2 k2=>?_)⟩;rw[C3 _ _ NU];exact hw2 _ _ k2
def qI(ops:Array Oper)(we:List Nat)(listed:Array Bool)(k:Nat)(U:List Nat):Bool:=
 match ops[k]? with
 |none=>false
 |some ok=>DO U k&&(Jg ops.size).all (λj=>(!DO U j||(!listed.getD j false))&&match ops[j]? with
   |none=>true
   |some oj=>(match DO U j with
    |true=>C4 j k||oj.after.any (λe=>Ky .any e&&DO U e.on)
    |false=>listed.getD j true||((!DO we j||swB ok oj)&&ok.apart ops oj)))&&U.all λj=>decide (j<ops.size)
def cH(ops:Array Oper)(we:List Nat):Nat->Nat->Array Bool->Bool
 |0,_,listed=>(Ao .any ops listed).isEmpty
 |fuel+1,k,listed=>(match DO we k with
  |true=>(Ao .any ops listed == [k])
  |false=>(Ao .any ops listed).contains k&&qI ops we listed k (Wp ops k))&&cH ops we fuel (k+1) (listed.setIfInBounds k true)
def Zck(ops:Array Oper)(we:List Nat):Bool:=cH ops we ops.size 0 (A2 ops.size false)
theorem Rw(hT:CY P T):∀(l:List Oper)(k:Nat)(listed:Array Bool)(E:List AV)(H:List HO),(∀j,l[j]?=ops[k+j]?)->
  cH ops we l.length k listed=true->jB P T ops.toList n0 we k l E H K X->HQ P T ops n0 we K X l.length listed E H
 |[],k,listed,E,H,_,hB,h=>by unfold HQ;unfold jB at h;exact λ_=>⟨by simpa[cH]using hB,h⟩
 |o::l,k,listed,E,H,hl,hB,h=>by
  have h0:ops[k]?=some o:=by simpa using (hl 0).symm
  have CT:∀j,l[j]?=ops[k+1+j]?:=λj=>by have:=hl (j+1);simpa[Nat.add_assoc,Nat.add_comm 1 j]using this
  simp only[Be,cH,Am]at hB;obtain⟨lJ,hB2⟩:=hB;unfold jB at h;cases hw:DO we k with
  |false=>
   rw[hw]at h lJ;simp only[Am]at lJ h;obtain⟨hr,hf⟩:=lJ;unfold qI at hf;rw[h0]at hf;simp only[Am,Hx,IW]at hf;obtain⟨⟨hUk,Dj⟩,AA⟩:=hf;(have lt:∀j,DO (Wp ops k) j=true->j<ops.size:=λj hj=>by simpa using AA j (Uk hj));refine fW hT h0 hw (U:=DO (Wp ops k)) hUk (λj oj hu hjk DP=>?_) l.length listed E H (λj hu=>?_) (λj oj DP hu hun=>?_) (by simpa using hr) (ID h λE' H' h'=>Rw hT l (k+1) _ E' H' CT hB2 h');have:=(Dj j (lt j hu)).2;rw[DP]at this;simp only[hu]at this;simp only[Bg]at this;rcases this with h1|h1;exact absurd (AZ h1) hjk;obtain⟨e,he,h2⟩:=Array.any_eq_true'.1 h1;simp only[Am]at h2;exact⟨e,he,h2⟩;have:=(Dj j (lt j hu)).1;simpa[hu]using this;have hjl:=(A0.1 DP).1;have:=(Dj j hjl).2;rw[DP]at this;simp only[hu]at this;simp only[hun,Bg,Am,Bc,Bool.false_eq_true,false_or]at this;simpa using this
  |true=>
   rw[hw]at h lJ;simp only at h lJ;(have hr:Ao .any ops listed=[k]:=by simpa using lJ);unfold HQ;intro hs;refine⟨λh0=>(by rw[hr]at h0;cases h0),λj hj=>?_⟩;rw[hr]at hj;(obtain rfl:j=k:=by simpa using hj);unfold Zj;rw[h0];simp only;rw[hw];simp only;exact⟨_,(oA h).1,(oA h).2,λE1 H1 hh=>Rw hT l (j+1) _ E1 H1 CT hB2 hh⟩
theorem Aa.Zk6(we:List Nat)(hT:CY P T)(hm:P.follows .mixedOrders=true)(hB:Zck ops we=true)
  (h:jB P T ops.toList H.length we 0 ops.toList E (H++A9 ops.size .dead) K X):Aa P (.region id ops true) E H K X:=by
 refine⟨λn G a w hP Ai=>?_⟩;subst hP;obtain⟨C,mu,Ai⟩:=Ai;have Dx:AJ G C mu E H a w.drew:=Ai.drew;have dH:=Dx.pad [] ops.size;rw[bL]at dH;have h1:=Rw (ops:=ops) (n0:=H.length) (we:=we) (K:=K) (X:=X) hT ops.toList 0 (A2 ops.size false) E _ (by simp) (by simpa[Zck]using hB) h;refine Vy (wpIn_region_any hm ?_);have h2:=Sp (r:=G.rd) (n:=n) hT _ _ _ _ a _ h1 ⟨C,mu,dH⟩;simpa using h2
end
section
variable {G:Cx}{C:Af}{w w':World}{mu:Mu}{H:List HO}{E:List AV}{a:Act}{T:List TY}{P:Program}{ops:Array Oper}{K:KK}{X:XX}
theorem kJ{l:List Nat}{p q:Nat->Bool}(h:∀i,q i=true->p i=true){i:Nat}(hi:i∈l)(h1:p i=true)(h2:q i=false):(l.filter q).length<(l.filter p).length:=by
 have hle:∀l:List Nat,(l.filter q).length<=(l.filter p).length:=by
  intro l
  induction l with
  |nil=>simp
  |cons x l ih=>
   simp only[Ip];cases hq:q x with
   |true=>simp[h x hq];exact ih
   |false=>cases p x<;>simp<;>omega
 induction l with
 |nil=>cases hi
 |cons x l ih=>
  simp only[Ip];rcases Dy.1 hi with rfl|hi;rw[h1,h2];have:=hle l;simp;omega;have:=ih hi;cases hq:q x with
  |true=>simp[h x hq];exact this
  |false=>cases p x<;>simp<;>omega
def LN(ops:Array Oper)(b:Array Bool):Nat:=((Jg ops.size).filter λj=>!b.getD j true).length
theorem nK{D:Array Bool->List AV->List HO->Prop}{n0:Nat}
  (hs:∀b E H,D b E H->(Ao .any ops b=[]->K E H)/\∀i∈Ao .any ops b,∃(o:Oper) (Kw:KK),ops[i]?=some o/\FR P T ops.toList o E H Kw X/\∀E2 H2,Kw E2 H2->D (b.setIfInBounds i true) E2 H2):
  ∀(fuel:Nat)(b:Array Bool)(E:List AV)(H:List HO),LN ops b<=fuel->D b E H->Gu P T ops n0 (Vu ops.size) K X fuel b E H:=by
 have AA:∀{b:Array Bool}{i:Nat},i∈Ao .any ops b->i<ops.size/\LN ops (b.setIfInBounds i true)<LN ops b:=λ{b i} hi=>by
  obtain⟨h1,o,h2,_⟩:=mem_ready.1 hi;have AA:=(A0.1 h2).1;refine⟨AA,kJ (i:=i) (λj hj=>?_) (IW.2 AA) (by rw[h1];rfl) ?_⟩
  ·by_cases UQ:i=j;·subst UQ;rw[h1];rfl
   rw[getD_set_ne true UQ]at hj;exact hj
  have hb:i<b.size:=by by_cases hb:i<b.size;exact hb;rw[Array.getD,dif_neg hb]at h1;cases h1
  simp[Array.getD,hb]
 intro fuel
 induction fuel with
 |zero=>
  intro b E H hf hD;unfold Gu
  have hr:Ao .any ops b=[]:=by
   cases hr:Ao .any ops b with
   |nil=>rfl
   |cons i r=>have:=(AA (b:=b) (i:=i) (by rw[hr];simp)).2;omega
  exact λ_=>⟨hr,(hs b E H hD).1 hr⟩
 |succ fuel ih=>
  intro b E H hf hD;unfold Gu;refine λ_=>⟨(hs b E H hD).1,λi hi=>?_⟩;obtain⟨o,Kw,ho,h,hk⟩:=(hs b E H hD).2 i hi;obtain⟨h1,h2⟩:=AA hi;unfold mD;rw[ho];simp only;rw[Vt h1];simp only;exact⟨Kw,h,λE1 H1 q=>ih _ _ _ (by omega) (hk _ _ q)⟩
theorem Aa.graph(D:Array Bool->List AV->List HO->Prop)(hT:CY P T)(hm:P.follows .mixedOrders=true)(h0:D (A2 ops.size false) E H)
  (hs:∀b E H,D b E H->(Ao .any ops b=[]->K E H)/\∀i∈Ao .any ops b,∃(o:Oper) (Kw:KK),ops[i]?=some o/\FR P T ops.toList o E H Kw X/\∀E2 H2,Kw E2 H2->D (b.setIfInBounds i true) E2 H2):Aa P (.region id ops true) E H K X:=by
 refine⟨λn G a w hP Ai=>?_⟩;subst hP;obtain⟨C,mu,Ai⟩:=Ai;have Dx:AJ G C mu E H a w.drew:=Ai.drew;have h1:=nK (n0:=H.length) hs ops.size _ E H (by unfold LN;exact A5 (List.length_filter_le _ _) (by simp)) h0;exact Yav
def ZeE:List Bool->Nat->Bool
 |[],_=>false
 |b::_,0=>b
 |_::r,n+1=>ZeE r n
def Yj:List Bool->Nat->List Bool
 |[],_=>[]
 |_::r,0=>true::r
 |b::r,n+1=>b::Yj r n
def eqB:List Bool->List Bool->Bool
 |[],[]=>true
 |a::x,b::y=>(a == b)&&eqB x y
 |_,_=>false
theorem OP:∀{x y:List Bool},eqB x y=true->x=y
 |[],[],_=>rfl
 |a::x,b::y,h=>by unfold eqB at h;simp only[Am,beq_iff_eq]at h;rw[h.1,OP h.2]
 |[],_::_,h|_::_,[],h=>by cases h
theorem zX:∀(b:List Bool)(i:Nat),(Yj b i).toArray=b.toArray.setIfInBounds i true:=by
 intro b i
 have:Yj b i=b.set i true:=by
  induction b generalizing i with
  |nil=>rfl
  |cons x b ih=>cases i with
   |zero=>rfl
   |succ i=>simp[Yj,ih]
 rw[this];simp
def okL(ops:Array Oper)(L:List (List Bool×List Nat)):Bool:=
 (L.all λx=>(Ao .any ops x.1.toArray == x.2)&&x.2.all λi=>L.any λy=>eqB y.1 (Yj x.1 i))&&L.any λy=>eqB y.1 (A9 ops.size false)
def qJ:List (Nat×Nat×AV)->List Bool->List AV->List AV
 |[],_,E=>E
 |(i,s,v)::r,b,E=>qJ r b (match ZeE b i with|true=>E.set s v|false=>E)
def gR(P:Program)(T:List TY)(LP:List Oper)(E:List AV)(H:List HO)(fE:List Bool->List AV)(fH:List Bool->List HO)(X:XX)(b:List Bool):List Nat->Prop
 |[]=>True
 |i::r=>(Dr LP i λo=>FR P T LP o E H (λE2 H2=>E2=fE (Yj b i)/\H2=fH (Yj b i)) X)/\gR P T LP E H fE fH X b r
theorem Zb7{LP:List Oper}{fE:List Bool->List AV}{fH:List Bool->List HO}{b:List Bool}:∀{rs:List Nat},gR P T LP E H fE fH X b rs->∀i∈rs,∃o,LP[i]?=some o/\FR P T LP o E H (λE2 H2=>E2=fE (Yj b i)/\H2=fH (Yj b i)) X
 |[],_,i,hi=>by cases hi
 |j::r,h,i,hi=>by obtain⟨h1,h2⟩:=h;rcases Dy.1 hi with rfl|hi;exact Bf.1 h1;exact Zb7 h2 i hi
structure GN(P:Program)(T:List TY)(LP:List Oper)(E:List AV)(H:List HO)(fE:List Bool->List AV)(fH:List Bool->List HO)(K:KK)(X:XX)(b:List Bool)(rs:List Nat):Prop where
 out:match rs with|[]=>K E H|rs=>gR P T LP E H fE fH X b rs
def gP(P:Program)(T:List TY)(LP:List Oper)(fE:List Bool->List AV)(fH:List Bool->List HO)(K:KK)(X:XX):List (List Bool×List Nat)->Prop
 |[]=>True
 |(b,rs)::r=>GN P T LP (fE b) (fH b) fE fH K X b rs/\gP P T LP fE fH K X r
theorem Zb8{LP:List Oper}{fE:List Bool->List AV}{fH:List Bool->List HO}:∀{L:List (List Bool×List Nat)},gP P T LP fE fH K X L->∀x∈L,GN P T LP (fE x.1) (fH x.1) fE fH K X x.1 x.2
 |[],_,x,hx=>by cases hx
 |(b,rs)::r,h,x,hx=>by rcases Dy.1 hx with rfl|hx;exact h.1;exact Zb8 h.2 x hx
end
open Go.RowKit (Below)
def rA(n:Nat)(us:List Value)(ms:List Nat)(H:List HO)(Q:List AV->List HO->Prop):Prop:=
 Dr H n λob=>match ob with
  |.ghost E Tf DL=>(Tf=us/\DL=ms)/\Dn H n (.ghost [] [] []) λH'=>Q E H'
  |_=>False
def ZdC(T:List TY)(rs:List ResultVar)(n:Nat)(us:List Value)(ms:List Nat)(K:AV->KK)(E:List AV)(H:List HO):Prop:=
 aS T E H rs λvs=>rA n us ms H λE2 H2=>match vs with
  |[v]=>K v E2 H2
  |vs=>K (.tuple vs) E2 H2
section
variable {G:Cx}{C C':Af}{w w':World}{mu:Mu}{H:List HO}{E:List AV}{a:Act}{T:List TY}{P:Program}
theorem EY{x:HO}{y:HO}(h:(H++[x])[l]?=some y):(l<H.length/\H[l]?=some y)\/(l=H.length/\y=x):=by
 rw[List.getElem?_append]at h;split at h;·rename_i hl;exact .inl ⟨hl,h⟩
 rename_i hl;have h2:l-H.length=0:=by have:=(Ap.1 h).1;simp at this;omega
 rw[h2]at h;simp only[ET,A4.injEq]at h;exact .inr ⟨by omega,h.symm⟩
theorem lD(h:B0 C w fr mu H)(E0:List AV)(us:List Value)(ms:List Nat):B0 C w fr mu (H++[.ghost E0 us ms]):=by
 refine⟨λl g hl=>by have:=h.JX l g hl;simp;omega,h.fresh,h.sep,λl hl=>?_,λl cs hl=>?_,λl e sz es hl=>?_,λl ks vs hl=>?_⟩
 ·rcases EY hl with⟨_,k⟩|⟨_,k⟩;·exact h.dead l k
  cases k
 ·rcases EY hl with⟨_,k⟩|⟨_,k⟩;·exact h.Dp l cs k
  cases k
 ·rcases EY hl with⟨_,k⟩|⟨_,k⟩;·exact h.Dk l e sz es k
  cases k
 rcases EY hl with⟨_,k⟩|⟨_,k⟩;exact h.maps l ks vs k;cases k
theorem rL{Lf:List (Nat×Obj)}(h:B2 C w fr mu H (ms.map (λD=>(D,Gj))++Lf))(hr:Ac C w E0 mu us):
  B2 C w fr mu (H++[.ghost E0 us ms]) Lf:=by
 have O2:=h.nd;rw[A6,CL]at O2;obtain⟨n1,n2,n3⟩:=O2;have ML:(ms.map (λD=>(D,Gj))).map Kp=ms:=by rw[List.map_map];exact List.map_id ms
 rw[ML]at n1 n3;have OI:∀D∈ms,(D,Gj)∈ms.map (λD=>(D,Gj))++Lf:=λD hD=>List.mem_append_left _ (Hs.2 ⟨D,hD,rfl⟩);have Zhc:∀D,D∉(ms.map (λD=>(D,Gj))++Lf).map Kp->D∉ms/\D∉Lf.map Kp:=λD hD=>by rw[A6,ML]at hD;simp only[Cc,not_or]at hD;exact hD
 refine⟨λl cs vs DL hl=>?_,λl I hl=>?_,λD hD=>h.marks D (A3 _ hD),n2,λl l' cs vs ms1 cs' CJ cA hl CT BK=>?_⟩
 ·rcases EY hl with⟨_,k⟩|⟨_,k⟩;·obtain⟨q1,q2,q3⟩:=h.BG l cs vs DL k;exact⟨q1,q2,λD hD=>⟨(q3 D hD).1,(Zhc D (q3 D hD).2).2⟩⟩
  simp only[HO.ghost.injEq]at k;obtain⟨rfl,rfl,rfl⟩:=k;exact⟨hr,n1,λD hD=>⟨h.marks _ (OI D hD),λhm=>n3 D hD D hm rfl⟩⟩
 ·rcases EY hl with⟨_,k⟩|⟨_,k⟩;·obtain⟨q1,Sw,Sr,q2,q3,q4,q5⟩:=h.Ho l I k;refine⟨q1,Sw,Sr,q2,q3,λD hD=>q4 D (A3 _ hD),λl' cs vs DL CT D hD=>?_⟩;rcases EY CT with⟨_,k'⟩|⟨_,k'⟩;exact q5 l' cs vs DL k' D hD;simp only[HO.ghost.injEq]at k';obtain⟨rfl,rfl,rfl⟩:=k';exact q4 _ (OI D hD)
  cases k
 intro D hD hD';rcases EY hl with⟨_,k⟩|⟨e,k⟩
 ·rcases EY CT with⟨_,k'⟩|⟨_,k'⟩;·exact h.sep l l' cs vs ms1 cs' CJ cA k k' BK D hD hD'
  simp only[HO.ghost.injEq]at k';obtain⟨rfl,rfl,rfl⟩:=k';exact(Zhc D ((h.BG l cs vs ms1 k).2.2 D hD).2).1 hD'
 simp only[HO.ghost.injEq]at k;obtain⟨rfl,rfl,rfl⟩:=k;rcases EY CT with⟨_,k'⟩|⟨e',k'⟩;exact(Zhc D ((h.BG l' cs' CJ cA k').2.2 D hD').2).1 hD;omega
theorem yQ{Lf:List (Nat×Obj)}(h:B2 C w fr mu H Lf)(hn:H[n]?=some (.ghost E0 us ms)):
  B2 C w fr mu (H.set n (.ghost [] [] [])) (ms.map (λD=>(D,Gj))++Lf):=by
 have AA:=(Ap.1 hn).1;obtain⟨g1,g2,g3⟩:=h.BG n E0 us ms hn;have ML:(ms.map (λD=>(D,Gj))).map Kp=ms:=by rw[List.map_map];exact List.map_id ms
 have get:∀{l:Nat}{y:HO},(H.set n (.ghost [] [] []))[l]?=some y->(l=n/\y=.ghost [] [] [])\/(l≠n/\H[l]?=some y):=λ{l y} hl=>by by_cases e:l=n;subst e;rw[As AA]at hl;simp only[A4.injEq]at hl;exact .inl ⟨rfl,hl.symm⟩;rw[A1 (Ne.symm e)]at hl;exact .inr ⟨e,hl⟩
 refine⟨λl cs vs DL hl=>?_,λl I hl=>?_,λD hD=>?_,?_,λl l' cs vs ms1 cs' CJ cA hl CT BK=>?_⟩
 ·rcases get hl with⟨_,k⟩|⟨e,k⟩;·simp only[HO.ghost.injEq]at k;obtain⟨rfl,rfl,rfl⟩:=k;exact⟨by unfold Ac;rfl,F5,λD hD=>by cases hD⟩
  obtain⟨q1,q2,q3⟩:=h.BG l cs vs DL k;refine⟨q1,q2,λD hD=>⟨(q3 D hD).1,?_⟩⟩;rw[A6,ML,Cc,not_or];exact⟨λhm=>h.sep l n cs vs DL E0 us ms k hn e D hD hm,(q3 D hD).2⟩
 ·rcases get hl with⟨_,k⟩|⟨e,k⟩;·cases k
  obtain⟨q1,Sw,Sr,q2,q3,q4,q5⟩:=h.Ho l I k;refine⟨q1,Sw,Sr,q2,q3,λD hD=>?_,λl' cs vs DL CT D hD=>?_⟩
  ·rcases Cc.1 hD with hD|hD;·obtain⟨D0,hD0,rfl⟩:=Hs.1 hD;exact q5 n E0 us ms hn D0 hD0
   exact q4 D hD
  rcases get CT with⟨_,k'⟩|⟨e',k'⟩;simp only[HO.ghost.injEq]at k';obtain⟨rfl,rfl,rfl⟩:=k';cases hD;exact q5 l' cs vs DL k' D hD
 ·rcases Cc.1 hD with hD|hD;·obtain⟨D0,hD0,rfl⟩:=Hs.1 hD;exact(g3 D0 hD0).1
  exact h.marks D hD
 rw[A6,ML,CL];exact⟨g2,h.nd,λD hD D' hD' e=>(g3 D hD).2 (by rw[e];exact hD')⟩;rcases get hl with⟨_,k⟩|⟨_,k⟩;simp only[HO.ghost.injEq]at k;obtain⟨rfl,rfl,rfl⟩:=k;intro D hD;cases hD;rcases get CT with⟨_,k'⟩|⟨_,k'⟩;simp only[HO.ghost.injEq]at k';obtain⟨rfl,rfl,rfl⟩:=k';intro D _ hD;cases hD;exact h.sep l l' cs vs ms1 cs' CJ cA k k' BK
theorem UR(h:B0 C w fr mu H)(hn:H[n]?=some (.ghost E0 us ms)):B0 C w fr mu (H.set n (.ghost [] [] [])):=by
 have AA:=(Ap.1 hn).1;have get:∀{l:Nat}{y:HO},(H.set n (.ghost [] [] []))[l]?=some y->y=.ghost [] [] []\/H[l]?=some y:=λ{l y} hl=>by by_cases e:l=n;subst e;rw[As AA]at hl;simp only[A4.injEq]at hl;exact .inl hl.symm;rw[A1 (Ne.symm e)]at hl;exact .inr hl
 refine⟨λl g hl=>by have:=h.JX l g hl;simpa using this,h.fresh,h.sep,λl hl=>?_,λl cs hl=>?_,λl e sz es hl=>?_,λl ks vs hl=>?_⟩
 ·rcases get hl with k|k;·cases k
  exact h.dead l k
 ·rcases get hl with k|k;·cases k
  exact h.Dp l cs k
 ·rcases get hl with k|k;·cases k
  exact h.Dk l e sz es k
 rcases get hl with k|k;cases k;exact h.maps l ks vs k
theorem qZ{Q:List AV->List HO->Prop}(hk:rA n us ms H Q):∃E2,H[n]?=some (.ghost E2 us ms)/\Q E2 (H.set n (.ghost [] [] [])):=by
 unfold rA at hk;replace hk:=Bf.1 hk;obtain⟨ob,BR,hk⟩:=hk;cases ob<;>first|exact hk.elim|skip
 rename_i E2 Tf DL;obtain⟨⟨rfl,rfl⟩,hk⟩:=hk;rw[AY]at hk;exact⟨E2,BR,hk⟩
theorem Ah.inline{args:List AV}{K:AV->KK}{X:XX}(hf:P.funcs[f]?=some fn)(hb:fn.body=some c)(hT:CY P T)(hg:Cp P f=true)
  (h:∀(us:List Value)(ms:List Nat),EN fn.ntmps args λE1=>Aa P c E1 (H++[.ghost E us ms]) (ZdC T fn.results.toList H.length us ms K)
   (λe E1 H1=>match e with|.ret=>ZdC T fn.results.toList H.length us ms K E1 H1|.panic x=>rA H.length us ms H1 λE2 H2=>X (.panic x) E2 H2|_=>False)):Ah P f args E H K X:=by
 refine⟨hg,λG C mu a w vs hP Ai hr=>(callsIn_wide (n:=0)).1 (DE (F:=Fence.wide) (n:=0) (by rw[<-hP]at hf;rw[<-hP];exact hf) hb trivial ?_ rfl)⟩;subst hP;obtain⟨ms,d1,d2⟩:=Ai.defers;replace h:=h a.tmps.toList ms;unfold EN at h;rw[Ev,Dl]at h;let G':Cx:={G with ds:=[],rd:=none,MK:=by intro l h;cases h}
 have hx:=rL d2 Ai.env;have Dx:St G' (args++A9 (fn.ntmps-args.length) (.raw undef)) (H++[.ghost E a.tmps.toList ms]) {tmps:=vs.toArray++A2 (fn.ntmps-vs.toArray.size) undef,defers:=[]} w:=by refine⟨C,mu,Ai.c0,Ai.c1,Ai.lt,lD Ai.heap _ _ _,?_,⟨[],rfl,hx⟩,⟨Ai.Ax.os,Ai.Ax.tape,Ai.Ax.output,Ai.Ax.size,Ai.Ax.block⟩,by have:=Ai.Dv.1;simp only[G8,Be,It];exact A5 this (Nat.le_add_right _ _),Ai.Dv.2⟩;have hl:=AM _ hr;have:=Bj hr (CG (C:=C) (w:=w) (mu:=mu) (fn.ntmps-args.length));simpa[hl]using this
 have back:∀{C1:Af}{Qk:Mu}{E1:List AV}{H1:List HO}{a1:Act}{w1:World}{E2:List AV},AJ G' C1 Qk E1 H1 a1 w1->H1[H.length]?=some (.ghost E2 a.tmps.toList ms)->AJ G C1 Qk E2 (H1.set H.length (.ghost [] [] [])) a w1:=λ{C1 Qk E1 H1 a1 w1 E2} hs ZF=>by obtain⟨cA,_,e2⟩:=hs.defers;have e3:B2 C1 w1 G.fresh Qk H1 G.Lf:=B2.less e2;exact⟨hs.c0,hs.c1,hs.lt,UR hs.heap ZF,(e3.BG _ _ _ _ ZF).1,⟨ms,d1,yQ e3 ZF⟩,⟨hs.Ax.os,hs.Ax.tape,hs.Ax.output,hs.Ax.size,hs.Ax.block⟩,by rw[List.length_set];exact hs.Dv.1,hs.Dv.2⟩
 have fin:∀E1 H1 a1 w1,ZdC T fn.results.toList H.length a.tmps.toList ms K E1 H1->St G' E1 H1 a1 w1->LeavesInM (fw none) 0 G.P fn a1.tmps (λe w'=>(∃r v E' H' C' mu',e=.returned v/\K r E' H'/\AJ G C' mu' E' H' a w'/\Aj C' w' r mu' v)\/
   (∃x v E' H' C' mu',e=.panicked [{v,recovered:=false}]/\X (.panic x) E' H'/\AJ G C' mu' E' H' a w'/\Aj C' w' x mu' v)) a1.defers .returning w1:=by
  rintro E1 H1 a1 w1 hk ⟨C1,Qk,hs⟩;obtain⟨cA,e1,e2⟩:=hs.defers;rw[show a1.defers=cA.map mark by simpa[G']using e1];refine F3 (G:=G') rfl (by simp) cA rfl hs e2 λa2 w2 ha dH=>?_;unfold ZdC at hk;replace hk:=TF (G:=G') hT dH _ hk;obtain⟨xs,us,hk,hrr,BQ⟩:=hk;replace hk:=qZ hk;obtain⟨E2,ZF,hk⟩:=hk;have hm:(fn.results.mapM (iZ a2.tmps)).run G.P w2=.ok us.toArray w2:=by rw[Array.mapM_eq_mapM_toList];simp only[Sem.run_map,BQ,Cz,G']
  have Ik:(results fn a1.tmps).run G.P w2=.ok (if h:us.toArray.size=1 then us.toArray[0]else .tuple us.toArray) w2:=by rw[<-ha,FX,Hp,hm];rfl
  have hs3:=back dH ZF;unfold LeavesIn;split at hk;·rename_i x;unfold Ac at hrr;obtain⟨u,Tf,rfl,hrr,Ll⟩:=hrr;unfold Ac at Ll;subst Ll;exact⟨u,by rw[Ik];simp,.inl ⟨x,u,E2,_,C1,Qk,rfl,hk,hs3,hrr⟩⟩
  rename_i BK
  have hl:us.length≠1:=λe=>by
   have:=AM _ hrr;rw[e]at this;cases xs with
   |nil=>simp at this
   |cons x xs=>
    cases xs with
    |nil=>exact BK x rfl
    |cons _ _=>simp at this
  exact⟨.tuple us.toArray,by rw[Ik];simp[hl],.inl ⟨_,.tuple us.toArray,E2,_,C1,Qk,rfl,hk,hs3,by unfold Aj;exact⟨us,rfl,hrr⟩⟩⟩
 refine BX (h.out 0 G' _ w rfl Dx) λe a1 w1 q=>?_;cases e with
 |normal|ret=>obtain⟨E1,H1,h1,h2⟩:=q;exact fin E1 H1 a1 w1 h1 h2
 |exit id=>obtain⟨E1,H1,h1,h2⟩:=q;exact h1.elim
 |goto l|outgrown=>exact q.elim
 |panic ch=>
  obtain⟨x,v,E1,H1,C1,Qk,rfl,hk,hs,Xj⟩:=q;obtain⟨cA,e1,e2⟩:=hs.defers;show LeavesInM (fw none) 0 G.P fn a1.tmps _ a1.defers (.panicking [{v,recovered:=false}]) w1;rw[show a1.defers=cA.map mark by simpa[G']using e1];have hs0:AJ G' C1 Qk [x] H1 {tmps:=#[v],defers:=a1.defers} w1:=hs.frame (by unfold Ac;exact⟨v,[],rfl,Xj,by unfold Ac;rfl⟩) rfl;refine F3 (G:=G') (tm2:=#[v]) rfl (by simp) cA (a:={tmps:=#[v],defers:=a1.defers}) rfl hs0 e2 λa2 w2 ha dH=>?_;have Oe:Aj C1 w2 x Qk v:=by have:=dH.env;rw[ha]at this;unfold Ac at this;obtain⟨v',CJ,he,k,_⟩:=this;simp only[List.cons.injEq]at he;obtain⟨rfl,_⟩:=he;exact k
  replace hk:=qZ hk;obtain⟨E2,ZF,hk⟩:=hk;exact .inr ⟨x,v,E2,_,C1,Qk,rfl,hk,back dH ZF,Oe⟩
end
structure Sv where
 a:Option Addr
 n:Nat
 c:Nat
abbrev Tok:=List (Sv×List (List UInt8))
section
variable {G:Cx}{C C':Af}{w w':World}{mu:Mu}{H:List HO}{E:List AV}{a:Act}{T:List TY}{P:Program}
theorem AJ.TV(Ai:AJ G C mu E H a w){I:Inv}(BR:H[0]?=some (.inv I)):∃Sw Sr,ZcK C w G.fresh mu I.Cb I.nb Sw Sr/\I.J Sw Sr w/\
  ∀(In:Inv)(w':World)(EU D9:Nat->Prop),In.Cb=I.Cb->In.nb=I.nb->GV (λb=>b<w.heap.size/\¬Sw b) w w'->(∀b,EU b->Sw b\/w.heap.size<=b)->(∀b,D9 b->(Sr b\/w.heap.size<=b)\/∃o,C b o)->(∀b,EU b->D9 b)->(∀b,D9 b->b<w'.heap.size)->
   In.J EU D9 w'->AJ G C mu E (H.set 0 (.inv In)) a w':=by
 obtain⟨ms,d1,d2⟩:=Ai.defers;obtain⟨_,Sw,Sr,hf,hJ,wD,wB⟩:=d2.Ho 0 I BR;have h0:0<H.length:=(Ap.1 BR).1;refine⟨Sw,Sr,hf,hJ,λIn w' EU D9 eq1 eq2 q1 q2 q3 q4 q5 hIn=>?_⟩;have hx:Ext C C w w':=Ext.of_block (λ_ _ h=>h) λb o hc=>q1.block b ⟨Ai.lt b o hc,λhs=>hf.HT b o hs hc⟩;have Ce:∀{i g b},mu i=some g->g.Az=some b->w'.heap[b]?=w.heap[b]?:=λ{i g b} hi hg=>q1.block b ⟨(Ai.heap.fresh i g b hi hg).2.1,λhs=>hf.own b (hf.sub b hs) i g hi hg⟩;have get:∀{i QS},(H.set 0 (.inv In))[i]?=some QS->(i=0/\QS=.inv In)\/(H[i]?=some QS):=λ{i QS} hi=>by by_cases e:0=i;subst e;rw[As h0]at hi;simp only[A4.injEq]at hi;exact .inl ⟨rfl,hi.symm⟩;rw[A1 e]at hi;exact .inr hi
 have R7:∀D:Nat×Obj,¬Sr D.1->CS C w G.fresh mu D->CS C w' G.fresh mu D:=λD hd m=>by refine⟨?_,m.HT,m.own,m.fr⟩;rw[q1.block D.1 ⟨(A0.1 m.at_).1,λhs=>hd (hf.sub D.1 hs)⟩];exact m.at_
 have VB:∀D:Nat×Obj,¬Sr D.1->CS C w G.fresh mu D->¬D9 D.1:=λD hd m hs=>by rcases q3 D.1 hs with (k|k)|⟨o,k⟩;exact hd k;have:=(A0.1 m.at_).1;omega;exact m.HT o k
 have gg:∀{i:Nat}{cs:List AV}{us:List Value}{DL:List Nat},(H.set 0 (.inv In))[i]?=some (.ghost cs us DL)->H[i]?=some (.ghost cs us DL):=λ{i cs us DL} hi=>by rcases get hi with⟨_,h⟩|h;cases h;exact h
 have pP:(∀D∈ms.map (λD=>(D,Gj))++G.Lf,¬D9 D.1)/\∀(l:Nat)(cs:List AV)(vs:List Value)(DL:List Nat),(H.set 0 (.inv In))[l]?=some (.ghost cs vs DL)->∀D∈DL,¬D9 D:=
  ⟨λD hd=>VB D (wD D hd) (d2.marks D hd),λl cs vs DL hl D hd=>VB (D,Gj) (wB l cs vs DL (gg hl) D hd) ((d2.BG l cs vs DL (gg hl)).2.2 D hd).1⟩
 refine⟨Ai.c0,Ai.c1,λb o hc=>Bb (Ai.lt b o hc) q1.size,⟨λi g hi=>by simpa using Ai.heap.JX i g hi,λi g b hi hg=>?_,Ai.heap.sep,λi hi=>?_,λi cs hi=>?_,λi e sz es hi=>?_,λi ks vs hi=>?_⟩,
  Ac.mono hx _ (AU.refl _) Ai.env,⟨ms,d1,λi cs us DL hi=>?_,λi I' hi=>?_,λd hd=>R7 d (wD d hd) (d2.marks d hd),d2.nd,λl l' cs vs ms cs' CJ DL hl CT BK=>d2.sep l l' cs vs ms cs' CJ DL (gg hl) (gg CT) BK⟩,?_,by simpa using Ai.Dv.1,Ai.Dv.2⟩
 obtain⟨k1,k2,k3⟩:=Ai.heap.fresh i g b hi hg;exact⟨k1,Bb k2 q1.size,k3⟩
 ·rcases get hi with⟨_,h⟩|h;·cases h
  exact Ai.heap.dead i h
 ·rcases get hi with⟨_,h⟩|h;·cases h
  obtain⟨b,cur,e,k1,k2,k3,k4⟩:=Ai.heap.Dp i cs h;exact⟨b,cur,e,k1,by rw[Ce k1 rfl];exact k2,Ac.mono hx _ (AU.refl _) k3,k4⟩
 ·rcases get hi with⟨_,h⟩|h;·cases h
  obtain⟨k0,k⟩:=Ai.heap.Dk i e sz es h;refine⟨k0,k.imp id λ⟨b,cap,cur,k1,k2,k3,k4,k5,k6,k7⟩=>⟨b,cap,cur,k1,k2.of_eq (by rw[Ce k1 rfl]),k3,k4,k5,Ac.mono hx _ (AU.refl _) k6,k7⟩⟩
 ·rcases get hi with⟨_,h⟩|h;·cases h
  obtain⟨b,es,cl,k1,k2,k3⟩:=Ai.heap.maps i ks vs h;exact⟨b,es,cl,k1,by rw[Ce k1 rfl];exact k2,k3⟩
 ·rcases get hi with⟨_,h⟩|h;·cases h
  obtain⟨k1,k3,k2⟩:=d2.BG i cs us DL h;exact⟨Ac.mono hx _ (AU.refl _) k1,k3,λd hd=>⟨R7 (d,Gj) (wB i cs us DL h d hd) (k2 d hd).1,(k2 d hd).2⟩⟩
 ·have fin:∀I',I'=In->i=0->i=0/\∃Sw Sr,ZcK C w' G.fresh mu I'.Cb I'.nb Sw Sr/\I'.J Sw Sr w'/\(∀D∈ms.map (λD=>(D,Gj))++G.Lf,¬Sr D.1)/\∀(l:Nat) cs vs DL,(H.set 0 (.inv In))[l]?=some (.ghost cs vs DL)->∀D∈DL,¬Sr D:=λI' hI' h0'=>by
   subst hI';refine⟨h0',EU,D9,⟨λb hb=>?_,by rw[eq2];exact A5 hf.base q1.size,by rw[eq1,eq2];exact hf.cb,by rw[eq2];exact hf.ob,q4,q5,λb hb i g hi hg=>?_,λb o hb hc=>?_⟩,hIn,pP⟩
   ·rcases q2 b hb with k|k;·exact hf.fr b k
    exact .inl (A5 Ai.Ax.size k)
   obtain⟨_,k2,k3⟩:=Ai.heap.fresh i g b hi hg;rcases q3 b hb with (k|k)|⟨o,k⟩;exact hf.own b k i g hi hg;omega;exact absurd k (k3 o);rcases q2 b hb with k|k;exact hf.HT b o k hc;have:=Ai.lt b o hc;omega
  rcases get hi with⟨e,h⟩|h;simp only[HO.inv.injEq]at h;exact fin I' h e;have hi0:=(d2.Ho i I' h).1;subst hi0;rw[As h0]at hi;simp only[A4.injEq,HO.inv.injEq]at hi;exact fin I' hi.symm rfl
 refine⟨q1.os.trans Ai.Ax.os,q1.tape.trans Ai.Ax.tape,q1.output.trans Ai.Ax.output,A5 Ai.Ax.size q1.size,λk hk hm=>?_⟩;rw[q1.block k ⟨Bb hk Ai.Ax.size,λhs=>?_⟩];exact Ai.Ax.block k hk hm;rcases hf.fr k hs with h|h;omega;exact hm h
theorem AJ.owner(Ai:AJ G C mu E H a w){I:Inv}(BR:H[0]?=some (.inv I)):∃Sw Sr,ZcK C w G.fresh mu I.Cb I.nb Sw Sr/\I.J Sw Sr w/\
  ∀(In:Inv)(w':World)(EU D9:Nat->Prop),In.Cb=I.Cb->In.nb=I.nb->GV (λb=>b<w.heap.size/\¬Sw b) w w'->(∀b,EU b->Sw b\/w.heap.size<=b)->(∀b,D9 b->Sr b\/w.heap.size<=b)->(∀b,EU b->D9 b)->(∀b,D9 b->b<w'.heap.size)->
   In.J EU D9 w'->AJ G C mu E (H.set 0 (.inv In)) a w':=by
 obtain⟨Sw,Sr,h1,h2,h3⟩:=Ai.TV BR;exact⟨Sw,Sr,h1,h2,λIn w' EU D9 e1 e2 q1 q2 q3=>h3 In w' EU D9 e1 e2 q1 q2 λb hb=>.inl (q3 b hb)⟩
end
def Gv(T e:TypeId)(b:Nat)(p v:Value)(bs:List UInt8)(w:World):Prop:=
 (p=.pointer none\/p=.pointer (some ⟨b,0,none⟩))/\w.heap[b]?=some (.cells #[p,v] T (0,0))/\w.ownsRow 0 e 1 v bs.length (Lib.byteCells bs)/\v.ownBlock≠some b/\(bs=[]->v=.slice none 0 0)
def WrJ(T e:TypeId)(b:Nat)(bs:List UInt8)(Sw Sr:Nat->Prop)(w:World):Prop:=
 (Sw b/\Sr b)/\∃p v,Gv T e b p v bs w/\∀g,v.ownBlock=some g->Sw g/\Sr g
theorem Gv.same{T e:TypeId}{b:Nat}{p:Value}{bs:List UInt8}{w w':World}(h:Gv T e b p v bs w)(hb:w'.heap[b]?=w.heap[b]?)(hg:∀g,v.ownBlock=some g->w'.heap[g]?=w.heap[g]?):Gv T e b p v bs w':=by
 obtain⟨h1,h2,⟨h3,h4⟩,h5⟩:=h;refine⟨h1,by rw[hb];exact h2,⟨h3,h4.imp id λ⟨g,cap,cur,q1,q2,q3,q4⟩=>⟨g,cap,cur,q1,q2,?_,q4⟩⟩,h5⟩;rw[hg g (by rw[q1];rfl)];exact q3
theorem Gv.lt{T e:TypeId}{b:Nat}{p:Value}{bs:List UInt8}{w:World}(h:Gv T e b p v bs w):b<w.heap.size/\∀g,v.ownBlock=some g->g<w.heap.size:=
 ⟨(A0.1 h.2.1).1,λg hg=>(h.2.2.1.lt g hg).2⟩
def Qo(T e:TypeId)(b:Nat)(bs:List UInt8):Inv where
 J:=WrJ T e b bs
 Ol:=λSw Sr w w' ⟨h0,p,v,h1,h2⟩ hs=>⟨h0,p,v,h1.same (hs.block b h0.2) λg hg=>hs.block g (h2 g hg).2,h2⟩
 Cb:=λ_ _=>True
 nb:=0
def WV:Inv where
 J:=λ_ _ _=>True
 Ol:=λ_ _ _ _ _ _=>trivial
 Cb:=λ_ _=>True
 nb:=0
def H9(b:Nat):Value:=.pointer (some ⟨b,0,none⟩)
structure FO(P:Program)(T e:TypeId)(f:FuncId)(args:List AV)(out:List UInt8):Prop where
 D7:Cp P f=true
 call:∀(b:Nat)(bs:List UInt8)(C:Af)(w:World)(us:List Value)(S:Nat->Prop),gE C w->(∀b o,S b->¬C b o)->(∀b,S b->b<w.heap.size)->WrJ T e b bs S S w->
  bs.length+out.length<=140737488355328->Ac C w args Mu.none us->
  Calls P f (H9 b::us).toArray w λen w'=>∃v S',en=.returned v/\GV (λb=>b<w.heap.size/\¬S b) w w'/\(∀b,S' b->S b\/w.heap.size<=b)/\(∀b,S' b->b<w'.heap.size)/\WrJ T e b (bs++out) S' S' w'
structure nO(P:Program)(T e:TypeId)(f:FuncId):Prop where
 D7:Cp P f=true
 call:∀(b:Nat)(bs:List UInt8)(p v:Value)(w:World),Gv T e b p v bs w->bs.length<=140737488355328->
  Calls P f #[H9 b] w λen w'=>en=.returned (.string ⟨bs.toArray⟩)/\GV (λk=>k<w.heap.size/\k≠b/\v.ownBlock≠some k) w w'
section
variable {G:Cx}{C C':Af}{w w':World}{mu:Mu}{H:List HO}{E:List AV}{a:Act}{Ts:List TY}{P:Program}{K:KK}{X:XX}{T e:TypeId}{b:Nat}{bs out:List UInt8}
theorem Ah.F0{args:List AV}{K:AV->KK}(BR:H[0]?=some (.inv (Qo T e b bs)))(Q6:FO P T e f args out)(hc:AI args=true)(hl:bs.length+out.length<=140737488355328)
  (hk:K .any E (H.set 0 (.inv (Qo T e b (bs++out))))):Ah P f (.raw (H9 b)::args) E H K X:=by
 refine⟨Q6.D7,λG C mu a w vs hP Ai hr=>?_⟩;obtain⟨Sw,Sr,hf,hJ,key⟩:=Ai.owner BR;obtain⟨⟨j1,j2⟩,p,v,j3,j4⟩:WrJ T e b bs Sw Sr w:=hJ;unfold Ac at hr;obtain⟨v0,us,rfl,h1,h2⟩:=hr;unfold Aj at h1;subst h1;refine(Q6.call b bs C w us Sw Ai.qR (λb o=>hf.HT b o) (λb hb=>hf.lt b (hf.sub b hb)) ⟨⟨j1,j1⟩,p,v,j3,λg hg=>⟨(j4 g hg).1,(j4 g hg).1⟩⟩ hl (BD _ hc h2)).mono λen w' ⟨v,S',q1,q2,q3,q4,q5⟩=>?_;exact .inl ⟨.any,v,E,_,C,mu,q1,hk,key (Qo T e b (bs++out)) w' S' S' rfl rfl q2 q3 (λb hb=>(q3 b hb).imp (hf.sub b) id) (λ_ h=>h) q4 q5,Pp _⟩
theorem Ah.oQ{K:AV->KK}(BR:H[0]?=some (.inv (Qo T e b bs)))(Q6:nO P T e f)(hl:bs.length<=140737488355328)(hk:K (.str bs) E (H.set 0 (.inv WV))):Ah P f [.raw (H9 b)] E H K X:=by
 refine⟨Q6.D7,λG C mu a w vs hP Ai hr=>?_⟩;obtain⟨Sw,Sr,hf,hJ,key⟩:=Ai.owner BR;obtain⟨⟨j1,j2⟩,p,v,j3,j4⟩:WrJ T e b bs Sw Sr w:=hJ;unfold Ac at hr;obtain⟨v0,us,rfl,h1,h2⟩:=hr;unfold Ac at h2;subst h2;unfold Aj at h1;subst h1;refine(Q6.call b bs p v w j3 hl).mono λen w' ⟨q1,q2⟩=>?_;refine .inl ⟨.str bs,_,E,_,C,mu,q1,hk,key WV w' Sw Sr rfl rfl ⟨q2.os,q2.tape,q2.output,q2.size,λk hk=>q2.block k ⟨hk.1,λh=>hk.2 (h▸j1),λh=>hk.2 (j4 k h).1⟩⟩ (λb hb=>.inl hb) (λb hb=>.inl hb) hf.sub (λb hb=>Bb (hf.lt b hb) q2.size) trivial,?_⟩;unfold Aj;exact⟨rfl,by omega⟩
def Zf9(T e:TypeId)(b:Nat)(bs:List UInt8):KK:=λ_ H=>∃R,H=.inv (Qo T e b bs)::R
theorem FO.Ak{args:List AV}(hf:P.funcs[f]?=some fn)(hb:fn.body=some c)(hg:Cp P f=true)(Ik:fn.results=#[])
  (h:∀(b:Nat)(bs:List UInt8),bs.length+out.length<=140737488355328->
   EN fn.ntmps (.raw (H9 b)::args) λE=>Aa P c E [.inv (Qo T e b bs)] (Zf9 T e b (bs++out)) (λen E H=>match en with|.ret=>Zf9 T e b (bs++out) E H|_=>False)):FO P T e f args out:=by
 refine⟨hg,λb bs C w us S AA PX VB hJ hl hr=>(callsIn_wide (n:=0)).1 (DE (F:=Fence.wide) (n:=0) hf hb trivial ?_ rfl)⟩;have h:=h b bs hl;unfold EN at h;rw[Ev,Dl]at h;let G:Cx:={P:=P,C0:=C,M0:=S,W0:=w,lL:=⟨AA,λb o hc hs=>PX b o hs hc⟩}
 have R6:Ac C w (AV.raw (H9 b)::args) Mu.none (H9 b::us):=by unfold Ac;exact⟨_,_,rfl,by unfold Aj;rfl,hr⟩
 have Ai:St G ((AV.raw (H9 b)::args)++A9 (fn.ntmps-(AV.raw (H9 b)::args).length) (.raw undef)) [.inv (Qo T e b bs)]
   {tmps:=(H9 b::us).toArray++A2 (fn.ntmps-(H9 b::us).toArray.size) undef,defers:=[]} w:=by
  refine⟨C,Mu.none,λ_ _ h=>h,λ_ _ h=>.inl h,AA.lt,⟨λ_ _ h=>(by cases h),λ_ _ _ h=>(by cases h),λ_ _ _ _ _ h=>(by cases h),λi hi=>rfl,λi cs hi=>?_,λi e sz es hi=>?_,λi ks vs hi=>?_⟩,?_,⟨[],rfl,?_⟩,⟨rfl,rfl,rfl,GH _,λ_ _ _=>rfl⟩,De _,λ_ _ h=>absurd h (Ix _)⟩;·cases i<;>simp at hi
  ·cases i<;>simp at hi
  ·cases i<;>simp at hi
  have hl:=AM _ R6;have:=Bj R6 (CG (C:=C) (w:=w) (mu:=Mu.none) (fn.ntmps-(AV.raw (H9 b)::args).length));simpa[<-hl,AM _ hr]using this;refine⟨λi cs vs ms hi=>?_,λi J hi=>?_,λD hD=>(by cases hD),F5,λi i' cs vs ms cs' CJ DL hi=>?_⟩;·cases i<;>simp at hi
  ·cases i with
   |succ i=>simp at hi
   |zero=>
    simp only[ET,A4.injEq,HO.inv.injEq]at hi;subst hi;exact⟨rfl,S,S,⟨λb hb=>.inr hb,De _,λb o hc=>.inl trivial,λ_ _ _ h=>(by cases h),λ_ h=>h,VB,λ_ _ _ _ h=>(by cases h),PX⟩,hJ,λD hD=>(by cases hD),λi cs vs ms hi=>by cases i<;>simp at hi⟩
  cases i<;>simp at hi
 have fin:∀E H a w',Zf9 T e b (bs++out) E H->St G E H a w'->LeavesInM (fw none) 0 P fn a.tmps (λen w'=>∃v S',en=.returned v/\GV (λb=>b<w.heap.size/\¬S b) w w'/\(∀b,S' b->S b\/w.heap.size<=b)/\(∀b,S' b->b<w'.heap.size)/\WrJ T e b (bs++out) S' S' w') a.defers .returning w':=by
  rintro E H a w' ⟨R,rfl⟩ ⟨C',mu',Ai⟩;obtain⟨ms,d1,d2⟩:=Ai.defers;rw[show a.defers=ms.map mark by simpa[G]using d1];refine Iw (G:=G) rfl ms rfl Ai d2 λa' O6 ha JW=>?_;obtain⟨DL,_,x2⟩:=JW.defers;obtain⟨_,EU,D9,hf',Y8,_⟩:=x2.Ho 0 _ rfl;have Ic:(results fn a.tmps).run P O6=.ok (.tuple #[]) O6:=by rw[FX,Ik];simp
  obtain⟨⟨j1,j2⟩,p,v,j3,j4⟩:WrJ T e b (bs++out) EU D9 O6:=Y8;exact⟨_,Ic,_,EU,rfl,⟨JW.Ax.os,JW.Ax.tape,JW.Ax.output,JW.Ax.size,λk hk=>JW.Ax.block k hk.1 hk.2⟩,λb hb=>(hf'.fr b hb).symm,λb hb=>hf'.lt b (hf'.sub b hb),⟨j1,j1⟩,p,v,j3,λg hg=>⟨(j4 g hg).1,(j4 g hg).1⟩⟩
 refine BX (h.out 0 G _ w rfl Ai) λe a w' q=>?_;cases e with
 |normal|ret=>obtain⟨E,H,h1,h2⟩:=q;exact fin E H a w' h1 h2
 |exit id=>obtain⟨E,H,h1,h2⟩:=q;exact h1.elim
 |panic ch=>obtain⟨x,v,E,H,C,mu,_,h1,_⟩:=q;exact h1.elim
 |goto l|outgrown=>exact q.elim
theorem FO.of_law{args:List AV}(hg:Cp P f=true)
  (h:∀(b:Nat)(bs:List UInt8)(p v:Value)(C:Af)(w:World)(us:List Value),Ac C w args Mu.none us->Gv T e b p v bs w->bs.length+out.length<=140737488355328->
   Calls P f (H9 b::us).toArray w λen w'=>∃r p' v',en=.returned r/\Gv T e b p' v' (bs++out) w'/\GV (λk=>k<w.heap.size/\k≠b/\v.ownBlock≠some k) w w'/\∀g,v'.ownBlock=some g->v.ownBlock=some g\/w.heap.size<=g):FO P T e f args out:=
 ⟨hg,λb bs C w us S AA PX VB ⟨⟨j1,_⟩,p,v,j3,j4⟩ hl hr=>(h b bs p v C w us hr j3 hl).mono λen w' ⟨r,p',v',q1,q2,q3,q4⟩=>
  ⟨r,λk=>k=b\/v'.ownBlock=some k,q1,⟨q3.os,q3.tape,q3.output,q3.size,λk hk=>q3.block k ⟨hk.1,λh=>hk.2 (h▸j1),λh=>hk.2 (j4 k h).1⟩⟩,
   λk hk=>hk.elim (λh=>.inl (h▸j1)) λh=>(q4 k h).imp (λh=>(j4 k h).1) id,λk hk=>hk.elim (λh=>h▸q2.lt.1) λh=>q2.lt.2 k h,⟨.inl rfl,.inl rfl⟩,p',v',q2,λg hg=>⟨.inr hg,.inr hg⟩⟩⟩
theorem AJ.ZaT(h:AJ G C mu E [] a w):AJ G C mu E [.inv WV] a w:=by
 obtain⟨ms,d1,d2⟩:=h.defers
 have one:∀{l:Nat}{y:HO},[HO.inv WV][l]?=some y->l=0/\y=.inv WV:=λ{l y} hl=>by
  cases l with
  |zero=>simp at hl;exact⟨rfl,hl.symm⟩
  |succ l=>simp at hl
 have G0:∀l g,mu l≠some g:=λl g hl=>by have:=h.heap.JX l g hl;simp at this
 refine⟨h.c0,h.c1,h.lt,⟨λl g hl=>absurd hl (G0 l g),λl g b hl=>absurd hl (G0 l g),λl g b l' g' hl=>absurd hl (G0 l g),λl hl=>?_,λl cs hl=>?_,λl e sz es hl=>?_,λl ks vs hl=>?_⟩,h.env,
  ⟨ms,d1,λl cs us DL hl=>?_,λl I hl=>?_,d2.marks,d2.nd,λl l' cs vs ms cs' CJ DL hl=>?_⟩,h.Ax,A5 h.Dv.1 (De _),h.Dv.2⟩
 cases (one hl).2;cases (one hl).2;cases (one hl).2;cases (one hl).2;cases (one hl).2;obtain⟨h0,h1⟩:=one hl;simp only[HO.inv.injEq]at h1;subst h1;exact⟨h0,λ_=>False,λ_=>False,⟨λb hb=>hb.elim,De _,λ_ _ _=>.inl trivial,λl g b hl=>absurd hl (G0 l g),λ_ h=>h,λ_ h=>h.elim,λ_ h=>h.elim,λ_ _ h=>h.elim⟩,trivial,λ_ _ h=>h,λ_ _ _ _ _ _ _ h=>h⟩;cases (one hl).2
theorem Aa.ZaT(h:Aa P c E [.inv WV] K X):Aa P c E [] K X:=
 ⟨λn G a w hP ⟨C,mu,Ai⟩=>h.out n G a w hP ⟨C,mu,Ai.ZaT⟩⟩
def O5(tw eb:TypeId)(T:List TY)(E:List AV)(H:List HO)(o:Op)(K:AV->KK):Prop:=
 match o with
 |.box t x=>(match C4 t tw with
  |true=>DF E x λv=>EP v λcs=>(match cs.all Eg with
   |true=>cs=[.raw (.pointer none),.raw (.slice none 0 0)]/\H[0]?=some (.inv WV)/\∀b,K (.raw (H9 b)) E (H.set 0 (.inv (Qo tw eb b [])))
   |false=>False)
  |false=>False)
 |.alloc t=>(match C4 t tw with
  |true=>Dr T t λy=>(match C4 y.zero.length y.size&&Nat.ble 1 y.size with
   |true=>y.zero=[.raw (.pointer none),.raw (.slice none 0 0)]/\H[0]?=some (.inv WV)/\∀b,K (.raw (H9 b)) E (H.set 0 (.inv (Qo tw eb b [])))
   |false=>False)
  |false=>False)
 |_=>False
def TH(tw eb:TypeId)(P:Program)(T:List TY)(ops:List Oper):Nat->List Oper->List AV->List HO->KK->XX->Prop
 |_,[],_,_,_,_=>False
 |0,o::r,E,H,K,X=>gdK ops E o.guard
   (λE=>O5 tw eb T E H o.op (λv E' H'=>BV E' o.dst v λGp=>TI P T ops r Gp H' K X))
   (λE=>BV E o.dst (.raw undef) λE'=>TI P T ops r E' H K X)
 |k+1,o::r,E,H,K,X=>gdK ops E o.guard
   (λE=>TX none P T E H o.op (λv E' H'=>BV E' o.dst v λGp=>TH tw eb P T ops k r Gp H' K X) X)
   (λE=>BV E o.dst (.raw undef) λE'=>TH tw eb P T ops k r E' H K X)
theorem nU(h:AJ G C mu E H a w){K:AV->KK}(BR:H[0]?=some (.inv WV))(hk:∀b,K (.raw (H9 b)) E (H.set 0 (.inv (Qo tw eb b [])))){s:Sem Value}(hs:s.run G.P w=.ok (H9 w.heap.size) (w.alloc (.cells #[.pointer none,.slice none 0 0] tw))):Nc G a w K s:=by
 obtain⟨Sw,Sr,hf,hJ,key⟩:=h.owner BR;have hold:∀k,k<w.heap.size->(w.alloc (.cells #[.pointer none,.slice none 0 0] tw)).heap[k]?=w.heap[k]?:=λk hk=>heap_alloc_old w _ hk
 refine⟨_,_,_,_,_,_,_,hk w.heap.size,hs,key (Qo tw eb w.heap.size []) (w.alloc (.cells #[.pointer none,.slice none 0 0] tw)) (λk=>k=w.heap.size) (λk=>k=w.heap.size) rfl rfl
  ⟨rfl,rfl,rfl,by simp,λk hk=>hold k hk.1⟩ (λk hk=>.inr (by omega)) (λk hk=>.inr (by omega)) (λ_ h=>h) (λk hk=>by subst hk;simp)
  ⟨⟨rfl,rfl⟩,_,_,⟨.inl rfl,heap_alloc_new w _,World.ownsRow_nil _ _ _ _,by simp[I0],λ_=>rfl⟩,λg hg=>by simp[I0]at hg⟩,by unfold Aj;rfl⟩
theorem rV(h:AJ G C mu E H a w){K:AV->KK}(hk:O5 tw eb Ts E H (.box t x) K):Nc G a w K (Instr.box t (a.eval x)):=by
 unfold O5 at hk;simp only at hk;split at hk;case h_2=>exact hk.elim
 rename_i ht;obtain rfl:=AZ ht;rw[Ae,AB]at hk;split at hk;case h_2=>exact hk.elim
 rename_i hs;obtain⟨Y6,BR,hk⟩:=hk;obtain⟨vs,hv,hr⟩:=KH (Bv h.env x) hs;rw[Y6]at hr;unfold Ac at hr;obtain⟨v0,Tc,rfl,r0,hr⟩:=hr;unfold Ac at hr;obtain⟨v1,vs1,rfl,r1,hr⟩:=hr;unfold Ac at hr;subst hr;unfold Aj at r0 r1;subst r0;subst r1;exact nU h BR hk (by simp[Instr.box,newVar,newRow,hv,H9])
theorem Tb{o:Oper}{K:AV->KK}{Kn:KK}{r:Option Nat}(hT:CY G.P Ts)(h:O5 tw eb Ts E H o.op K)(Ai:AJ G C mu E H a w){next:Act->World->Prop}(hn:∀a w,I9 G o K a w->next a w):
  o.wpIn (fw r) n G.P a w next (L6 G Kn X):=by
 cases ho:o.op<;>rw[ho]at h<;>first|exact h.elim|skip
 case box t x=>
  obtain⟨r,v,E',H',C',mu',w',k1,k2,k3,k4⟩:=rV (Ts:=Ts) Ai h;exact Yaw
 case alloc t=>
  unfold O5 at h;simp only at h;split at h;case h_2=>exact h.elim
  rename_i ht;obtain rfl:=AZ ht;replace h:=Bf.1 h;obtain⟨y,hy,h⟩:=h;split at h;case h_2=>exact h.elim
  rename_i hb;simp only[Am]at hb;obtain⟨hz,BR,hk⟩:=h;obtain⟨z,h1,h2⟩:=EE (C:=C) (w:=w) (mu:=mu) hT hy (AZ hb.1) (Fc hb.2);rw[hz]at h2;unfold Ac at h2;obtain⟨v0,Tc,e0,r0,hr⟩:=h2;unfold Ac at hr;obtain⟨v1,vs1,rfl,r1,hr⟩:=hr;unfold Ac at hr;subst hr;unfold Aj at r0 r1;subst r0;subst r1;have YX:z.cells=#[.pointer none,.slice none 0 0]:=by apply Array.ext';simpa using e0
  obtain⟨r,v,E',H',C',mu',w',k1,k2,k3,k4⟩:=nU (s:=Instr.alloc t true (.tuple #[])) Ai BR hk (by simp[Instr.alloc,h1,newVar,newRow,YX,H9]);exact Yaw
theorem Ov{tw eb:TypeId}(hT:CY G.P Ts){r:Option Nat}{n:Nat}{ops:Array Oper}{K:KK}{X:XX}:∀(l:List Oper)(k:Nat){C:Af}{mu:Mu}{E:List AV}{H:List HO}{a:Act}{w:World},TH tw eb G.P Ts ops.toList k l E H K X->AJ G C mu E H a w->wpListIn (fw r) n G.P ops (L6 G K X) l a w
 |[],k,_,_,_,_,_,_,h,Ai=>by unfold TH at h;exact h.elim
 |o::l,0,C,mu,E,H,a,w,h,Ai=>by unfold TH at h;unfold wpListIn;rcases GK rfl Ai h with⟨hw,E',h1,h2⟩|⟨hw,E',h1,h2⟩;rw[if_pos hw];refine Tb hT h1 h2 λa' w' hp=>?_;obtain⟨x,Gp,H',h3,C',mu',h4⟩:=hp;rw[AF]at h3;exact Hg hT l h3 h4;rw[if_neg (by simp[hw])];rw[AF]at h1;exact⟨λ_ _=>trivial,Hg hT l h1 (h2.frame (BF h2.env o.dst (by unfold Aj;rfl)) (put_defers _ _ _))⟩
 |o::l,k+1,C,mu,E,H,a,w,h,Ai=>by unfold TH at h;unfold wpListIn;rcases GK rfl Ai h with⟨hw,E',h1,h2⟩|⟨hw,E',h1,h2⟩;rw[if_pos hw];refine Ex hT h1 h2 λa' w' hp=>?_;obtain⟨x,Gp,H',h3,C',mu',h4⟩:=hp;rw[AF]at h3;exact Ov hT l k h3 h4;rw[if_neg (by simp[hw])];rw[AF]at h1;exact⟨λ_ _=>trivial,Ov hT l k h1 (h2.frame (BF h2.env o.dst (by unfold Aj;rfl)) (put_defers _ _ _))⟩
theorem Aa.Zac(tw eb:TypeId)(k:Nat)(hT:CY P Ts){ops:Array Oper}(h:TH tw eb P Ts ops.toList k ops.toList E H K X):Aa P (.region id ops false) E H K X:=
 ⟨λn G a w hP Ai=>by
  obtain⟨C,mu,Ai⟩:=Ai
  subst hP
  exact Vy (wpIn_region_list (Ov hT _ k h Ai))⟩
end
def Le(x y:AV):Prop:=∀(C:Af)(w:World)(mu:Mu)(v:Value),Aj C w x mu v->Aj C w y mu v
inductive xS:List AV->List AV->Prop
 |nil:xS [] []
 |cons {x y:AV} {xs ys:List AV}:Le x y->xS xs ys->xS (x::xs) (y::ys)
inductive Ler:List AV->List AV->Prop
 |nil:Ler [] []
 |cons {x y:AV} {xs ys:List AV}:xS x.cells y.cells->Ler xs ys->Ler (x::xs) (y::ys)
theorem Le.refl(x:AV):Le x x:=λ_ _ _ _ h=>h
theorem Le.lit(b:Bool):Le (.lit b) (.bool b):=λ_ _ _ _ h=>by unfold Aj at*;exact h
theorem Le.nil(sz:Nat):Le (.raw (.slice none 0 0)) (.sl sz []):=λ_ _ _ _ h=>by
 unfold Aj at*;exact .inl ⟨⟨none,h⟩,rfl⟩
theorem xS.len(h:xS xs ys):xs.length=ys.length:=by
 induction h with
 |nil=>rfl
 |cons _ _ ih=>simp[ih]
theorem xS.ZmA{C:Af}{w:World}{mu:Mu}(h:xS xs ys):∀{vs:List Value},Ac C w xs mu vs->Ac C w ys mu vs:=by
 induction h with
 |nil=>exact λh=>h
 |cons h1 _ ih=>
  intro vs h;unfold Ac at h⊢;obtain⟨v,CJ,k1,k2,k3⟩:=h;exact⟨v,CJ,k1,h1 _ _ _ _ k2,ih k3⟩
theorem xS.cells{C:Af}{w:World}{b:Nat}(h:xS xs ys):∀{o:Nat},Cells C w xs b o->Cells C w ys b o:=by
 induction h with
 |nil=>exact λh=>h
 |cons h1 _ ih=>
  intro o h;unfold Cells at h⊢;obtain⟨⟨v,k1,k2,k3⟩,k4⟩:=h;exact⟨⟨v,k1,k2,h1 _ _ _ _ k3⟩,ih k4⟩
theorem Ler.len(h:Ler xs ys):xs.length=ys.length:=by
 induction h with
 |nil=>rfl
 |cons _ _ ih=>simp[ih]
theorem Ler.rows{C:Af}{w:World}{sz b:Nat}(h:Ler xs ys):∀{o:Nat},Rows C w sz xs b o->Rows C w sz ys b o:=by
 induction h with
 |nil=>exact λh=>h
 |cons h1 _ ih=>
  intro o h;rw[QE]at h ⊢;obtain⟨⟨k1,k2⟩,k3⟩:=h;exact⟨⟨by rw[<-h1.len];exact k1,h1.cells k2⟩,ih k3⟩
theorem Le.agg(h:xS xs ys):Le (.agg xs) (.agg ys):=λ_ _ _ _ k=>by
 unfold Aj at*;obtain⟨vs,k1,k2⟩:=k;exact⟨vs,k1,h.ZmA k2⟩
theorem Le.sl{sz:Nat}(h:Ler xs ys):Le (.sl sz xs) (.sl sz ys):=λ_ _ _ _ k=>by
 unfold Aj at*;rcases k with⟨k1,rfl⟩|⟨b,o,cap,k1,k2,k3,k4⟩;exact .inl ⟨k1,by cases h;rfl⟩;exact .inr ⟨b,o,cap,by rw[<-h.len];exact k1,by rw[<-h.len];exact k2,k3,h.rows k4⟩
theorem Au.le{P:Go.Program}{f:Nat}{args:List AV}{x y:AV}(h:Au P f args (λr=>r=x))(hl:Le x y):Au P f args (λr=>r=y):=
 ⟨h.D7,λC w vs h1 h2=>(h.out C w vs h1 h2).mono λe w' hp=>by
  obtain⟨r,v,h3,h4,h5,h6⟩:=hp
  subst h4
  exact⟨y,v,h3,rfl,h5,hl _ _ _ _ h6⟩⟩
section
variable {P:Program}{T:List TY}{E:List AV}{H:List HO}{K:KK}{X:XX}
def zT:Code->Bool
 |.region _ _ false|.cond _ _ _|.block _ _|.scope _|.skip|.label _|.exit _|.ret|.seq _ _=>true
 |_=>false
def Zff(P:Program)(T:List TY)(E:List AV)(H:List HO)(K:KK)(X:XX):Code->Prop
 |.region _ ops false=>TI P T ops.toList ops.toList E H K X
 |.cond c x y=>DF E c λv=>match v with
  |.lit t=>(match t with|true=>Aa P x E H K X|false=>Aa P y E H K X)
  |.bool t=>(t=true->Aa P x E H K X)/\(t=false->Aa P y E H K X)
  |_=>False
 |.block id b=>Aa P b E H K λe E H=>match e with
  |.exit i=>(match C4 i id with|true=>K E H|false=>X (.exit i) E H)
  |.ret=>X .ret E H
  |.panic x=>X (.panic x) E H
 |.scope b=>Aa P b E H K X
 |.skip|.label _=>K E H
 |.exit id=>X (.exit id) E H
 |.ret=>X .ret E H
 |.seq x y=>Aa P x E H (λE H=>Aa P y E H K X) X
 |_=>False
theorem Aa.st(hT:CY P T)(hb:zT c=true)(h:Zff P T E H K X c):Aa P c E H K X:=by
 unfold zT at hb;split at hb;exact Aa.s_reg hT h;exact Aa.s_cond h;exact Aa.Zdw h;exact Aa.Zdt h;exact Aa.iL h;exact Aa.Zdv h;exact Aa.s_exit h;exact Aa.Zjr h;exact Aa.seq h;cases hb
end
theorem kW{P:Prop}(h:Q)(e:Q->P:=by intro h;(conv=>whnf);(repeat(refine Aa.st Ab rfl ?_;conv=>whnf));exact h):P:=e h
theorem Er{P:Prop}(e:P:=by(conv=>whnf);repeat(refine Aa.st Ab rfl ?_;conv=>whnf)):P:=e
theorem kR{P:Prop}(h:Q)(e:Q->P:=by intro h;(repeat(refine Aa.st Ab rfl ?_;conv=>whnf));exact h):P:=e h
theorem Ql{P:Prop}(h:Q)(e:Q->P:=by intro h;(refine Aa.st Ab rfl ?_;conv=>whnf);(repeat(refine Aa.st Ab rfl ?_;conv=>whnf));exact h):P:=e h
theorem kRe{P:Prop}(e:P:=by repeat(refine Aa.st Ab rfl ?_;conv=>whnf)):P:=e
theorem kQ{P:Prop}(h:Q)(e:Q->P:=by intro h;(conv=>whnf);(repeat(refine And.intro ?_ ?_;(focus (first|rfl|(simp;done)));conv=>whnf));exact h):P:=e h
theorem kQe{P:Prop}(e:P:=by(conv=>whnf);repeat(refine IV ?_ ?_;(focus (first|rfl|(simp;done)));conv=>whnf)):P:=e
theorem gF{A P:Prop}(a:A)(h:Q)(e:A->Q->P:=by intro a h;(conv=>whnf);(repeat(refine And.intro ?_ ?_;(focus (first|rfl|(simp;done)|(exact a)));conv=>whnf));exact h):P:=e a h
theorem ZpF{A P:Prop}(a:A)(e:A->P:=by intro a;(conv=>whnf);repeat(refine And.intro ?_ ?_;(focus (first|rfl|(simp;done)|(exact a)));conv=>whnf)):P:=e a
theorem kD{P:Prop}(h:Q)(e:Q->P:=by intro h;(repeat(first|(refine⟨λ_=>?_,λh=>absurd h (by decide +kernel)⟩;conv=>whnf)|(refine⟨λh=>absurd h (by decide +kernel),λ_=>?_⟩;conv=>whnf)|(refine⟨by decide,_,rfl,?_⟩;conv=>whnf)|(refine Aa.st Ab rfl ?_;conv=>whnf)));exact h):P:=e h
theorem kDe{P:Prop}(e:P:=by repeat(first|(refine⟨λ_=>?_,λh=>absurd h (by decide +kernel)⟩;conv=>whnf)|(refine⟨λh=>absurd h (by decide +kernel),λ_=>?_⟩;conv=>whnf)|(refine⟨by decide,_,rfl,?_⟩;conv=>whnf)|(refine Aa.st Ab rfl ?_;conv=>whnf))):P:=e
section
variable {H:List HO}{E:List AV}{X:XX}{T:List TY}{P:Program}
theorem kC{bs:List AV}{K:AV->KK}{v:AV}(h:Au P f bs (λr=>r=v))(k:Q)(hc:AI bs=true:=by exact rfl)(e:Q->K v E H:=by intro h;(conv=>whnf);(repeat(refine Aa.st Ab rfl ?_;conv=>whnf));exact h):Ah P f bs E H K X:=
 Ah.BZ h hc λr hr=>by subst hr;exact e k
theorem pE{bs:List AV}{K:AV->KK}{v:AV}(h:Au P f bs (λr=>r=v))(hc:AI bs=true:=by exact rfl)(e:K v E H:=by(conv=>whnf);repeat(refine Aa.st Ab rfl ?_;conv=>whnf)):Ah P f bs E H K X:=
 Ah.BZ h hc λr hr=>by subst hr;exact e
theorem kB{args:List AV}(hf:P.funcs[f]?=some fn)(hb:fn.body=some c)(h:Q)(hT:CY P T:=by exact Ab)(hg:Cp P f=true:=by kernel_rfl)
  (e:Q->EN fn.ntmps args λE=>Aa P c E [] (Ot T fn.results.toList R) (λe E H=>match e with|.ret=>Ot T fn.results.toList R E H|_=>False):=by intro h;(conv=>whnf);(repeat(refine Aa.st Ab rfl ?_;conv=>whnf));exact h):Au P f args R:=
 Au.Ak hf hb hT hg (e h)
theorem kBe{args:List AV}(hf:P.funcs[f]?=some fn)(hb:fn.body=some c)(hT:CY P T:=by exact Ab)(hg:Cp P f=true:=by kernel_rfl)
  (e:EN fn.ntmps args λE=>Aa P c E [] (Ot T fn.results.toList R) (λe E H=>match e with|.ret=>Ot T fn.results.toList R E H|_=>False):=by(conv=>whnf);repeat(refine Aa.st Ab rfl ?_;conv=>whnf)):Au P f args R:=
 Au.Ak hf hb hT hg e
end
section
variable {G:Cx}{C:Af}{w w':World}{mu:Mu}{H:List HO}{E:List AV}{a:Act}{P:Program}
def Zgl(H:List HO)(x y:AV):Prop:=(closed x=true/\y=x)\/∃l cs,x=.ptr l 0/\H[l]?=some (.cells cs)/\AI cs=true/\y=.at_ cs
def Mj(H:List HO):List AV->List AV->Prop
 |[],[]=>True
 |x::xs,y::ys=>Zgl H x y/\Mj H xs ys
 |_,_=>False
theorem Mj.plain{x:AV}(hx:closed x=true)(h:Mj H xs ys):Mj H (x::xs) (x::ys):=⟨.inl ⟨hx,rfl⟩,h⟩
theorem Mj.ptr{cs:List AV}(hl:H[l]?=some (.cells cs))(hc:AI cs=true)(h:Mj H xs ys):Mj H (.ptr l 0::xs) (.at_ cs::ys):=⟨.inr ⟨l,cs,rfl,hl,hc,rfl⟩,h⟩
def VH(C:Af)(mu:Mu)(H:List HO):Af:=λb o=>C b o\/∃l cs,H[l]?=some (.cells cs)/\mu l=some (.D6 b)
theorem O7:Ext C (VH C mu H) w w:=⟨λ_ _ h=>.inl h,λ_ _ _=>rfl⟩
theorem nV(h:AJ G C mu E H a w):∀b o,VH C mu H b o->b<w.heap.size:=λb o hb=>by
 rcases hb with hb|⟨l,cs,hl,hm⟩;exact h.lt b o hb;exact(h.heap.fresh l _ b hm rfl).2.1
theorem oE(h:AJ G C mu E H a w){x y:AV}(hs:Zgl H x y)(hr:Aj C w x mu v):Aj (VH C mu H) w y Mu.none v:=by
 rcases hs with⟨hc,rfl⟩|⟨l,cs,rfl,hl,hc,rfl⟩;exact Aj.mono O7 _ (AU.refl _) (Ci _ hc hr);obtain⟨b,cur,e,k1,k2,k3,k4⟩:=h.heap.Dp l cs hl;unfold Aj at hr;obtain⟨b',k5,rfl⟩:=hr;rw[k1]at k5;simp only[A4.injEq,GO.D6.injEq]at k5;subst k5;unfold Aj;refine⟨b,0,rfl,(Dc _ _).2 λi hi=>?_⟩;obtain⟨hlen,ZjZ⟩:=(Bo _).1 (Ac.mono (O7 (mu:=mu) (H:=H)) _ (AU.refl _) (BD _ hc k3));have EW:i<cur.toList.length:=by omega
 refine⟨cur.toList[i],k4 _ (List.getElem_mem EW),⟨.inr ⟨l,cs,hl,k1⟩,?_⟩,ZjZ i hi EW⟩;rw[Nat.zero_add];have hci:cur[i]?=some cur.toList[i]:=by simp at EW;simp[EW]
 simp[World.cell?,k2,hci]
theorem Tx(h:AJ G C mu E H a w):∀{xs ys:List AV}{vs:List Value},Mj H xs ys->Ac C w xs mu vs->Ac (VH C mu H) w ys Mu.none vs
 |[],[],_,_,hr=>by unfold Ac at*;exact hr
 |x::xs,y::ys,_,hs,hr=>by unfold Ac at hr⊢;obtain⟨v,CJ,rfl,h2,h3⟩:=hr;exact⟨v,CJ,rfl,oE h hs.1 h2,Tx h hs.2 h3⟩
 |[],_::_,_,hs,_|_::_,[],_,hs,_=>hs.elim
def ZaD(r:AV):Prop:=ER r=true\/∃ks vs,r=.mp ks vs/\HI ks=true/\HI vs=true
theorem oM(h:AJ G C mu E H a w)(hb:Below w.heap.size w w'){r:AV}(ho:ZaD r)(hr:Aj (Mz (VH C mu H) w.heap.size w'.heap.size) w' r Mu.none v):Aj (Mz C w.heap.size w'.heap.size) w' r mu v:=by
 rcases ho with ho|⟨ks,vs,rfl,hk,hv⟩;exact E9 _ ho hr;unfold Aj at hr⊢;rcases hr with hr|⟨b,es,clock,h1,h2,h3,h4,h5⟩;exact .inl hr;refine .inr ⟨b,es,clock,h1,?_,h3,Eo _ hk h4,Eo _ hv h5.1,h5.2⟩;rcases h2 with (h2|⟨l,cs,hl,hm⟩)|h2;exact .inl h2;obtain⟨b',cur,e,k1,k2,_⟩:=h.heap.Dp l cs hl;rw[hm]at k1;simp only[A4.injEq,GO.D6.injEq]at k1;subst k1;rw[hb.block b (h.heap.fresh l _ b hm rfl).2.1,k2]at h3;cases h3;exact .inr h2
theorem Ah.ZdL{args args':List AV}{K:AV->KK}{X:XX}(hc:Au P f args' R)(hs:Mj H args args')(hk:∀r,R r->ZaD r/\K r E H):Ah P f args E H K X:=by
 refine⟨hc.D7,λG C mu a w us hP Ai hr=>?_⟩;have Zhk:gE (VH C mu H) w:=Ai.qR.mono O7 (nV Ai);exact(hc.out (VH C mu H) w us.toArray.toList Zhk (by simpa using Tx Ai hs hr)).mono λe w' ⟨r,u,k1,k2,k3,k4⟩=>by obtain⟨ho,hK⟩:=hk r k2;exact .inl ⟨r,u,E,H,_,mu,k1,hK,Ai.below k3,oM Ai k3 ho k4⟩
end
def ZdX(n:Nat):List Nat->Bool
 |[]=>false
 |m::l=>bif C4 n m then true else ZdX n l
end Go.Av