/- Words of a line: what lies between blanks and tabs. -/
import Derived.Lib.FieldsP
import Derived.Lib.DecodeN
import Derived.Test.YtdadkhcdoaeabaaGreatDoorKf2
import Derived.Lib.Join
import Derived.Lib.ItoaNum
import Derived.Lib.AtoiAll
import Derived.Lib.Case
import Derived.Lib.SlTrimSet
import Derived.Lib.IndexLaws
import Derived.Lib.Bytealg
set_option linter.unusedVariables false
set_option maxRecDepth 100000
set_option linter.unusedSimpArgs false
open List renaming drop_eq_nil_of_le → Ah, getElem?_eq_getElem → Ao, length_append → Aq, drop_eq_getElem_cons → AO, flatMap_cons → AR, flatten_cons → AZ, length_cons → Bc, map_congr_left → Bq, range_succ → Bu, flatMap_append → Bv, drop_zero → BC, range → BD, map_cons → BJ, all_reverse → Cb, mem_flatten → Cf, filter_cons → Cm, getElem?_eq_none → Cu, mem_cons_of_mem → CA, mem_of_mem_drop → CL, dropWhile_cons → CM, sum_cons → CX, length_drop → C1, nil_append → C2, mem_filter → C4, drop_drop → Ds, all_cons → Dt
open Nat renaming add_zero → Ba, pow_le_pow_right → Bh, mul_le_mul_right → Bj, zero_le → BV, add_mul → CW, le_trans → C0
open Bool renaming and_eq_true → B7, or_eq_true → C3
namespace Go.Proofs.YtdadkhcdoaeabaaGreatDoor.Ff
namespace Pl
abbrev Bs:=List UInt8
def Hk(c:UInt8):Bool:=decide (c.toNat=32)||decide (c.toNat=9)
def IN:Bs→Bs→List Bs
 |cur,[]=>if cur=[]then []else [cur]
 |cur,c::r=>if Hk c then (if cur=[]then IN [] r else cur::IN [] r)else IN (cur++[c]) r
def Bk(s:Bs):List Bs:=IN [] s
theorem T6:∀(x cur r:Bs),(∀c∈x,Hk c=false)→IN cur (x++r)=IN (cur++x) r
 |[],cur,r,_=>by simp
 |c::x,cur,r,h=>by
  have hc:=h c (by simp)
  rw[List.cons_append,IN,if_neg (by simp[hc]),T6 x (cur++[c]) r λd hd=>h d (by simp[hd])]
  simp
def DW(n:Nat):Bool:=decide (n=32)||decide (n=9)
theorem ZI(s:ByteArray)(pos:Nat)(hp:pos<s.size):1≤(Utf8.decode s pos).2∧pos+(Utf8.decode s pos).2≤s.size∧
  ((DW (Utf8.decode s pos).1=true∧(Utf8.decode s pos).2=1∧Hk (s.get! pos)=true)∨(DW (Utf8.decode s pos).1=false∧∀j,j<(Utf8.decode s pos).2→Hk (s.get! (pos+j))=false)):=by
 rw[Lib.decode_at];generalize fM:(s.get! pos).toNat=b0;generalize N5:(s.get! (pos+1)).toNat=b1;generalize GA:(s.get! (pos+2)).toNat=b2;generalize kB:(s.get! (pos+3)).toNat=b3;have g0:∀n,(s.get! (pos+0)).toNat=n→n=b0:=λn h=>by rw[Ba,fM]at h;exact h.symm
 have nb:∀(c:UInt8),64≤c.toNat→Hk c=false:=λc h=>by unfold Hk;simp;omega
 unfold Lib.decodeN;split
 ·rename_i h0;refine⟨Nat.le_refl _,by simp only;omega,?_⟩
  by_cases PO:DW b0=true
  ·refine .inl ⟨PO,rfl,?_⟩;unfold DW at PO;unfold Hk;rw[fM];exact PO
  ·refine .inr ⟨by simpa using PO,λj hj=>?_⟩
   have:j=0:=by simp only at hj;omega
   subst this;unfold DW at PO;unfold Hk;rw[Ba,fM];simpa using PO
 ·rename_i h0
  have one:(1:Nat)≤1∧pos+1≤s.size∧((DW 65533=true∧(1:Nat)=1∧Hk (s.get! pos)=true)∨(DW 65533=false∧∀j,j<1→Hk (s.get! (pos+j))=false)):=by
   refine⟨Nat.le_refl _,by omega,.inr ⟨by decide,λj hj=>?_⟩⟩
   have:j=0:=by omega
   subst this;exact nb _ (by rw[Ba,fM];omega)
  split
  ·rename_i h1;split
   ·refine⟨by simp,by simp only;omega,.inr ⟨by unfold DW;simp;omega,λj hj=>?_⟩⟩
    have:j=0∨j=1:=by simp only at hj;omega
    rcases this with rfl|rfl;·exact nb _ (by rw[Ba,fM];omega)
    ·exact nb _ (by rw[N5];omega)
   ·exact one
  ·split
   ·rename_i h1;split
    ·refine⟨by simp,by simp only;omega,.inr ⟨by unfold DW;simp;omega,λj hj=>?_⟩⟩
     have:j=0∨j=1∨j=2:=by simp only at hj;omega
     rcases this with rfl|rfl|rfl;·exact nb _ (by rw[Ba,fM];omega)
     ·exact nb _ (by rw[N5];omega)
     ·exact nb _ (by rw[GA];omega)
    ·exact one
   ·split
    ·rename_i h1;split
     ·refine⟨by simp,by simp only;omega,.inr ⟨by unfold DW;simp;omega,λj hj=>?_⟩⟩
      have:j=0∨j=1∨j=2∨j=3:=by simp only at hj;omega
      rcases this with rfl|rfl|rfl|rfl;·exact nb _ (by rw[Ba,fM];omega)
      ·exact nb _ (by rw[N5];omega)
      ·exact nb _ (by rw[GA];omega)
      ·exact nb _ (by rw[kB];omega)
     ·exact one
    ·exact one
theorem Kp(s:ByteArray)(i:Nat)(h:i<s.size):s.data.toList[i]?=some (s.get! i):=by
 have h':i<s.data.size:=h;rw[Array.getElem?_toList,Array.getElem?_eq_getElem h'];congr 1;show s.data[i]=s.data[i]!
 rw[getElem!_pos s.data i h']
def Eb(l:Bs)(x:Nat×Nat):Bs:=(l.drop x.1).take (x.2-x.1)
theorem Me(l:Bs)(a pos k:Nat)(h:a≤pos):Eb l (a,pos)++(l.drop pos).take k=Eb l (a,pos+k):=by
 unfold Eb;simp only;rw[show pos+k-a=(pos-a)+k by omega,List.take_add,Ds,show a+(pos-a)=pos by omega]
theorem piece_ne(l:Bs)(a pos:Nat)(h:a<pos)(hp:pos≤l.length):Eb l (a,pos)≠[]:=by
 unfold Eb;intro hc;have:=congrArg List.length hc;simp at this;omega
def Eo(l:Bs)(st:Option Nat)(pos:Nat):Bs:=match st with|some a=>Eb l (a,pos)|none=>[]
theorem W3(s:ByteArray):∀(f pos:Nat)(st:Option Nat)(acc:List (Nat×Nat)),s.size≤pos+f→pos≤s.size→(∀a,st=some a→a<pos)→
  (Lib.closeSpans s (Lib.spansFromP DW s f pos st acc)).map (Eb s.data.toList)=acc.map (Eb s.data.toList)++IN (Eo s.data.toList st pos) (s.data.toList.drop pos):=by
 have hlen:s.data.toList.length=s.size:=Array.length_toList;intro f;induction f with
 |zero=>
  intro pos st acc h1 h2 h3;have hp:pos=s.size:=by omega
  subst hp;unfold Lib.spansFromP Lib.closeSpans;rw[Ah (by omega)]
  cases st with
  |none=>simp[Eo,IN]
  |some a=>
   have:=piece_ne s.data.toList a s.size (h3 a rfl) (by omega)
   simp[Eo,IN,this]
 |succ f ih=>
  intro pos st acc h1 h2 h3;by_cases hp:pos<s.size
  ·obtain⟨k1,k2,k3⟩:=ZI s pos hp;unfold Lib.spansFromP;rw[if_pos hp];generalize Utf8.decode s pos=d at*;obtain⟨r,k⟩:=d;simp only at k1 k2 k3⊢;rcases k3 with⟨hb,rfl,WC⟩|⟨hb,WC⟩
   ·rw[if_pos hb]
    have hd:s.data.toList.drop pos=s.get! pos::s.data.toList.drop (pos+1):=by
     have h':pos<s.data.toList.length:=by omega
     rw[AO h'];have:=Kp s pos hp;rw[Ao h']at this;injection this with this
     rw[this]
    rw[hd,IN,if_pos WC];cases st with
    |none=>simp only;rw[ih (pos+1) none acc (by omega) (by omega) (by simp)];simp[Eo]
    |some a=>
     simp only;rw[ih (pos+1) none _ (by omega) (by omega) (by simp)]
     have:=piece_ne s.data.toList a pos (h3 a rfl) (by omega)
     simp[Eo,this]
   ·rw[if_neg (by simp[hb])]
    have hd:s.data.toList.drop pos=(s.data.toList.drop pos).take k++s.data.toList.drop (pos+k):=by
     rw[←Ds,List.take_append_drop]
    have lP:∀c∈(s.data.toList.drop pos).take k,Hk c=false:=by
     intro c hc;obtain⟨j,hj,rfl⟩:=List.getElem_of_mem hc;simp only[List.length_take,C1]at hj;have PL:j<k:=by omega
     have:=Kp s (pos+j) (by omega)
     rw[List.getElem_take,List.getElem_drop];rw[Ao (by omega)]at this
     injection this with this
     rw[this];exact WC j PL
    rw[hd,T6 _ _ _ lP];cases st with
    |none=>
     simp only;rw[ih (pos+k) (some pos) acc (by omega) (by omega) (by intro a ha;injection ha with ha;omega)]
     simp only[Eo,C2];unfold Eb;simp only[Nat.add_sub_cancel_left]
    |some a=>
     simp only;rw[ih (pos+k) (some a) acc (by omega) (by omega) (by intro b hb;injection hb with hb;have:=h3 a rfl;omega)]
     simp only[Eo];rw[Me _ _ _ _ (Nat.le_of_lt (h3 a rfl))]
  ·have hp:pos=s.size:=by omega
   subst hp;rw[Lib.spansFromP_end _ _ _ _ _ _ (by omega)]
   unfold Lib.closeSpans;rw[Ah (by omega)]
   cases st with
   |none=>simp[Eo,IN]
   |some a=>
    have:=piece_ne s.data.toList a s.size (h3 a rfl) (by omega)
    simp[Eo,IN,this]
theorem Wf(s:ByteArray):(Lib.goFieldsP DW s).map (λx=>x.data.toList)=Bk s.data.toList:=by
 unfold Lib.goFieldsP Lib.spansOfP Bk;have h:=W3 s s.size 0 none [] (by omega) (by omega) (by simp)
 simp only[List.map_nil,C2,BC,Eo]at h;rw[←h,List.map_map];refine Bq λx _=>?_
 simp only[Function.comp];unfold Eb;rw[ByteArray.data_extract];simp
end Pl
open Go.Av Pl
theorem AH(n:Int)(h0:-9223372036854775808≤n)(h1:n≤9223372036854775807):Wr .i64 n=n:=by
 unfold Wr;simp[IntKind.wrap,IntKind.bits,IntKind.signed];omega
structure Pt where
 k:Int
 t:Bs
deriving DecidableEq
def Pt.v(p:Pt):AV:=.agg [.int .i64 p.k,.str p.t]
def D2(l:List Pt):AV:=.sl 2 (l.map Pt.v)
structure Fm where
 name:Bs
 lines:List (List Pt)
def Fm.v(f:Fm):AV:=.agg [.str f.name,.sl 1 (f.lines.map D2)]
structure Ad where
 pe:Bs
 st:Bs
 nu:Int
 co:Bs
 to:Bs
deriving DecidableEq
def Ad.v(a:Ad):AV:=.agg [.str a.pe,.str a.st,.int .i64 a.nu,.str a.co,.str a.to]
def Mw:Ad:=⟨[],[],0,[],[]⟩
abbrev strs(l:List Bs):List AV:=l.map AV.str
def A3(l:List Bs):AV:=.sl 1 (strs l)
def BY(c:UInt8):Bool:=decide (97≤c.toNat)&&decide (c.toNat≤122)
def Gg(c:UInt8):Bool:=decide (65≤c.toNat)&&decide (c.toNat≤90)
def Ew(c:UInt8):Bool:=BY c||Gg c
def Dx(c:UInt8):Bool:=decide (48≤c.toNat)&&decide (c.toNat≤57)
def Ku(c:UInt8):Bool:=Ew c||Dx c||decide (c.toNat=45)||decide (c.toNat=39)||decide (c.toNat=46)
def HX(w:Bs):Bool:=decide (1≤w.length)&&decide (w.length≤20)&&w.all Ku
def M9(c:UInt8):Bool:=decide (c.toNat=57)||decide (c.toNat=65)
def iS(t:Bs):Bool:=decide (1≤t.length)&&decide (t.length≤8)&&t.all M9
def B2(c:UInt8):Bool:=BY c||Dx c||decide (c.toNat=95)
def Hv(s:Bs):Bool:=decide (1≤s.length)&&decide (s.length≤16)&&(match s with|c::_=>BY c|[]=>false)&&s.all B2
def D7(p:Pt):Bool:=if p.k=1 then HX p.t else if p.k=3 then iS p.t else if p.k=2∨p.k=4∨p.k=5∨p.k=6 then decide (p.t=[])else false
def Gd:Bs→Bs→Bool
 |[],[]=>true
 |c::w,d::p=>(!decide (d.toNat=57)||Dx c)&&(!decide (d.toNat=65)||Ew c)&&Gd w p
 |_,_=>false
def upC(c:UInt8):UInt8:=if BY c then c-32 else c
def CY(c:UInt8):UInt8:=if Gg c then c+32 else c
def xD(s:Bs):Bs:=s.map upC
def DO(s:Bs):Bs:=s.map CY
def Lp(s:Bs):Nat:=s.foldl (λn c=>10*n+(c.toNat-48)) 0
def Fe(w:Bs):Bool:=decide (w.length≤4)&&!decide (w.head?=some 48)&&w.all Dx&&decide (1≤w.length)
def EB(l:List Pt):List Int:=(l.filter λp=>decide (p.k≠1)).map Pt.k
def By(f:Fm):Bool:=Hv f.name&&decide (1≤f.lines.length)&&decide (f.lines.length≤8)&&f.lines.all (λl=>decide (1≤l.length)&&decide (l.length≤8))&&f.lines.flatten.all D7&&decide (EB f.lines.flatten).Nodup
def DB(p:Pt):Nat:=if p.k=1∨p.k=2∨p.k=3 then 1 else 4
def zN(p:Pt)(l:List Bs)(a:Ad):Option Ad:=
 let w:=l.headD []
 if p.k=1 then (if DO w=DO p.t then some a else none)
 else if p.k=2 then (if Fe w then some {a with nu:=Lp w} else none)
 else if p.k=3 then (if Gd w p.t then some {a with co:=xD w} else none)
 else if p.k=4 then some {a with st:=Lib.join l [32]}
 else if p.k=5 then some {a with to:=Lib.join l [32]}
 else some {a with pe:=Lib.join l [32]}
def EG:List Pt→List Bs→Ad→List Ad
 |[],[],a=>[a]
 |[],_::_,_=>[]
 |p::ps,ws,a=>(BD (min (DB p) ws.length)).flatMap λi=>match zN p (ws.take (i+1)) a with
  |some b=>EG ps (ws.drop (i+1)) b
  |none=>[]
def Fc:List (List Pt)→List (List Bs)→Ad→List Ad
 |[],[],a=>[a]
 |l::ls,w::ws,a=>(EG l w a).flatMap (Fc ls ws)
 |_,_,_=>[]
theorem iB(c:UInt8):Lib.isLowerB c=BY c:=by
 unfold Lib.isLowerB BY;simp only[UInt8.le_iff_toNat_le];rfl
theorem wU(c:UInt8):Lib.isUpperB c=Gg c:=by
 unfold Lib.isUpperB Gg;simp only[UInt8.le_iff_toNat_le];rfl
theorem Zcc(s:Bs):Lib.toUpperA s=xD s:=by
 unfold Lib.toUpperA xD;refine Bq λc _=>?_
 unfold Lib.upperB upC;rw[iB]
theorem Zam(s:Bs):Lib.toLowerA s=DO s:=by
 unfold Lib.toLowerA DO;refine Bq λc _=>?_
 unfold Lib.lowerB CY;rw[wU]
theorem cC{c:UInt8}(h:Ku c=true):c.toNat<128:=by
 unfold Ku Ew BY Gg Dx at h;simp only[C3,B7,decide_eq_true_eq]at h;omega
theorem TF(c:UInt8):([57,65]:Bs).contains c=M9 c:=by
 unfold M9;rw[Bool.eq_iff_iff];simp only[List.contains_cons,List.contains_nil,Bool.or_false,C3,beq_iff_eq,decide_eq_true_eq,←UInt8.toNat_inj];rfl
theorem DE(p:UInt8→Bool):∀l:Bs,l.dropWhile p=[]↔l.all p=true
 |[]=>by simp
 |c::r=>by
  rw[CM];cases h:p c with
  |true=>simpa[h]using DE p r
  |false=>simp[h]
theorem LR(p:UInt8→Bool):∀l:Bs,(l.dropWhile p).all p=true→l.dropWhile p=[]
 |[],_=>rfl
 |c::r,h=>by
  rw[CM]at h ⊢;cases hc:p c with
  |true=>rw[hc]at h;exact LR p r h
  |false=>rw[hc]at h;simp[hc]at h
theorem mI(t:Bs):(Lib.trimS t [57,65]=[])↔t.all M9=true:=by
 unfold Lib.trimS Lib.trimLeftS Lib.trimRightS;have e:(λb=>([57,65]:Bs).contains b)=M9:=funext TF
 rw[show((([57,65]:Bs).contains ·))=M9 from e]
 rw[DE];constructor
 ·intro h;rw[Cb]at h;have:=LR M9 t.reverse h;rw[DE,Cb]at this;exact this
 ·intro h;have:t.reverse.dropWhile M9=[]:=by rw[DE,Cb];exact h
  rw[this];rfl
theorem F1(c:UInt8):Dx c=true↔48≤c.toNat∧c.toNat≤57:=by simp[Dx]
theorem Z8{c:UInt8}{r:Bs}{acc:Nat}(h:Dx c=true)(ha:acc<1000000):Lib.parseUint10 acc (c::r)=Lib.parseUint10 (10*acc+(c.toNat-48)) r:=by
 have:=(F1 c).1 h;simp only[Lib.parseUint10];rw[if_pos this,if_neg (by omega),if_neg (by omega)]
 congr 1;omega
theorem Pr:∀(r:Bs)(n acc:Nat),r.length≤n→n≤4→acc<10^(5-n)→r.all Dx=true→Lib.parseUint10 acc r=.ok (r.foldl (λn c=>10*n+(c.toNat-48)) acc)∧r.foldl (λn c=>10*n+(c.toNat-48)) acc<10^5
 |[],n,acc,_,hn,ha,_=>⟨rfl,by
   simp only[List.foldl_nil];exact Nat.lt_of_lt_of_le ha (Bh (by omega) (by omega))⟩
 |c::r,n,acc,hl,hn,ha,h=>by
  simp only[Dt,B7]at h;obtain⟨n',rfl⟩:∃m,n=m+1:=⟨n-1,by simp at hl;omega⟩
  have hb:10^(5-(n'+1))≤10^4:=Bh (by omega) (by omega)
  have hc:=(F1 c).1 h.1
  have h2:10^(5-n')=10*10^(5-(n'+1)):=by
   rw[show 5-n'=(5-(n'+1))+1 by omega,Nat.pow_succ];omega
  rw[Z8 h.1 (by omega)]
  exact Pr r n' _ (by simp at hl;omega) (by omega) (by omega) h.2
theorem rO{w:Bs}(h:w.all Dx=true)(h1:1≤w.length)(h4:w.length≤4):Lib.atoiAll w=.ok (Lp w:Int)∧Lp w<100000:=by
 have hp:=Pr w 4 0 h4 (by omega) (by omega) h
 refine⟨?_,by simpa[Lp]using hp.2⟩
 cases w with
 |nil=>simp at h1
 |cons c r=>
  simp only[Dt,B7]at h;have hc:=(F1 c).1 h.1;unfold Lib.atoiAll;simp only;rw[if_neg (by omega)]
  unfold Lib.parseMag;rw[if_neg (by simp),hp.1]
  have h5:=hp.2;simp only;rw[if_neg (by omega),if_neg (by omega),if_neg (by omega)]
  rfl
theorem WU(sep:Bs)(M:Nat):∀l:List Bs,(∀x∈l,x.length≤M)→(Lib.joinTail sep l).length≤l.length*(M+sep.length)
 |[],_=>by simp[Lib.joinTail]
 |x::l,h=>by
  have:=WU sep M l (λz hz=>h z (CA _ hz))
  have hx:=h x (by simp)
  unfold Lib.joinTail at*;simp only[BJ,AZ,Aq,Bc]at this ⊢;rw[CW];omega
theorem XZ(sep:Bs)(M:Nat):∀l:List Bs,(∀x∈l,x.length≤M)→(Lib.join l sep).length≤l.length*(M+sep.length)
 |[],_=>by simp[Lib.join_nil]
 |x::l,h=>by
  have:=WU sep M l (λz hz=>h z (CA _ hz))
  have hx:=h x (by simp)
  rw[Lib.join_cons];simp only[Aq,Bc];rw[CW];omega
def Dw(p:Pt)(l:List Bs)(a:Ad):Ad:=
 if p.k=1 then a
 else if p.k=2 then ⟨a.pe,a.st,if Fe (l.headD [])then Lp (l.headD [])else 0,a.co,a.to⟩
 else if p.k=3 then ⟨a.pe,a.st,a.nu,xD (l.headD []),a.to⟩
 else if p.k=4 then ⟨a.pe,Lib.join l [32],a.nu,a.co,a.to⟩
 else if p.k=5 then ⟨a.pe,a.st,a.nu,a.co,Lib.join l [32]⟩
 else ⟨Lib.join l [32],a.st,a.nu,a.co,a.to⟩
def Wy(p:Pt)(l:List Bs):Bool:=
 if p.k=1 then decide (DO (l.headD [])=DO p.t)
 else if p.k=2 then Fe (l.headD [])
 else if p.k=3 then Gd (l.headD []) p.t
 else true
theorem dW(p:Pt)(l:List Bs)(a:Ad):zN p l a=if Wy p l=true then some (Dw p l a)else none:=by
 unfold zN Wy Dw;by_cases h1:p.k=1;·simp[h1]
 ·by_cases h2:p.k=2;·simp only[h2];cases Fe (l.headD [])<;>simp
  ·by_cases h3:p.k=3;·simp[h3]
   ·simp only[h1,h2,h3,if_false,if_true];repeat' split
    all_goals rfl
def SG(P:List Pt)(k:Int):Prop:=∃p∈P,p.k=k
structure NY(P:List Pt)(a b:Ad):Prop where
 nu:¬SG P 2→a.nu=b.nu
 co:¬SG P 3→a.co=b.co
 st:¬SG P 4→a.st=b.st
 to:¬SG P 5→a.to=b.to
 pe:¬SG P 6→a.pe=b.pe
theorem NY.refl(P:List Pt)(a:Ad):NY P a a:=⟨λ_=>rfl,λ_=>rfl,λ_=>rfl,λ_=>rfl,λ_=>rfl⟩
theorem NY.trans{P:List Pt}{a b c:Ad}(h:NY P a b)(k:NY P b c):NY P a c:=
 ⟨λx=>(h.nu x).trans (k.nu x),λx=>(h.co x).trans (k.co x),λx=>(h.st x).trans (k.st x),λx=>(h.to x).trans (k.to x),λx=>(h.pe x).trans (k.pe x)⟩
theorem Iy{P Q:List Pt}(h:∀p∈P,p∈Q){k:Int}(hk:¬SG Q k):¬SG P k:=λ⟨p,hp,e⟩=>hk ⟨p,h p hp,e⟩
theorem NY.mono{P Q:List Pt}{a b:Ad}(h:∀p∈P,p∈Q)(k:NY P a b):NY Q a b:=
 ⟨λx=>k.nu (Iy h x),λx=>k.co (Iy h x),λx=>k.st (Iy h x),λx=>k.to (Iy h x),λx=>k.pe (Iy h x)⟩
theorem NY.nil{a b:Ad}(h:NY [] a b):a=b:=by
 have n:∀k,¬SG [] k:=λk ⟨p,hp,_⟩=>by cases hp
 obtain⟨a1,a2,a3,a4,a5⟩:=a;obtain⟨b1,b2,b3,b4,b5⟩:=b;have h1:=h.nu (n _);have h2:=h.co (n _);have h3:=h.st (n _);have h4:=h.to (n _);have h5:=h.pe (n _)
 simp only at h1 h2 h3 h4 h5;subst h1 h2 h3 h4 h5;rfl
theorem Iz{p:Pt}{P:List Pt}{k:Int}(h1:p.k≠k)(h:¬SG P k):¬SG (p::P) k:=λ⟨q,hq,e⟩=>by
 rcases List.mem_cons.1 hq with rfl|hq;·exact h1 e
 ·exact h ⟨q,hq,e⟩
theorem nP{p:Pt}{l:List Bs}{a:Ad}(h:p.k=1∨p.k=2∨p.k=3∨p.k=4∨p.k=5∨p.k=6):NY [p] a (Dw p l a):=by
 have n:∀k,p.k=k→¬¬SG [p] k:=λk e h=>h ⟨p,by simp,e⟩
 unfold Dw;rcases h with h|h|h|h|h|h<;>simp only[h]<;>constructor<;>intro x<;>first|rfl|exact absurd x (n _ h)
theorem eF{p:Pt}{l:List Bs}{P:List Pt}{a b:Ad}(hp:p.k=1∨p.k=2∨p.k=3∨p.k=4∨p.k=5∨p.k=6)(h:NY (p::P) a b):NY P (Dw p l a) (Dw p l b):=by
 unfold Dw
 rcases hp with hk|hk|hk|hk|hk|hk<;>simp only[hk]<;>constructor<;>intro x<;>first
  |rfl
  |exact h.nu (Iz (by omega) x)
  |exact h.co (Iz (by omega) x)
  |exact h.st (Iz (by omega) x)
  |exact h.to (Iz (by omega) x)
  |exact h.pe (Iz (by omega) x)
def PR(P:List Pt):Prop:=∀p∈P,p.k=1∨p.k=2∨p.k=3∨p.k=4∨p.k=5∨p.k=6
def JW(p:Pt)(ps:List Pt)(ws:List Bs)(a:Ad)(i:Nat):List Ad:=
 if Wy p (ws.take (i+1))=true then EG ps (ws.drop (i+1)) (Dw p (ws.take (i+1)) a)else []
theorem Fl(p:Pt)(ps:List Pt)(ws:List Bs)(a:Ad):EG (p::ps) ws a=(BD (min (DB p) ws.length)).flatMap (JW p ps ws a):=by
 rw[EG];congr 1;funext i
 unfold JW;rw[dW];by_cases h:Wy p (ws.take (i+1))=true;·rw[if_pos h,if_pos h]
 ·rw[if_neg h,if_neg h]
def A2(R:Ad→Ad→Prop):List Ad→List Ad→Prop
 |[],[]=>True
 |x::l,y::m=>R x y∧A2 R l m
 |_,_=>False
theorem P6{R:Ad→Ad→Prop}:∀{l m l' m':List Ad},A2 R l m→A2 R l' m'→A2 R (l++l') (m++m')
 |[],[],_,_,_,h=>h
 |_::_,_::_,_,_,h,k=>⟨h.1,P6 h.2 k⟩
 |[],_::_,_,_,h,_=>h.elim
 |_::_,[],_,_,h,_=>h.elim
theorem NR{R:Ad→Ad→Prop}:∀(l:List Nat)(f g:Nat→List Ad),(∀i∈l,A2 R (f i) (g i))→A2 R (l.flatMap f) (l.flatMap g)
 |[],_,_,_=>trivial
 |i::l,f,g,h=>by
  rw[AR,AR];have h1:=h i (by simp)
  have h2:=NR l f g λj hj=>h j (by simp[hj])
  exact P6 h1 h2
theorem Oy(R:List Pt):∀(ps:List Pt)(ws:List Bs)(a b:Ad),PR ps→NY (ps++R) a b→A2 (NY R) (EG ps ws a) (EG ps ws b)
 |[],[],a,b,_,h=>⟨by simpa using h,trivial⟩
 |[],_::_,a,b,_,h=>trivial
 |p::ps,ws,a,b,hg,h=>by
  rw[Fl,Fl];refine NR _ _ _ λi _=>?_
  unfold JW;split;·exact Oy R ps _ _ _ (λq hq=>hg q (by simp[hq])) (eF (hg p (by simp)) h)
  ·trivial
theorem Kt{R:Ad→Ad→Prop}{f:Ad→List Ad}(hf:∀a b,R a b→f a=f b):∀{l m:List Ad},A2 R l m→l.flatMap f=m.flatMap f
 |[],[],_=>rfl
 |_::_,_::_,h=>by rw[AR,AR,hf _ _ h.1,Kt hf h.2]
 |[],_::_,h=>h.elim
 |_::_,[],h=>h.elim
theorem UE:∀(ls:List (List Pt)) (W:List (List Bs)) (a b:Ad),PR ls.flatten→NY ls.flatten a b→Fc ls W a=Fc ls W b
 |[],[],a,b,_,h=>by
  have e:a=b:=NY.nil (by simpa using h)
  rw[e]
 |[],_::_,a,b,_,_=>rfl
 |_::_,[],a,b,_,_=>rfl
 |l::ls,w::W,a,b,hg,h=>by
  rw[AZ]at h hg;show(EG l w a).flatMap (Fc ls W)=(EG l w b).flatMap (Fc ls W)
  exact Kt (λx y hxy=>UE ls W x y (λq hq=>hg q (by simp[hq])) hxy) (Oy ls.flatten l w a b (λq hq=>hg q (by simp[hq])) h)
def HB(F:List (List Pt))(W:List (List Bs))(i j w:Nat)(a:Ad):List Ad:=
 match F[i]?,W[i]? with
 |some l,some x=>(EG (l.drop j) (x.drop w) a).flatMap (Fc (F.drop (i+1)) (W.drop (i+1)))
 |_,_=>[a]
def ZS(F:List (List Pt))(i j:Nat):List Pt:=((F[i]?.getD []).drop j)++(F.drop (i+1)).flatten
theorem YA{F:List (List Pt)}{W:List (List Bs)}{i j w:Nat}(h:i<F.length)(h2:i<W.length)(a:Ad):HB F W i j w a=(EG (F[i].drop j) (W[i].drop w) a).flatMap (Fc (F.drop (i+1)) (W.drop (i+1))):=by
 unfold HB;rw[Ao h,Ao h2]
theorem OW{F:List (List Pt)}{W:List (List Bs)}{i j w:Nat}(h:F.length≤i)(a:Ad):HB F W i j w a=[a]:=by
 unfold HB;rw[Cu h]
theorem eE{F:List (List Pt)}{i j:Nat}(h:i<F.length):ZS F i j=F[i].drop j++(F.drop (i+1)).flatten:=by
 unfold ZS;rw[Ao h];rfl
theorem SO{F:List (List Pt)}{W:List (List Bs)}(hl:F.length=W.length)(i:Nat)(h:i≤F.length)(a:Ad):HB F W i 0 0 a=Fc (F.drop i) (W.drop i) a:=by
 by_cases h2:i<F.length
 ·rw[YA h2 (by omega),BC,BC,AO h2,AO (by omega:i<W.length)]
  rfl
 ·rw[OW (by omega),Ah (by omega),Ah (by omega)]
  rfl
theorem iP{F:List (List Pt)}(i:Nat)(h:i≤F.length):ZS F i 0=(F.drop i).flatten:=by
 by_cases h2:i<F.length;·rw[eE h2,BC,AO h2,AZ]
 ·unfold ZS;rw[Cu (by omega),Ah (by omega:F.length≤i),Ah (by omega:F.length≤i+1)]
  rfl
theorem kN{F:List (List Pt)}{W:List (List Bs)}(hl:F.length=W.length){i j w:Nat}{a b:Ad}(hg:PR F.flatten)(h:NY (ZS F i j) a b):HB F W i j w a=HB F W i j w b:=by
 unfold HB;unfold ZS at h;cases hF:F[i]? with
 |none=>
  rw[hF]at h;have:F.length≤i:=by simpa using hF
  rw[Ah (by omega:F.length≤i+1)]at h
  have e:a=b:=NY.nil (by simpa using h)
  rw[e]
 |some l=>
  rw[hF]at h;cases hW:W[i]? with
  |none=>
   have h1:W.length≤i:=by simpa using hW
   have h2:i<F.length:=(List.getElem?_eq_some_iff.1 hF).1;omega
  |some x=>
   have hm:l∈F:=List.mem_of_getElem? hF
   exact Kt (λx y hxy=>UE _ _ x y (λq hq=>hg q (by
    obtain⟨m,hm2,hq2⟩:=Cf.1 hq;exact Cf.2 ⟨m,CL hm2,hq2⟩)) hxy) (Oy _ _ _ a b (λq hq=>hg q (Cf.2 ⟨l,hm,CL hq⟩)) h)
def oU(p:Pt):Bool:=decide (DB p=4)
def CB(l:List Pt):Nat:=(l.filter oU).length
theorem R4(p:Pt):DB p=1∨DB p=4:=by unfold DB;split<;>simp
theorem R8(p:Pt)(l:List Pt):CB (p::l)=(if DB p=4 then 1 else 0)+CB l:=by
 unfold CB oU;rw[Cm];by_cases h:DB p=4;·simp[h];omega
 ·simp[h]
theorem MP(p:Pt)(ps:List Pt)(ws:List Bs)(a:Ad)(i:Nat):JW p ps ws a i=[]∨JW p ps ws a i=EG ps (ws.drop (i+1)) (Dw p (ws.take (i+1)) a):=by
 unfold JW;split;·exact .inr rfl
 ·exact .inl rfl
theorem IB(f:Nat→List Ad)(B:Nat):∀N,(∀i,i<N→(f i).length≤B)→((BD N).flatMap f).length≤N*B:=by
 intro N;induction N with
 |zero=>intro _;simp
 |succ N ih=>
  intro h;rw[Bu,Bv,Aq];have h1:=ih λi hi=>h i (by omega)
  have h2:=h N (by omega)
  have e:[N].flatMap f=f N:=by simp
  rw[CW,e];omega
theorem QB(f:Nat→List Ad):∀N,(∀i,i<N→f i=[])→(BD N).flatMap f=[]:=by
 intro N;induction N with
 |zero=>intro _;simp
 |succ N ih=>
  intro h;rw[Bu,Bv,ih λi hi=>h i (by omega)]
  simp[h N (by omega)]
theorem SS(f:Nat→List Ad)(i0:Nat):∀N,(∀i,i<N→(f i).length≤1∧(f i≠[]→i=i0))→((BD N).flatMap f).length≤1:=by
 intro N;induction N with
 |zero=>intro _;simp
 |succ N ih=>
  intro h;have e:[N].flatMap f=f N:=by simp
  rw[Bu,Bv,Aq,e];by_cases hN:f N=[]
  ·have h1:=ih λi hi=>h i (by omega)
   rw[hN,List.length_nil];omega
  ·have hN0:=(h N (by omega)).2 hN
   have h2:=(h N (by omega)).1
   rw[QB f N λi hi=>by
    by_cases hf:f i=[];·exact hf
    ·have:=(h i (by omega)).2 hf;omega]
   simpa using h2
theorem RC:∀(ps:List Pt)(ws:List Bs)(a:Ad),CB ps=0→(EG ps ws a).length≤1∧(EG ps ws a≠[]→ws.length=ps.length)
 |[],[],a,_=>⟨by show [a].length≤1;simp,λ_=>rfl⟩
 |[],_::_,a,_=>⟨by show([]:List Ad).length≤1;simp,λh=>absurd rfl h⟩
 |p::ps,ws,a,h=>by
  rw[R8]at h
  have hm:DB p=1:=by
   rcases R4 p with h2|h2;·exact h2
   ·rw[if_pos h2]at h;omega
  rw[Fl,hm];cases ws with
  |nil=>simp
  |cons w ws=>
   have e:min 1 (w::ws).length=1:=by rw[Bc];omega
   rw[e];have e2:(BD 1).flatMap (JW p ps (w::ws) a)=JW p ps (w::ws) a 0:=by simp[Bu]
   rw[e2];have ih:=RC ps ((w::ws).drop 1) (Dw p ((w::ws).take 1) a) (by omega)
   rcases MP p ps (w::ws) a 0 with h3|h3;·rw[h3];simp
   ·rw[h3];exact⟨ih.1,λh4=>by have:=ih.2 h4;simp at this;simp[this]⟩
theorem J8:∀(ps:List Pt)(ws:List Bs)(a:Ad),(EG ps ws a).length≤4^(CB ps-1)
 |[],[],a=>by show [a].length≤_;simp[CB]
 |[],_::_,a=>BV _
 |p::ps,ws,a=>by
  rw[Fl,R8];rcases R4 p with hm|hm
  ·rw[if_neg (by omega),hm,Nat.zero_add]
   refine C0 (IB _ (4^(CB ps-1)) _ λi hi=>?_) ?_
   ·rcases MP p ps ws a i with h3|h3;·rw[h3];exact BV _
    ·rw[h3];exact J8 ps _ _
   ·calc min 1 ws.length*4^(CB ps-1)≤1*4^(CB ps-1):=Bj _ (by omega)
     _=4^(CB ps-1):=Nat.one_mul _
  ·rw[if_pos hm,hm];by_cases h0:CB ps=0
   ·rw[h0];refine SS _ (ws.length-ps.length-1) _ λi hi=>?_
    have ih:=RC ps (ws.drop (i+1)) (Dw p (ws.take (i+1)) a) h0;rcases MP p ps ws a i with h3|h3;·rw[h3];exact⟨by simp,λh=>absurd rfl h⟩
    ·rw[h3];refine⟨ih.1,λh4=>?_⟩
     have:=ih.2 h4;rw[C1]at this;omega
   ·refine C0 (IB _ (4^(CB ps-1)) _ λi hi=>?_) ?_
    ·rcases MP p ps ws a i with h3|h3;·rw[h3];exact BV _
     ·rw[h3];exact J8 ps _ _
    ·have e:4^(1+CB ps-1)=4*4^(CB ps-1):=by
      obtain⟨k,hk⟩:∃k,CB ps=k+1:=⟨CB ps-1,by omega⟩
      rw[hk,show 1+(k+1)-1=k+1 by omega,show k+1-1=k by omega,Nat.pow_succ];omega
     rw[e];exact Bj _ (by omega)
def Jt(ls:List (List Pt)):Nat:=(ls.map λl=>CB l-1).sum
theorem LQ(f:Ad→List Ad)(B:Nat)(hf:∀a,(f a).length≤B):∀l:List Ad,(l.flatMap f).length≤l.length*B
 |[]=>by simp
 |a::l=>by
  rw[AR,Aq,Bc,CW];have:=LQ f B hf l;have:=hf a;omega
theorem Pk:∀(ls:List (List Pt)) (W:List (List Bs)) (a:Ad),(Fc ls W a).length≤4^Jt ls
 |[],[],a=>by show [a].length≤_;simp[Jt]
 |[],_::_,a=>BV _
 |_::_,[],a=>BV _
 |l::ls,w::W,a=>by
  show((EG l w a).flatMap (Fc ls W)).length≤_
  refine C0 (LQ _ (4^Jt ls) (λa=>Pk ls W a) _) ?_
  have h1:=J8 l w a;have e:4^Jt (l::ls)=4^(CB l-1)*4^Jt ls:=by unfold Jt;rw[BJ,CX,Nat.pow_add]
  rw[e];exact Bj _ h1
theorem XN:∀(ls:List (List Pt)),Jt ls≤CB ls.flatten-1∧CB ls.flatten=(ls.map CB).sum
 |[]=>by simp[Jt,CB]
 |l::ls=>by
  have ih:=XN ls;have e:CB (l::ls).flatten=CB l+CB ls.flatten:=by unfold CB;rw[AZ,List.filter_append,Aq]
  have e2:Jt (l::ls)=(CB l-1)+Jt ls:=by unfold Jt;rw[BJ,CX]
  rw[e,e2,BJ,CX];omega
theorem XB:∀(l:List Int),l.Nodup→(∀x∈l,x=4∨x=5∨x=6)→l.length≤3:=by
 intro l hn h
 have h1:∀(v:Int)(m:List Int),m.Nodup→(m.filter λx=>decide (x=v)).length≤1:=by
  intro v m;induction m with
  |nil=>intro _;simp
  |cons x m ih=>
   intro hn;rw[List.nodup_cons]at hn;rw[Cm];by_cases hx:x=v
   ·rw[if_pos (by simp[hx])]
    have:m.filter (λx=>decide (x=v))=[]:=by
     rw[List.filter_eq_nil_iff];intro y hy hyv;simp at hyv;exact hn.1 (by rw[hx,←hyv];exact hy)
    rw[this];simp
   ·rw[if_neg (by simp[hx])]
    exact ih hn.2
 have h2:∀(m:List Int),(∀x∈m,x=4∨x=5∨x=6)→m.length=(m.filter λx=>decide (x=4)).length+(m.filter λx=>decide (x=5)).length+(m.filter λx=>decide (x=6)).length:=by
  intro m;induction m with
  |nil=>intro _;simp
  |cons x m ih=>
   intro h;have:=ih λy hy=>h y (by simp[hy])
   rcases h x (by simp)with rfl|rfl|rfl<;>simp[Cm]<;>omega
 have:=h1 4 l hn;have:=h1 5 l hn;have:=h1 6 l hn;have:=h2 l h;omega
theorem aR{l:List Pt}(hg:PR l)(hn:(EB l).Nodup):CB l≤3:=by
 have e:CB l=((EB l).filter λk=>decide (k≠2)&&decide (k≠3)).length:=by
  unfold CB EB;rw[List.filter_map,List.length_map,List.filter_filter];congr 1;refine List.filter_congr λp hp=>?_
  unfold oU DB;rcases hg p hp with h|h|h|h|h|h<;>simp[h]
 rw[e];refine XB _ (hn.filter _) λx hx=>?_
 obtain⟨h1,h2⟩:=C4.1 hx;unfold EB at h1;obtain⟨p,hp,rfl⟩:=List.mem_map.1 h1;obtain⟨h3,h4⟩:=C4.1 hp;simp at h2 h4;have:=hg p h3;omega
theorem UD{ls:List (List Pt)}(hg:PR ls.flatten)(hn:(EB ls.flatten).Nodup)(W:List (List Bs))(a:Ad):(Fc ls W a).length≤16:=by
 have h1:=Pk ls W a;have h2:=XN ls;have h3:=aR hg hn;have h4:4^Jt ls≤4^2:=Bh (by omega) (by omega)
 omega
end Go.Proofs.YtdadkhcdoaeabaaGreatDoor.Ff