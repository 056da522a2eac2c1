/- Changes. -/
import Derived.Test.YtdadkhcdoaeabaaGreatDoorKf2
import Derived.Lib.IndexLaws
import Derived.Lib.Bytealg
set_option linter.unusedVariables false
set_option maxRecDepth 100000
set_option linter.unusedSectionVars false
set_option linter.unusedSimpArgs false
open List renaming getElem?_eq_getElem → Af, getElem_of_mem → Ak, mem_cons → Ax
namespace Go.Proofs.YtdadkhcdoaeabaaGreatDoor.Rr
open Go.Av
namespace Pl
abbrev Bs:=List UInt8
structure Ch where
 da:Int
 ki:Int
 sr:Int
 co:Bs
 to:Bs
 na:Bs
 lo:Int
 hi:Int
 sh:Int
deriving DecidableEq
def Ch.v(c:Ch):AV:=.agg [.int .i64 c.da,.int .i64 c.ki,.int .i64 c.sr,.str c.co,.str c.to,.str c.na,.int .i64 c.lo,.int .i64 c.hi,.int .i64 c.sh]
structure St where
 co:Bs
 to:Bs
 na:Bs
 al:List Bs
 lo:Int
 hi:Int
 sh:Int
 op:Bool
deriving DecidableEq
abbrev strs(l:List Bs):List AV:=l.map AV.str
def St.v(s:St):AV:=.agg [.str s.co,.str s.to,.str s.na,.sl 1 (strs s.al),.int .i64 s.lo,.int .i64 s.hi,.int .i64 s.sh,.bool s.op]
def St.r(s:St)(x:Sv):AV:=.agg [.str s.co,.str s.to,.str s.na,.raw x.v,.int .i64 s.lo,.int .i64 s.hi,.int .i64 s.sh,.bool s.op]
def D5(l:List Ch):AV:=.sl 9 (l.map Ch.v)
def KD(l:List St):AV:=.sl 8 (l.map St.v)
def BJ(c:UInt8):Bool:=decide (97<=c.toNat)&&decide (c.toNat<=122)
def F6(c:UInt8):Bool:=decide (65<=c.toNat)&&decide (c.toNat<=90)
def Dg(c:UInt8):Bool:=decide (48<=c.toNat)&&decide (c.toNat<=57)
def CU(c:UInt8):UInt8:=if F6 c then c+32 else c
def CF(s:Bs):Bs:=s.map CU
def B5(c:UInt8):Bool:=F6 c||BJ c||Dg c||decide (c.toNat=45)||decide (c.toNat=39)
def HV(w:Bs):Bool:=decide (1<=w.length)&&decide (w.length<=20)&&w.all B5
def Gw(c:UInt8):Bool:=F6 c||Dg c
def Jp(s:Bs):Bool:=decide (1<=s.length)&&decide (s.length<=8)&&s.all Gw
def Fc(n:Int):Bool:=decide (1<=n)&&decide (n<=9999)
def E3(n:Int):Bool:=decide (-1000000<=n)&&decide (n<=1000000)
def splitB:Bs->List Bs
 |[]=>[[]]
 |x::r=>if x=32 then []::splitB r else match splitB r with
  |[]=>[[x]]
  |y::ys=>(x::y)::ys
theorem DN(x:UInt8)(r:Bs):splitB (x::r)=if x=32 then []::splitB r else match splitB r with
  |[]=>[[x]]
  |y::ys=>(x::y)::ys:=rfl
theorem FN:∀s:Bs,1<=(splitB s).length
 |[]=>by simp[splitB]
 |x::r=>by
  unfold splitB;split;·simp
  ·split<;>simp
theorem Gh:∀{s:Bs},(32:UInt8)∉s->splitB s=[s]
 |[],_=>rfl
 |x::r,h=>by
  simp only[Ax,not_or]at h;unfold splitB;rw[if_neg (Ne.symm h.1),Gh h.2]
theorem Hh:∀{a:Bs}(r:Bs),(32:UInt8)∉a->splitB (a++32::r)=a::splitB r
 |[],r,_=>by simp[splitB]
 |x::a,r,h=>by
  simp only[Ax,not_or]at h;rw[List.cons_append,DN,if_neg (Ne.symm h.1),Hh r h.2]
theorem EC:∀s:Bs,(splitB s).length=s.count 32+1
 |[]=>rfl
 |x::r=>by
  have ih:=EC r;unfold splitB;by_cases hx:x=32;·rw[if_pos hx,hx];simp[ih]
  ·rw[if_neg hx];have hb:(x == 32)=false:=by simpa using hx
   rw[List.count_cons,hb];cases hs:splitB r with
   |nil=>rw[hs]at ih;simp at ih
   |cons y ys=>rw[hs]at ih;simpa using ih
theorem PH{s:Bs}{m:Nat}(h:s[m]?=some 32)(hb:∀k,k<m->s[k]?≠some 32):splitB s=s.take m::splitB (s.drop (m+1)):=by
 have hm:m<s.length:=(List.getElem?_eq_some_iff.1 h).1
 have e:s=s.take m++32::s.drop (m+1):=by
  have h2:s.drop m=s[m]::s.drop (m+1):=List.drop_eq_getElem_cons hm;have h3:s[m]=32:=by have:=Af hm;rw[h]at this;exact(Option.some.inj this).symm
  rw[<-h3,<-h2,List.take_append_drop]
 have hn:(32:UInt8)∉s.take m:=by
  intro hc;obtain⟨i,hi,he⟩:=Ak hc;simp only[List.length_take]at hi;refine hb i (by omega) ?_
  rw[List.getElem_take]at he;rw[Af (by omega),he]
 have:=Hh (s.drop (m+1)) hn;rw[<-e]at this;exact this
theorem Gi{s:Bs}(h:∀k:Nat,s[k]?≠some 32):splitB s=[s]:=by
 refine Gh λhc=>?_
 obtain⟨i,hi,he⟩:=Ak hc;exact h i (by rw[Af hi,he])
def ET(s:Bs):Bool:=decide (s.length<=84)&&decide ((splitB s).length<=4)&&(splitB s).all HV
def cJ(a b:Bs):Bool:=decide (CF a=CF b)
def Be(s:St)(t:Bs):Bool:=cJ s.na t||s.al.any λa=>cJ a t
def AY(c:Ch):Bool:=
 if c.ki=1 then Jp c.co&&ET c.to&&ET c.na&&Fc c.lo&&Fc c.hi&&decide (c.lo<=c.hi)&&decide (c.sr=0/\c.sh=0)
 else if c.ki=2\/c.ki=5 then ET c.na&&decide (c.co=[]/\c.to=[]/\c.lo=0/\c.hi=0/\c.sh=0)
 else if c.ki=3 then Jp c.co&&decide (c.to=[]/\c.na=[]/\c.lo=0/\c.hi=0/\c.sh=0)
 else if c.ki=4 then decide (c.co=[]/\c.to=[]/\c.na=[]/\c.lo=0/\c.hi=0)
 else if c.ki=6 then decide (c.co=[]/\c.to=[]/\c.na=[]/\c.lo=0/\c.hi=0/\c.sh=0)
 else false
def Eb(l:List St)(n:Int):Bool:=decide (0<=n)&&(match l[n.toNat]? with|some s=>s.op|none=>false)
def BC(s:St)(c:Ch):Except Int St:=
 if c.ki=2 then .ok {s with na:=c.na}
 else if c.ki=3 then .ok {s with co:=c.co}
 else if c.ki=4 then (if Fc (s.lo+c.sh)&&Fc (s.hi+c.sh)then .ok {s with lo:=s.lo+c.sh,hi:=s.hi+c.sh,sh:=s.sh+c.sh} else .error 1)
 else if c.ki=5 then (if Be s c.na then .error 4 else .ok {s with al:=s.al++[c.na]})
 else .ok {s with op:=false}
def Qd(c:Ch):St:=⟨c.co,c.to,c.na,[],c.lo,c.hi,0,true⟩
def KE(l:List St)(c:Ch):Except Int (List St×Nat):=
 if c.ki=1 then .ok (l++[Qd c],l.length)
 else if Eb l c.sr then (match l[c.sr.toNat]? with
  |some s=>(match BC s c with
   |.ok s'=>.ok (l.set c.sr.toNat s',c.sr.toNat)
   |.error e=>.error e)
  |none=>.error 3)
 else .error 3
def Qr(s o:St):Bool:=s.op&&o.op&&decide (s.co=o.co)&&decide (s.lo<=o.hi)&&decide (o.lo<=s.hi)&&(Be s o.na||o.al.any (Be s))
def O2(l:List St)(n:Nat)(s:St)(i:Nat):Bool:=decide (i≠n)&&(match l[i]? with|some o=>Qr s o|none=>false)
def EL(l:List St)(n:Nat):Bool:=match l[n]? with|some s=>(List.range l.length).any (O2 l n s)|none=>false
def EN(p:Option Int)(i:Nat)(l:List St)(c:Ch):Except Int (List St):=
 if 60<=i then .error 2
 else if (match p with|some d=>decide (c.da<d)|none=>false)then .error 50
 else if !(E3 c.da&&AY c)then .error 1
 else match KE l c with
  |.error e=>.error e
  |.ok (l',n)=>if EL l' n then .error 51 else .ok l'
def IZ:List Ch->Nat->Option Int->List St->List St×Int×Int
 |[],_,_,l=>(l,0,-1)
 |c::r,i,p,l=>match EN p i l c with
  |.error e=>([],e,i)
  |.ok l'=>IZ r (i+1) (some c.da) l'
def Dq(r:List Ch):List St×Int×Int:=IZ r 0 none []
end Pl
end Go.Proofs.YtdadkhcdoaeabaaGreatDoor.Rr