/- The laws: Limits. -/
import Derived.Test.YtdadkhcdoaeabaaGreatDoorQw
set_option linter.unusedVariables false
set_option maxRecDepth 100000
open Int renaming tmod_eq_emod_of_nonneg → Ah, tmod → Aq
open Go.IntKind renaming signed → Ao, bits → AO, min → AR, max → AZ
namespace Go.Proofs.YtdadkhcdoaeabaaGreatDoor
open Go.Av Go.Shelf Go.RowKit
open Rr.Pl (Pt Ad St Ch Bs My Mw E6 Lq)
open Rr (JH AY)
open Rr.Pl (DD Bm)
theorem aT(F:List Ff.Fm)(r:List Ch)(l:List Od)(day:Int)(ls:List Bs)(a b:Int)(ha:DF .u8 a)(hb:DF .u8 b):Aw Tryz.prog 6 [Zc F,E6 r,H7 l,.int .i64 day,Ff.A3 ls,.int .u8 a,.int .u8 b] (λx=>x=.bool true):=by
 refine Aw.Ai Tryz.func6 rfl Ae (by kernel_rfl) ?_
 conv=>whnf
 repeat(refine sT rfl ?_;conv=>whnf)
 refine cS (Iw) rfl ?_;conv=>whnf
 repeat(refine sT rfl ?_;conv=>whnf)
 refine cS (Dg F r l ls) rfl ?_;conv=>whnf
 repeat(refine sT rfl ?_;conv=>whnf)
 refine⟨λh=>?_,λh=>?_⟩
 ·conv=>whnf
  repeat(refine sT rfl ?_;conv=>whnf)
 ·have h:F7 F r l ls=true:=by simpa using h
  obtain⟨h1,h2,h3⟩:=GN h;obtain⟨a0,a1⟩:0≤a∧a≤255:=by unfold DF AR AZ AO Ao at ha;simp at ha;omega
  obtain⟨b0,b1⟩:0≤b∧b≤255:=by unfold DF AR AZ AO Ao at hb;simp at hb;omega
  conv=>whnf
  repeat(refine sT rfl ?_;conv=>whnf)
  refine⟨by decide,?_⟩
  have w0:∀x:Int,0≤x→x≤1000→Wr .i64 x=x:=λx h0 h1=>Cy _ _ (by unfold DF AR AZ AO Ao;simp;omega)
  rw[w0 a (by omega) (by omega)]
  have hm0:0≤Aq a 7∧Aq a 7≤6:=by
   rw[Ah a0];omega
  generalize Aq a 7=m at*;conv=>whnf
  repeat(refine sT rfl ?_;conv=>whnf)
  rw[w0 b (by omega) (by omega),w0 (7-m) (by omega) (by omega)]
  refine⟨by omega,?_⟩
  have ht0:0≤Aq b (7-m)∧Aq b (7-m)<7-m:=by
   rw[Ah b0];exact⟨Int.emod_nonneg _ (by omega),Int.emod_lt_of_pos _ (by omega)⟩
  generalize Aq b (7-m)=t at*;conv=>whnf
  repeat(refine sT rfl ?_;conv=>whnf)
  rw[w0 (m+t) (by omega) (by omega)]
  have hn0:m≤m+t∧m+t≤6:=by omega
  generalize m+t=n at*;refine cS (Em h1 day m) rfl ?_;conv=>whnf
  repeat(refine sT rfl ?_;conv=>whnf)
  refine cS (Em h1 day n) rfl ?_;conv=>whnf
  repeat(refine sT rfl ?_;conv=>whnf)
  obtain⟨q1,q2⟩:=VW h2 day ls hm0.1 hn0.1 hn0.2;repeat' (first|(refine And.intro (λ_=>?_) (λ_=>?_)<;>conv=>whnf)|(refine cS (GZ (Bp h1).1 (Bp h1).1 r l l day ls m n) rfl ?_;conv=>whnf)|(refine sT rfl ?_;conv=>whnf))
  all_goals (clear hm0 hn0 ht0 w0 a0 a1 b0 b1 ha hb h1 h2 h3;generalize An F r l day ls m=x at*;generalize An F r l day ls n=y at*;simp_all)
end Go.Proofs.YtdadkhcdoaeabaaGreatDoor