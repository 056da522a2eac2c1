/- The laws: Limits. -/
import Derived.Test.YtdadkhcdoaeabaaGreatDoorQv
set_option linter.unusedVariables false
set_option maxRecDepth 100000
set_option linter.unusedSectionVars false
set_option linter.unusedSimpArgs false
open Int renaming tmod_eq_emod_of_nonneg → Af, tmod → Ax
open Go.IntKind renaming signed → Ak, bits → AP, min → A0, max → A7
namespace Go.Proofs.YtdadkhcdoaeabaaGreatDoor
open Go.Av Go.Shelf Go.RowKit
open Rr.Pl (Pt Ad St Ch Bs Mv HT D5 KD)
open Rr (E6 Ar)
open Rr.Pl (CA AW)
theorem fO(F:List Ff.Fm)(r:List Ch)(l:List Od)(day:Int)(ls:List Bs)(a b:Int)(ha:DJ .u8 a)(hb:DJ .u8 b):AO Tryz.prog 6 [Vc F,D5 r,Hr l,.int .i64 day,Ff.AQ ls,.int .u8 a,.int .u8 b] (λx=>x=.bool true):=by
 refine AO.A3 Tryz.func6 rfl Ag (by kernel_rfl) ?_
 conv=>whnf
 repeat(refine sT rfl ?_;conv=>whnf)
 refine cS (F1) rfl ?_;conv=>whnf
 repeat(refine sT rfl ?_;conv=>whnf)
 refine cS (Ct F r l ls) rfl ?_;conv=>whnf
 repeat(refine sT rfl ?_;conv=>whnf)
 refine⟨λh=>?_,λh=>?_⟩
 ·conv=>whnf
  repeat(refine sT rfl ?_;conv=>whnf)
 ·have h:FH F r l ls=true:=by simpa using h
  obtain⟨h1,h2,h3⟩:=FG h;obtain⟨a0,a1⟩:0<=a/\a<=255:=by unfold DJ A0 A7 AP Ak at ha;simp at ha;omega
  obtain⟨b0,b1⟩:0<=b/\b<=255:=by unfold DJ A0 A7 AP Ak at hb;simp at hb;omega
  conv=>whnf
  repeat(refine sT rfl ?_;conv=>whnf)
  refine⟨by decide,?_⟩
  have w0:∀x:Int,0<=x->x<=1000->Wr .i64 x=x:=λx h0 h1=>DI _ _ (by unfold DJ A0 A7 AP Ak;simp;omega)
  rw[w0 a (by omega) (by omega)]
  have hm0:0<=Ax a 7/\Ax a 7<=6:=by
   rw[Af a0];omega
  generalize Ax a 7=m at*;conv=>whnf
  repeat(refine sT rfl ?_;conv=>whnf)
  rw[w0 b (by omega) (by omega),w0 (7-m) (by omega) (by omega)]
  refine⟨by omega,?_⟩
  have ht0:0<=Ax b (7-m)/\Ax b (7-m)<7-m:=by
   rw[Af b0];exact⟨Int.emod_nonneg _ (by omega),Int.emod_lt_of_pos _ (by omega)⟩
  generalize Ax b (7-m)=t at*;conv=>whnf
  repeat(refine sT rfl ?_;conv=>whnf)
  rw[w0 (m+t) (by omega) (by omega)]
  have hn0:m<=m+t/\m+t<=6:=by omega
  generalize m+t=n at*;refine cS (DR h1 day m) rfl ?_;conv=>whnf
  repeat(refine sT rfl ?_;conv=>whnf)
  refine cS (DR h1 day n) rfl ?_;conv=>whnf
  repeat(refine sT rfl ?_;conv=>whnf)
  obtain⟨q1,q2⟩:=XL h2 day ls hm0.1 hn0.1 hn0.2;repeat' (first|(refine And.intro (λ_=>?_) (λ_=>?_)<;>conv=>whnf)|(refine cS (Hl (A5 h1).1 (A5 h1).1 r l l day ls m n) rfl ?_;conv=>whnf)|(refine sT rfl ?_;conv=>whnf))
  all_goals (clear hm0 hn0 ht0 w0 a0 a1 b0 b1 ha hb h1 h2 h3;generalize Ai F r l day ls m=x at*;generalize Ai F r l day ls n=y at*;simp_all)
end Go.Proofs.YtdadkhcdoaeabaaGreatDoor