/- What the statements of order. -/
import Derived.Test.YtdadkhcdoaeabaaGreatDoorQw
set_option linter.unusedVariables false
set_option maxRecDepth 100000
namespace Go.Proofs.YtdadkhcdoaeabaaGreatDoor
open Go.Av Go.Shelf Go.RowKit
open Rr.Pl (Pt Ad St Ch Bs My Mw E6 Lq Has adS Dd Cr)
open Rr (JH AY)
open Rr.Pl (DD Bm)
theorem YF{F G:List Ff.Fm}{r:List Ch}{l:List Od}{ls:List Bs}(h:IE F r l ls=true)(hm:∀f∈G,f∈F)(hG:G.length≤10):IE G r l ls=true:=by
 obtain⟨h1,h2,h3,h4⟩:=Bp h;unfold IE;rw[decide_eq_true hG,h2,decide_eq_true h3,List.all_eq_true.2 λf hf=>h4 f (hm f hf)]
 rfl
theorem qK{F G:List Ff.Fm}{r:List Ch}{l:List Od}(h:Good F r l)(hm:∀f∈G,f∈F)(hG:G.length≤8):Good G r l:=⟨λf hf=>h.f f (hm f hf),hG,h.r,h.o⟩
theorem Ps{F G:List Ff.Fm}{r:List Ch}{l:List Od}(h:Good F r l)(hm:∀f,f∈F↔f∈G)(hG:G.length≤8)(day:Int)(ls:List Bs){m:Int}(h0:0≤m)(h6:m≤6):
  An F r l day ls m=An G r l day ls m:=Qb hm h (qK h (λf hf=>(hm f).2 hf) hG) day ls h0 h6
end Go.Proofs.YtdadkhcdoaeabaaGreatDoor