/-
  The order of the formats changes nothing: 'ResolveOrder' answers true. Conditions: the listed tables hold what the program's text lays (the card ties them).
-/
import Derived.Test.YtdadkhcdoaeabaaGreatDoorQt
import Derived.Test.YtdadkhcdoaeabaaGreatDoorTordj
import Derived.Test.YtdadkhcdoaeabaaGreatDoorLe
set_option linter.unusedVariables false
set_option maxRecDepth 100000
namespace Go.Proofs.YtdadkhcdoaeabaaGreatDoor
open Go.Av
open Go.ChangeShapes Go.WideShapes Go.ChangeAt Go.RowKit
theorem PY(xs:List AV)(h:Iy Tryz.prog 6 [22,23,24,3,25,5] xs):AO Tryz.prog 8 xs (λr=>r=.bool true):=by
  obtain⟨x0,_,rfl,h0,h⟩:=Ao h
  obtain⟨x1,_,rfl,h1,h⟩:=Ao h
  obtain⟨x2,_,rfl,h2,h⟩:=Ao h
  obtain⟨x3,_,rfl,h3,h⟩:=Ao h
  obtain⟨x4,_,rfl,h4,h⟩:=Ao h
  obtain⟨x5,_,rfl,h5,h⟩:=Ao h
  obtain rfl:=Ge h
  obtain⟨F0,rfl⟩:=Jz (m:=0) h0
  obtain⟨r1,rfl⟩:=Rr.HX (m:=3) h1
  obtain⟨l2,rfl⟩:=Jy (m:=2) h2
  obtain⟨n3,rfl,k3⟩:=Ci Tryz.underlying3 h3
  obtain⟨l4,rfl,hl4,hs4⟩:=IV (m:=4) Tryz.underlying25 Tryz.underlying9 (by kernel_rfl) h4
  obtain⟨n5,rfl,k5⟩:=Ci Tryz.underlying5 h5
  exact nT F0 r1 l2 n3 l4 n5 k5
theorem Mn(os:Os)(started:os.Started)(H:Type)(enc:TypeId×Value->H):
    ReturnsInHanded {} Tryz.checked os 8 .any (λw args=>(Rows.resolveOrderSpec.pre enc Tryz.prog Tryz.f8 [] false w args/\laidMetH Tryz.prog Rows.resolveOrderRow.laid w)/\sizedMet enc Tryz.prog Tryz.f8 (OpenSpec.ofChange Rows.resolveOrderSpec) false w args)
      (Rows.resolveOrderSpec.post enc Tryz.prog Tryz.f8 false true false false):=by
  refine returnsInHanded_of_change_and (C:=Tryz.checked) (X:=λw _=>laidMetH Tryz.prog Rows.resolveOrderRow.laid w) (λ_ _ _ hh h=>h.of_heap hh) Ff.own started (by kernel_rfl) Tryz.func8
    (ChangeSpec.witness_shaped (enc:=enc) (C:=Tryz.checked) (os:=os) (X:=λw _=>laidMetH Tryz.prog Rows.resolveOrderRow.laid w) false (World.laidAll Tryz.prog os Rows.resolveOrderRow.laid) #[.slice none 0 0,.slice none 0 0,.slice none 0 0,.int .i64 0,.slice none 0 0,.int .u8 0] 8 (World.laidAll_os _ _ _) (World.shaped_of_ZipB (by kernel_rfl) (by kernel_rfl)) (by kernel_rfl) (by kernel_rfl) (by kernel_rfl)
      (by rw[Go.MakeChecks.laidMetH_plain _ _ _ (by kernel_rfl)];exact laidMet_laidAll _ (by kernel_rfl) (by kernel_rfl))) ?_
  intro W base args ds gs before II hW q1 q2 q3 q4
  have hG:=Ff.Lm (l:=Rows.resolveOrderRow.laid) (by assumption) (by kernel_rfl) (List.mem_of_getElem? (i:=4) rfl) (List.mem_of_getElem? (i:=5) rfl) (List.mem_of_getElem? (i:=2) rfl)
  refine EW (P:=Tryz.prog) (m:=6) (ps:=[22,23,24,3,25,5]) (tb:=4) Tryz.params8 (by kernel_rfl) (by kernel_rfl) Ff.laidOut (by kernel_rfl) Tryz.underlying4 rfl (λds hl=>?_) PY II (λx hx=>(hG x hx).1) (λx hx _=>(hG x hx).2) q2 hW
  match ds,hl with
  |[_,_,_,_,_,_],_=>exact⟨rfl,rfl,rfl⟩
theorem Nb:Rows.ResolveOrderSaid:=
  OpenClaim.holds_of_wide 8 Tryz.f8 rfl rfl rfl rfl rfl rfl rfl ⟨rfl,rfl,rfl,rfl,rfl⟩ rfl rfl rfl rfl rfl Ho Tryz.func8 Mo
    (of_decide_eq_true (by kernel_rfl)) (by unfold Func.isWrapper;first|(rw[if_pos (by decide +kernel)];kernel_rfl)|(rw[if_neg (by decide +kernel)];exact⟨rfl,rfl⟩))
    (λos started H enc _=>Mn os started H enc)
end Go.Proofs.YtdadkhcdoaeabaaGreatDoor