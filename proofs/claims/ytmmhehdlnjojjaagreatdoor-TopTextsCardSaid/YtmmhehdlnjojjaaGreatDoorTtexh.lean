/-
  What is written is read again: 'TopTexts' answers true. Conditions: the listed tables hold what the program's text lays (the card ties them).
-/
import Derived.Test.YtmmhehdlnjojjaaGreatDoorQt
import Derived.Test.YtmmhehdlnjojjaaGreatDoorTtexj
set_option maxRecDepth 100000
set_option linter.unusedVariables false
set_option maxRecDepth 100000
namespace Go.Proofs.YtmmhehdlnjojjaaGreatDoor
open Go.Av
open Go.ChangeShapes Go.WideShapes Go.ChangeAt Go.RowKit
theorem Yc(xs:List AV)(h:Vv Tryz.prog 6 [29,3,3,31] xs):Au Tryz.prog 3 xs (λr=>r=.bool true):=by
  obtain⟨x0,_,rfl,h0,h⟩:=Nf h
  obtain⟨x1,_,rfl,h1,h⟩:=Nf h
  obtain⟨x2,_,rfl,h2,h⟩:=Nf h
  obtain⟨x3,_,rfl,h3,h⟩:=Nf h
  obtain rfl:=zD h
  obtain⟨n0,rfl,hN0⟩:=Np.Zdh (m:=1) h0
  obtain⟨n1,rfl,k1⟩:=X9 Tryz.underlying3 h1
  obtain⟨n2,rfl,k2⟩:=X9 Tryz.underlying3 h2
  obtain⟨r3,rfl,hla,hco⟩:=Zdg (m:=3) h3
  exact sA n0 n1 n2 r3 hN0 k1 k2 hla hco
theorem Sy(os:Os)(started:os.Started)(H:Type)(enc:TypeId×Value->H):
    ReturnsInHanded {} Tryz.checked os 3 .any (λw args=>(Rows.topTextsSpec.pre enc Tryz.prog Tryz.f3 [] false w args/\laidMetH Tryz.prog Rows.topTextsRow.laid w)/\sizedMet enc Tryz.prog Tryz.f3 (OpenSpec.ofChange Rows.topTextsSpec) false w args)
      (Rows.topTextsSpec.post enc Tryz.prog Tryz.f3 false true false false):=by
  refine returnsInHanded_of_change_and (C:=Tryz.checked) (X:=λw _=>laidMetH Tryz.prog Rows.topTextsRow.laid w) (λ_ _ _ hh h=>h.of_heap hh) Np.own started (by kernel_rfl) Tryz.func3
    (ChangeSpec.witness_shaped (enc:=enc) (C:=Tryz.checked) (os:=os) (X:=λw _=>laidMetH Tryz.prog Rows.topTextsRow.laid w) false (World.laidAll Tryz.prog os Rows.topTextsRow.laid) #[.agg #[.slice none 0 0,.slice none 0 0,.slice none 0 0,.slice none 0 0,.slice none 0 0,.slice none 0 0],.int .i64 0,.int .i64 0,.agg #[.int .i64 0,.int .i64 0,.int .i64 0,.int .i64 0,.string .empty,.slice none 0 0]] 8 (World.laidAll_os _ _ _) (World.shaped_of_ZipB (by kernel_rfl) (by kernel_rfl)) (by kernel_rfl) (by kernel_rfl) (by kernel_rfl)
      (by rw[Go.MakeChecks.laidMetH_plain _ _ _ (by kernel_rfl)];exact laidMet_laidAll _ (by kernel_rfl) (by kernel_rfl))) ?_
  intro W base args ds gs before ZgT hW q1 q2 q3 q4
  have hG:=ZhB (l:=Rows.topTextsRow.laid) (by assumption) (by kernel_rfl) (List.mem_of_getElem? (i:=4) rfl) (List.mem_of_getElem? (i:=5) rfl) (List.mem_of_getElem? (i:=2) rfl) (List.mem_of_getElem? (i:=7) rfl) (List.mem_of_getElem? (i:=8) rfl) (List.mem_of_getElem? (i:=9) rfl) (List.mem_of_getElem? (i:=6) rfl)
  refine uK (P:=Tryz.prog) (m:=6) (ps:=[29,3,3,31]) (tb:=4) Tryz.params3 (by kernel_rfl) (by kernel_rfl) Np.laidOut (by kernel_rfl) Tryz.underlying4 rfl (λds hl=>?_) Yc ZgT (λx hx=>(hG x hx).1) (λx hx _=>(hG x hx).2) q2 hW
  match ds,hl with
  |[_,_,_,_],_=>exact⟨rfl,rfl,rfl⟩
theorem Ti:Rows.TopTextsSaid:=
  OpenClaim.holds_of_wide 3 Tryz.f3 rfl rfl rfl rfl rfl rfl rfl ⟨rfl,rfl,rfl,rfl,rfl⟩ rfl rfl rfl rfl rfl Md Tryz.func3 Sz
    (of_decide_eq_true (by kernel_rfl)) (by unfold Func.isWrapper;first|(rw[if_pos (by decide +kernel)];kernel_rfl)|(rw[if_neg (by decide +kernel)];exact⟨rfl,rfl⟩))
    (λos started H enc _=>Sy os started H enc)
end Go.Proofs.YtmmhehdlnjojjaaGreatDoor