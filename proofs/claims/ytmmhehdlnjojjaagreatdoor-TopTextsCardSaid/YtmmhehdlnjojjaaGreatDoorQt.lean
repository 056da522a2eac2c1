/- TopTexts: the arguments read. -/
import Derived.Test.YtmmhehdlnjojjaaGreatDoorQy
import Derived.Test.YtmmhehdlnjojjaaGreatDoorQu
import Derived.SevenTiedAt
import Derived.Lay
set_option linter.unusedVariables false
set_option maxRecDepth 100000
set_option linter.unusedSectionVars false
set_option linter.unusedSimpArgs false
open Go.Proofs.Tryz
open Go.Proofs.Tryz renaming prog → Pg
namespace Go.Proofs.YtmmhehdlnjojjaaGreatDoor
open Go.Av
open Go.ChangeShapes Go.WideShapes Go.ChangeAt Go.RowKit
theorem Zdg{m:Nat}{x:AV}(h:Wf Pg (m+3) 31 x):∃r:Cc.Rc,x=r.v/\r.la.length<=9223372036854775807/\∀y∈r.co,y.length<=9223372036854775807:=by
 obtain⟨c,rfl⟩:=h.2.1 (by kernel_rfl);obtain⟨ps,rfl,g⟩:=FU (ts:=[3,3,3,3,9,23]) underlying31 (by kernel_rfl) h.1;obtain⟨p0,_,rfl,h0,g⟩:=A7 g;obtain⟨p1,_,rfl,h1,g⟩:=A7 g;obtain⟨p2,_,rfl,h2,g⟩:=A7 g;obtain⟨p3,_,rfl,h3,g⟩:=A7 g;obtain⟨p4,_,rfl,h4,g⟩:=A7 g;obtain⟨p5,_,rfl,h5,g⟩:=A7 g;obtain rfl:=IC g;obtain⟨n0,rfl,_⟩:=C9 underlying3 h0;obtain⟨n1,rfl,_⟩:=C9 underlying3 h1;obtain⟨n2,rfl,_⟩:=C9 underlying3 h2;obtain⟨n3,rfl,_⟩:=C9 underlying3 h3;obtain⟨la,rfl,l4⟩:=M7 underlying9 h4;obtain⟨co,rfl,_,l5⟩:=Rs underlying23 underlying9 (by kernel_rfl) h5;unfold reachBytes at l4 l5;exact⟨⟨n0,n1,n2,n3,la,co⟩,rfl,by simp only;omega,λy hy=>by have:=l5 y hy;omega⟩
theorem ZhB{w:World}{l:List (String×DataW Unit)}(h:laidMetH Pg l w)(hp:(l.all λx=>x.2.handleName?.isNone)=true)(m0:("strconv.ErrRange",Rows.laid_strconv_ErrRange)∈l)(m1:("strconv.ErrSyntax",Rows.laid_strconv_ErrSyntax)∈l)(m2:("internal/strconv.uint64pow10",Rows.laid_internal_strconv_uint64pow10)∈l)
  (m3:("postilion/lexer.symbols",Rows.laid_postilion_lexer_symbols)∈l) (m4:("postilion/network.keyWords",Rows.laid_postilion_network_keyWords)∈l) (m5:("postilion/printer.keyWords",Rows.laid_postilion_printer_keyWords)∈l) (m6:("postilion/survey.keyWords",Rows.laid_postilion_survey_keyWords)∈l):
  ∀x∈MO,Np.Ze8 w x:=by
 rw[Go.MakeChecks.laidMetH_plain _ _ _ hp]at h;obtain⟨ps,hv,_⟩:=h;intro x hx;unfold MO at hx;simp only[List.mem_cons,List.not_mem_nil,or_false]at hx;rcases hx with rfl|rfl|rfl|rfl|rfl|rfl|rfl;exact Np.S0 (n := "postilion/printer.keyWords") (t:=148) (e:=9) (k:=17) (ss:=Np.gl1) hv m5 (by kernel_rfl) (by kernel_rfl) (by kernel_rfl) underlying9 (by kernel_rfl) (by kernel_rfl);exact Np.S0 (n := "postilion/lexer.symbols") (t:=187) (e:=9) (k:=13) (ss:=Np.gl0) hv m3 (by kernel_rfl) (by kernel_rfl) (by kernel_rfl) underlying9 (by kernel_rfl) (by kernel_rfl);exact Np.Zb2 hv m1 (by kernel_rfl) rfl (by kernel_rfl);exact Np.Zb2 hv m0 (by kernel_rfl) rfl (by kernel_rfl);exact Np.S0 (n := "postilion/network.keyWords") (t:=148) (e:=9) (k:=17) (ss:=Np.gl1) hv m4 (by kernel_rfl) (by kernel_rfl) (by kernel_rfl) underlying9 (by kernel_rfl) (by kernel_rfl);exact Np.ZhA (t:=266) (m:=20) (e:=230) (ss:=[1,10,100,1000,10000,100000,1000000,10000000,100000000,1000000000,10000000000,100000000000,1000000000000,10000000000000,100000000000000,1000000000000000,10000000000000000,100000000000000000,1000000000000000000,10000000000000000000]) hv m2 (by kernel_rfl) rfl (by kernel_rfl) (by kernel_rfl) (by kernel_rfl) (by kernel_rfl);exact Np.S0 (n := "postilion/survey.keyWords") (t:=148) (e:=9) (k:=17) (ss:=Np.gl1) hv m6 (by kernel_rfl) (by kernel_rfl) (by kernel_rfl) underlying9 (by kernel_rfl) (by kernel_rfl)
theorem sK:Tryz.pinned.checked.prog.mainIs=some (true,"21732cf2cbe3177781b2a23944c86ed8eb735c15902de69498ee0f0584696e94".toList):=by kernel_rfl
theorem iK:true=Pg.looks []:=by kernel_rfl
end Go.Proofs.YtmmhehdlnjojjaaGreatDoor