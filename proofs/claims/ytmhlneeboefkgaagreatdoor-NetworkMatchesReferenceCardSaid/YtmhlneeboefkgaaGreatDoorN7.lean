import Derived.Test.YtmhlneeboefkgaaGreatDoorN6
import Derived.Test.YtmhlneeboefkgaaGreatDoorKf
set_option linter.unusedVariables false
set_option linter.unusedSimpArgs false
namespace Go.Proofs.YtmhlneeboefkgaaGreatDoor
open Go.Av Go.Av.Net
def calA (c : Cal) : AV := .agg [.int .i64 c.zone, .sl 1 (c.week.map .bool), .sl 1 (c.hols.map (.int .i64))]
def operA (s : Bs) : AV := .agg [.str s]
def offA (o : Off) : AV := .agg [.str o.name, .int .i64 o.oper, .int .i64 o.cal, .int .i64 o.pockets, .int .i64 o.passes, .int .i64 o.minutes, .sl 1 (strs o.codes)]
def linA (l : Lin) : AV := .agg [.str l.name, .int .i64 l.from_, .int .i64 l.to_, .int .i64 l.at_, .int .i64 l.travel, .int .i64 l.load]
def clsA (c : Cls) : AV := .agg [.str c.name, .int .i64 c.cut, .int .i64 c.deliver]
/-- What else the parser's variable holds. -/
structure V6 where
 a : Value
 b : Value
 c : Value
 d : Value
 e : Value
 f : Value
/-- The parser, at the place that it has in Parse; the six lists of its network. -/
def PQ (ts : List Tok) (len : Nat) (i : Nat) (a b c d e f : AV) : List HO := oneK 4 [.sl 3 (toksA ts), .int .i64 i, .int .i64 len, a, b, c, d, e, f]
def PQr (ts : List Tok) (len : Nat) (i : Nat) (v : V6) : List HO := PQ ts len i (.raw v.a) (.raw v.b) (.raw v.c) (.raw v.d) (.raw v.e) (.raw v.f)
/-- The panic with which parsing ends: at a token, or at the end. -/
def failA (ts : List Tok) (len : Nat) (e : Int) (i : Nat) : AV := .iface 52 (.agg [.int .i64 e, .int .i64 (offs ts len i)])
theorem toksA_get (l : List Tok) (k : Nat) (h : k < l.length) : (toksA l)[k]? = some (tokA l[k]) := by simp [toksA, h]
theorem closed_map {α : Type} (f : α → AV) (hf : ∀ x, closed (f x) = true) (l : List α) : ∀ e ∈ l.map f, closed e = true := by
 intro e he
 obtain ⟨x, _, rfl⟩ := List.mem_map.1 he
 exact hf x
set_option maxRecDepth 20000 in
theorem peek_spec (ts : List Tok) (len i : Nat) (v : V6) (hl : ts.length ≤ 3000) (hi : i ≤ ts.length) :
  HCtr Tryz.prog 51 [.ptr 4 0] (PQr ts len i v) (fun r H => ∃ h : i < ts.length, r = tokA ts[i] ∧ H = PQr ts len i v) (fun x H => ts.length ≤ i ∧ x = failA ts len 91 i ∧ H = PQr ts len i v) := by
 refine HCtr.of_body Tryz.func51 rfl tys_ok (by kernel_rfl) rfl ?_
 conv => whnf
 refine cd_sound tys_ok _ ?_
 conv => whnf
 refine ACode.draw [] tys_ok (by kernel_rfl) (by kernel_rfl) ?_
 conv => whnf
 refine ⟨fun h => ?_, fun h => ?_⟩
 ·have h : ts.length ≤ i := by simp at h; omega
  conv => whnf
  refine ⟨h, ?_, rfl⟩
  rw [failA, offs, List.getElem?_eq_none h]
 ·have h : i < ts.length := by simp at h; omega
  conv => whnf
  refine ACode.draw [10] tys_ok (by kernel_rfl) (by kernel_rfl) ?_
  conv => whnf
  refine ⟨by omega, tokA ts[i], toksA_get _ _ h, ?_⟩
  conv => whnf
  exact ⟨h, rfl, rfl⟩
theorem hand_PQ (ts : List Tok) (len i : Nat) (v : V6) (rest : List HO) : handK (PQr ts len i v) (PQr ts len i v) (PQr ts len i v ++ rest) True :=
 ⟨rfl, rfl, trivial⟩
set_option maxRecDepth 20000 in
theorem wrong_spec (ts : List Tok) (len i : Nat) (v : V6) (hl : ts.length ≤ 3000) (hi : i ≤ ts.length) :
  HCtr Tryz.prog 17 [.ptr 4 0] (PQr ts len i v) (fun _ _ => False) (fun x H => x = failA ts len (if i < ts.length then 90 else 91) i ∧ H = PQr ts len i v) := by
 refine HCtr.of_body Tryz.func17 rfl tys_ok (by kernel_rfl) rfl ?_
 conv => whnf
 refine cd_sound tys_ok _ ?_
 conv => whnf
 refine ACall.of_h (peek_spec ts len i v hl hi) rfl (hand_PQ ts len i v []) ?_ ?_
 ·rintro r H1 ⟨h, rfl, rfl⟩
  (conv => whnf)
  rw [if_pos h]
  refine ⟨?_, rfl⟩
  unfold failA offs
  rw [List.getElem?_eq_getElem h]
 ·rintro r H1 ⟨h, rfl, rfl⟩
  (conv => whnf)
  rw [if_neg (by omega)]
  exact ⟨rfl, rfl⟩
end Go.Proofs.YtmhlneeboefkgaaGreatDoor
