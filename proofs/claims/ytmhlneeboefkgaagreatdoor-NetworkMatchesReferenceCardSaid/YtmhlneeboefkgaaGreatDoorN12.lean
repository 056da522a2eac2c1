import Derived.Test.YtmhlneeboefkgaaGreatDoorN11
set_option linter.unusedVariables false
set_option linter.unusedSimpArgs false
namespace Go.Proofs.YtmhlneeboefkgaaGreatDoor
open Go.Av Go.Av.Net
open Go.RowKit (Below)
theorem digitVal_of {b : UInt8} (h : digB b = true) : Lib.digitVal b = some (b.toNat - 48) ∧ 48 ≤ b.toNat ∧ b.toNat ≤ 57 := by
 unfold digB at h
 simp only [Bool.and_eq_true, decide_eq_true_eq] at h
 unfold Lib.digitVal
 rw [if_pos h]
 exact ⟨rfl, h⟩
theorem decFrom_eq : ∀ (l : Bs) (acc k : Nat), (∀ b ∈ l, digB b = true) → acc < 10 ^ k → ∃ m : Nat, Lib.decFrom acc l = some m ∧ (m : Int) = l.foldl (fun n b => 10 * n + ((b.toNat : Int) - 48)) (acc : Int) ∧ m < 10 ^ (k + l.length)
 | [], acc, k, _, h => ⟨acc, rfl, rfl, by simpa using h⟩
 | b :: l, acc, k, hd, h => by
  obtain ⟨h1, h2, h3⟩ := digitVal_of (hd b (by simp))
  obtain ⟨m, k1, k2, k3⟩ := decFrom_eq l (acc * 10 + (b.toNat - 48)) (k + 1) (fun x hx => hd x (by simp [hx])) (by rw [Nat.pow_succ]; omega)
  refine ⟨m, by rw [Lib.decFrom, h1]; exact k1, ?_, by rw [List.length_cons, show k + (l.length + 1) = k + 1 + l.length by omega]; exact k3⟩
  rw [k2, List.foldl_cons]
  congr 1
  omega
theorem atoi_eq (s : Bs) (h1 : 1 ≤ s.length) (hd : ∀ b ∈ s, digB b = true) : Lib.atoi s = some (decV s) := by
 obtain ⟨m, k1, k2, k3⟩ := decFrom_eq s 0 0 hd (by simp)
 cases s with
 | nil => simp at h1
 | cons b r =>
  obtain ⟨_, h2, h3⟩ := digitVal_of (hd b (by simp))
  have e1 : (b == 45) = false := by rw [beq_eq_false_iff_ne]; rintro rfl; simp at h2
  have e2 : (b == 43) = false := by rw [beq_eq_false_iff_ne]; rintro rfl; simp at h2
  show (if (b == 45) = true then _ else if (b == 43) = true then _ else (Lib.decNat (b :: r)).map fun (m : Nat) => (m : Int)) = _
  rw [e1, e2]
  simp only [Bool.false_eq_true, if_false, Lib.decNat, List.isEmpty_cons, k1, Option.map_some]
  rw [k2]
  rfl
theorem decV_range (s : Bs) (h8 : s.length ≤ 8) (hd : ∀ b ∈ s, digB b = true) : 0 ≤ decV s ∧ decV s < 100000000 := by
 obtain ⟨m, k1, k2, k3⟩ := decFrom_eq s 0 0 hd (by simp)
 have : (10 : Nat) ^ (0 + s.length) ≤ 10 ^ 8 := Nat.pow_le_pow_right (by omega) (by omega)
 have e : decV s = (m : Int) := by rw [k2]; rfl
 rw [e]
 omega
open Go.RowKit in
theorem bytesWorld_below (w : World) (e : TypeId) (s : ByteArray) : Below w.heap.size w (Lib.bytesWorld w e s) :=
 ⟨rfl, rfl, rfl, by rw [Lib.bytesWorld_size]; omega, fun k hk => Lib.bytesWorld_at_old w e s k (by omega)⟩
theorem atoi_spec (s : Bs) (h1 : 1 ≤ s.length) (h8 : s.length ≤ 8) (hd : ∀ b ∈ s, digB b = true) : Ctr Tryz.prog 72 [.str s] (fun r => r = .tuple [.int .i64 (decV s), .raw .nilIface]) := by
 refine ⟨by kernel_rfl, fun C w vs hlt hr => ?_⟩
 unfold Reps at hr
 obtain ⟨v, vs', rfl, h2, hr⟩ := hr
 unfold Reps at hr
 subst hr
 unfold Rep at h2
 obtain ⟨rfl, _⟩ := h2
 refine (Tryz.strconv_Atoi ⟨s.toArray⟩ (decV s) (by show s.toArray.size ≤ 18; rw [List.size_toArray]; omega) (by simpa using atoi_eq s h1 hd) w).mono fun e w' ⟨h3, t, h4⟩ => ?_
 subst h4
 have hr := decV_range s h8 hd
 refine ⟨_, _, h3, rfl, bytesWorld_below _ _ _, ?_⟩
 unfold Rep
 refine ⟨_, rfl, ?_⟩
 unfold Reps
 refine ⟨_, _, rfl, ?_, ?_⟩
 ·unfold Rep
  exact ⟨rfl, inK64.2 (by omega)⟩
 ·unfold Reps
  refine ⟨_, _, rfl, ?_, ?_⟩
  ·unfold Rep; rfl
  ·unfold Reps; rfl
theorem peek_ok {ts : List Tok} {i j : Nat} {t : Tok} (h : peekP ts i = .ok t j) : ∃ h : i < ts.length, t = ts[i] ∧ j = i := by
 unfold peekP at h
 rcases Nat.lt_or_ge i ts.length with h' | h'
 ·rw [List.getElem?_eq_getElem h'] at h; cases h; exact ⟨h', rfl, rfl⟩
 ·rw [List.getElem?_eq_none h'] at h; cases h
theorem numberP_peek (ts : List Tok) (i : Nat) : numberP (kts ts) i = (peekP ts i).bind fun t i => bif decide (t.kind = 2) then .ok (decV t.text) (i + 1) else .fail 90 i := by
 unfold numberP peekP
 rcases Nat.lt_or_ge i ts.length with h' | h'
 ·rw [kts_lt ts i h', List.getElem?_eq_getElem h']; rfl
 ·rw [kts_ge ts i h', List.getElem?_eq_none h']; rfl
set_option maxRecDepth 20000 in
theorem number_m (ts : List Tok) (len i : Nat)  (ht : TsOK ts) (hi : i ≤ ts.length) : MCtr 50 [.ptr 4 0] ts len i (numberP (kts ts) i) (.int .i64) := by
 have hl := ht.len
 intro v
 generalize hp : numberP (kts ts) i = p
 replace hp := hp.symm
 refine HCtr.of_body Tryz.func50 rfl tys_ok (by kernel_rfl) rfl ?_
 conv => whnf
 repeat (first | refine ACode.seq ?_ | (refine ACode.s_reg tys_ok ?_; conv => whnf) | refine ACode.s_block ?_ | refine ACode.s_scope ?_ | (refine ACode.s_cond ?_; conv => whnf) | (refine ACode.s_exit ?_; conv => whnf) | (refine ACode.s_ret ?_; conv => whnf) | (refine ACode.s_skip ?_; conv => whnf) | (refine ACode.s_label ?_; conv => whnf))
 rw [numberP_peek] at hp
 refine ACall.of_m (peek_m ts len i hl hi) hp (fun _ => rfl) rfl (fun j e k h hk => ?_) (fun t i hq hp hi => ?_)
 ·conv => whnf
  exact ⟨_, _, _, h, hk, rfl, rfl⟩
 conv => whnf
 repeat (first | refine ACode.seq ?_ | (refine ACode.s_reg tys_ok ?_; conv => whnf) | refine ACode.s_block ?_ | refine ACode.s_scope ?_ | (refine ACode.s_cond ?_; conv => whnf) | (refine ACode.s_exit ?_; conv => whnf) | (refine ACode.s_ret ?_; conv => whnf) | (refine ACode.s_skip ?_; conv => whnf) | (refine ACode.s_label ?_; conv => whnf))
 obtain ⟨h, rfl, rfl⟩ := peek_ok hq
 obtain ⟨_, h2⟩ := ht.tok _ (List.getElem_mem h)
 refine ⟨fun hk => ?_, fun hk => ?_⟩
 ·repeat (first | refine ACode.seq ?_ | (refine ACode.s_reg tys_ok ?_; conv => whnf) | refine ACode.s_block ?_ | refine ACode.s_scope ?_ | (refine ACode.s_cond ?_; conv => whnf) | (refine ACode.s_exit ?_; conv => whnf) | (refine ACode.s_ret ?_; conv => whnf) | (refine ACode.s_skip ?_; conv => whnf) | (refine ACode.s_label ?_; conv => whnf))
  refine ACall.of_wrong (p := p) ts len i hl (by omega) (by rw [if_pos h]; simp_all) rfl (fun j e k h hk => ?_)
  ·conv => whnf
   exact ⟨_, _, _, h, hk, rfl, rfl⟩
 ·repeat (first | refine ACode.seq ?_ | (refine ACode.s_reg tys_ok ?_; conv => whnf) | refine ACode.s_block ?_ | refine ACode.s_scope ?_ | (refine ACode.s_cond ?_; conv => whnf) | (refine ACode.s_exit ?_; conv => whnf) | (refine ACode.s_ret ?_; conv => whnf) | (refine ACode.s_skip ?_; conv => whnf) | (refine ACode.s_label ?_; conv => whnf))
  have hk : ts[i].kind = 2 := by simpa using hk
  obtain ⟨h1, h8, hd⟩ := h2 hk
  refine ACall.of_spec (atoi_spec _ h1 h8 hd) rfl fun r hr => ?_
  subst hr
  conv => whnf
  repeat (first | refine ACode.seq ?_ | (refine ACode.s_reg tys_ok ?_; conv => whnf) | refine ACode.s_block ?_ | refine ACode.s_scope ?_ | (refine ACode.s_cond ?_; conv => whnf) | (refine ACode.s_exit ?_; conv => whnf) | (refine ACode.s_ret ?_; conv => whnf) | (refine ACode.s_skip ?_; conv => whnf) | (refine ACode.s_label ?_; conv => whnf))
  rw [hk] at hp
  refine ⟨_, _, hp, h, rfl, ?_⟩
  rw [Wr64 _ (by omega) (by omega)]
  rfl
set_option maxRecDepth 20000 in
theorem field_m (ts : List Tok) (len i : Nat)  (w : Bs) (ht : TsOK ts) (hi : i ≤ ts.length) : MCtr 46 [.ptr 4 0, .str w] ts len i (fieldP (kts ts) w i) (.int .i64) := by
 have hl := ht.len
 intro v
 generalize hp : fieldP (kts ts) w i = p
 replace hp := hp.symm
 unfold fieldP at hp
 refine HCtr.of_body Tryz.func46 rfl tys_ok (by kernel_rfl) rfl ?_
 conv => whnf
 repeat (first | refine ACode.seq ?_ | (refine ACode.s_reg tys_ok ?_; conv => whnf) | refine ACode.s_block ?_ | refine ACode.s_scope ?_ | (refine ACode.s_cond ?_; conv => whnf) | (refine ACode.s_exit ?_; conv => whnf) | (refine ACode.s_ret ?_; conv => whnf) | (refine ACode.s_skip ?_; conv => whnf) | (refine ACode.s_label ?_; conv => whnf))
 refine ACall.of_m (word_m ts len i w hl hi) hp (fun _ => rfl) rfl (fun j e k h hk => ?_) (fun _ i hq hp hi => ?_)
 ·conv => whnf
  exact ⟨_, _, _, h, hk, rfl, rfl⟩
 conv => whnf
 repeat (first | refine ACode.seq ?_ | (refine ACode.s_reg tys_ok ?_; conv => whnf) | refine ACode.s_block ?_ | refine ACode.s_scope ?_ | (refine ACode.s_cond ?_; conv => whnf) | (refine ACode.s_exit ?_; conv => whnf) | (refine ACode.s_ret ?_; conv => whnf) | (refine ACode.s_skip ?_; conv => whnf) | (refine ACode.s_label ?_; conv => whnf))
 refine ACall.of_m (number_m ts len i ht hi) hp (fun _ => rfl) rfl (fun j e k h hk => ?_) (fun x i hq hp hi => ?_)
 ·conv => whnf
  exact ⟨_, _, _, h, hk, rfl, rfl⟩
 conv => whnf
 repeat (first | refine ACode.seq ?_ | (refine ACode.s_reg tys_ok ?_; conv => whnf) | refine ACode.s_block ?_ | refine ACode.s_scope ?_ | (refine ACode.s_cond ?_; conv => whnf) | (refine ACode.s_exit ?_; conv => whnf) | (refine ACode.s_ret ?_; conv => whnf) | (refine ACode.s_skip ?_; conv => whnf) | (refine ACode.s_label ?_; conv => whnf))
 refine ACall.of_m (symbol_m ts len i s_semi hl hi) hp (fun _ => rfl) rfl (fun j e k h hk => ?_) (fun _ i hq hp hi => ?_)
 ·conv => whnf
  exact ⟨_, _, _, h, hk, rfl, rfl⟩
 conv => whnf
 repeat (first | refine ACode.seq ?_ | (refine ACode.s_reg tys_ok ?_; conv => whnf) | refine ACode.s_block ?_ | refine ACode.s_scope ?_ | (refine ACode.s_cond ?_; conv => whnf) | (refine ACode.s_exit ?_; conv => whnf) | (refine ACode.s_ret ?_; conv => whnf) | (refine ACode.s_skip ?_; conv => whnf) | (refine ACode.s_label ?_; conv => whnf))
 exact ⟨_, _, hp, hi, rfl, rfl⟩
end Go.Proofs.YtmhlneeboefkgaaGreatDoor
