/-
  records.Text; slices.SortFunc at 12 records or fewer; slices.CompactFunc; records.Normal.
-/
import Derived.Test.YtiojkoaefabjbaaGreatDoorF3
import Derived.Test.YtiojkoaefabjbaaGreatDoorP4
set_option linter.unusedVariables false
set_option linter.unusedSimpArgs false
namespace Go.Proofs.YtiojkoaefabjbaaGreatDoor
open Go.Av Go.Shelf Pl
theorem line_spec (l : List Bs) (hN : l.length ≤ 140737488355328) (hlen : (Lib.join l [32]).length ≤ 140737488355328) : Ctr Tryz.prog 33 [.sl 1 (strs l)] (fun r => r = .str (Lib.join l [32])) := by
  refine Ctr.of_body Tryz.func33 rfl tys_ok (by kernel_rfl) ?_
  conv => whnf
  repeat (first | refine ACode.seq ?_ | (refine ACode.s_reg tys_ok ?_; conv => whnf) | refine ACode.s_block ?_ | refine ACode.s_scope ?_ | (refine ACode.s_cond ?_; conv => whnf) | (refine ACode.s_exit ?_; conv => whnf) | (refine ACode.s_ret ?_; conv => whnf) | (refine ACode.s_skip ?_; conv => whnf) | (refine ACode.s_label ?_; conv => whnf))
  repeat (first | (refine ACall.of_spec (join_spec l hN hlen) rfl fun r hr => ?_; subst hr; conv => whnf) | refine ACode.seq ?_ | (refine ACode.s_reg tys_ok ?_; conv => whnf) | refine ACode.s_block ?_ | refine ACode.s_scope ?_ | (refine ACode.s_cond ?_; conv => whnf) | (refine ACode.s_exit ?_; conv => whnf) | (refine ACode.s_ret ?_; conv => whnf) | (refine ACode.s_skip ?_; conv => whnf) | (refine ACode.s_label ?_; conv => whnf))
theorem closed_strs (l : List Bs) : ∀ a ∈ strs l, closed a = true := by
  intro a ha; obtain ⟨x, _, rfl⟩ := List.mem_map.1 ha; rfl
set_option maxRecDepth 100000 in
theorem text_spec (r : Rc) (hr : RcOK r) : Ctr Tryz.prog 15 [r.v] (fun x => x = .str (textR r)) := by
  refine Ctr.of_body Tryz.func15 rfl tys_ok (by kernel_rfl) ?_
  conv => whnf
  repeat (first | refine ACode.seq ?_ | (refine ACode.s_reg tys_ok ?_; conv => whnf) | refine ACode.s_block ?_ | refine ACode.s_scope ?_ | (refine ACode.s_cond ?_; conv => whnf) | (refine ACode.s_exit ?_; conv => whnf) | (refine ACode.s_ret ?_; conv => whnf) | (refine ACode.s_skip ?_; conv => whnf) | (refine ACode.s_label ?_; conv => whnf))
  repeat (first | (refine ACall.of_spec (complete_spec r hr.la hr.co hr.cx) rfl fun r hr => ?_; subst hr; conv => whnf) | refine ACode.seq ?_ | (refine ACode.s_reg tys_ok ?_; conv => whnf) | refine ACode.s_block ?_ | refine ACode.s_scope ?_ | (refine ACode.s_cond ?_; conv => whnf) | (refine ACode.s_exit ?_; conv => whnf) | (refine ACode.s_ret ?_; conv => whnf) | (refine ACode.s_skip ?_; conv => whnf) | (refine ACode.s_label ?_; conv => whnf))
  refine ⟨fun h => ?_, fun h => ?_⟩
  · have h : completeB r = false := by simpa using h
    conv => whnf
    repeat (first | refine ACode.seq ?_ | (refine ACode.s_reg tys_ok ?_; conv => whnf) | refine ACode.s_block ?_ | refine ACode.s_scope ?_ | (refine ACode.s_cond ?_; conv => whnf) | (refine ACode.s_exit ?_; conv => whnf) | (refine ACode.s_ret ?_; conv => whnf) | (refine ACode.s_skip ?_; conv => whnf) | (refine ACode.s_label ?_; conv => whnf))
    simp [textR, h]
  · have h : completeB r = true := by simpa using h
    have hf := complete_facts h
    have e : textR r = Lib.join (wordsR r) [32] := by simp [textR, h]
    rw [e]
    have hw := line_spec (wordsR r) (by have := (words_len hf).1; omega) (by have := text_len hf; omega)
    have hs := itoa_spec r.sc (by have := hf.sc0; omega) (by have := hf.sc1; omega) (by have := itoa_len hf.sc0 hf.sc1; omega)
    have hn := itoa_spec r.nu (by have := hf.nu0; omega) (by have := hf.nu1; omega) (by have := itoa_len hf.nu0 hf.nu1; omega)
    have ht := itoa_spec r.ti (by have := hf.ti0; omega) (by have := hf.ti1; omega) (by have := itoa_len hf.ti0 hf.ti1; omega)
    conv => whnf
    repeat (first | refine ACode.seq ?_ | (refine ACode.s_reg tys_ok ?_; conv => whnf) | refine ACode.s_block ?_ | refine ACode.s_scope ?_ | (refine ACode.s_cond ?_; conv => whnf) | (refine ACode.s_exit ?_; conv => whnf) | (refine ACode.s_ret ?_; conv => whnf) | (refine ACode.s_skip ?_; conv => whnf) | (refine ACode.s_label ?_; conv => whnf))
    refine ⟨fun h2 => ?_, fun h2 => ?_⟩
    · have h2 : r.ki = 2 := by simpa using h2
      have hk : strs (wordsR r) = [.str [109, 97, 110, 105, 102, 101, 115, 116], .str (Lib.itoa r.sc), .str (Lib.itoa r.nu), .str (Lib.itoa r.ti), .str r.la] ++ strs r.co := by simp [strs, wordsR, kindB, h2]
      rw [hk] at hw
      conv => whnf
      repeat (first | refine ACode.seq ?_ | (refine ACode.s_reg tys_ok ?_; conv => whnf) | refine ACode.s_block ?_ | refine ACode.s_scope ?_ | (refine ACode.s_cond ?_; conv => whnf) | (refine ACode.s_exit ?_; conv => whnf) | (refine ACode.s_ret ?_; conv => whnf) | (refine ACode.s_skip ?_; conv => whnf) | (refine ACode.s_label ?_; conv => whnf))
      refine ACode.draw [] tys_ok (by kernel_rfl) (by kernel_rfl) ?_
      conv => whnf
      refine ⟨_, ⟨hs, rfl⟩, ?_⟩
      conv => whnf
      refine ⟨_, ⟨hn, rfl⟩, ?_⟩
      conv => whnf
      refine ⟨_, ⟨ht, rfl⟩, ?_⟩
      conv => whnf
      repeat (first | refine ACode.seq ?_ | (refine ACode.s_reg tys_ok ?_; conv => whnf) | refine ACode.s_block ?_ | refine ACode.s_scope ?_ | (refine ACode.s_cond ?_; conv => whnf) | (refine ACode.s_exit ?_; conv => whnf) | (refine ACode.s_ret ?_; conv => whnf) | (refine ACode.s_skip ?_; conv => whnf) | (refine ACode.s_label ?_; conv => whnf))
      refine ⟨⟨rfl, by have := hr.co; simp [strs_len]; omega⟩, ?_⟩
      conv => whnf
      repeat (first | refine ACode.seq ?_ | (refine ACode.s_reg tys_ok ?_; conv => whnf) | refine ACode.s_block ?_ | refine ACode.s_scope ?_ | (refine ACode.s_cond ?_; conv => whnf) | (refine ACode.s_exit ?_; conv => whnf) | (refine ACode.s_ret ?_; conv => whnf) | (refine ACode.s_skip ?_; conv => whnf) | (refine ACode.s_label ?_; conv => whnf))
      refine ACall.of_vcall ⟨⟨rfl, by simp [closed]; exact closed_strs r.co⟩, .str (Lib.join (wordsR r) [32]), ⟨hw, rfl⟩, ?_⟩ (by kernel_rfl)
      conv => whnf
      repeat (first | refine ACode.seq ?_ | (refine ACode.s_reg tys_ok ?_; conv => whnf) | refine ACode.s_block ?_ | refine ACode.s_scope ?_ | (refine ACode.s_cond ?_; conv => whnf) | (refine ACode.s_exit ?_; conv => whnf) | (refine ACode.s_ret ?_; conv => whnf) | (refine ACode.s_skip ?_; conv => whnf) | (refine ACode.s_label ?_; conv => whnf))
    · have h2 : ¬ r.ki = 2 := by simpa using h2
      have hk : strs (wordsR r) = [.str [115, 99, 97, 110], .str (Lib.itoa r.sc), .str (Lib.itoa r.nu), .str (Lib.itoa r.ti), .str r.la] ++ strs r.co := by simp [strs, wordsR, kindB, h2]
      rw [hk] at hw
      conv => whnf
      repeat (first | refine ACode.seq ?_ | (refine ACode.s_reg tys_ok ?_; conv => whnf) | refine ACode.s_block ?_ | refine ACode.s_scope ?_ | (refine ACode.s_cond ?_; conv => whnf) | (refine ACode.s_exit ?_; conv => whnf) | (refine ACode.s_ret ?_; conv => whnf) | (refine ACode.s_skip ?_; conv => whnf) | (refine ACode.s_label ?_; conv => whnf))
      refine ACode.draw [] tys_ok (by kernel_rfl) (by kernel_rfl) ?_
      conv => whnf
      refine ⟨_, ⟨hs, rfl⟩, ?_⟩
      conv => whnf
      refine ⟨_, ⟨hn, rfl⟩, ?_⟩
      conv => whnf
      refine ⟨_, ⟨ht, rfl⟩, ?_⟩
      conv => whnf
      repeat (first | refine ACode.seq ?_ | (refine ACode.s_reg tys_ok ?_; conv => whnf) | refine ACode.s_block ?_ | refine ACode.s_scope ?_ | (refine ACode.s_cond ?_; conv => whnf) | (refine ACode.s_exit ?_; conv => whnf) | (refine ACode.s_ret ?_; conv => whnf) | (refine ACode.s_skip ?_; conv => whnf) | (refine ACode.s_label ?_; conv => whnf))
      refine ⟨⟨rfl, by have := hr.co; simp [strs_len]; omega⟩, ?_⟩
      conv => whnf
      repeat (first | refine ACode.seq ?_ | (refine ACode.s_reg tys_ok ?_; conv => whnf) | refine ACode.s_block ?_ | refine ACode.s_scope ?_ | (refine ACode.s_cond ?_; conv => whnf) | (refine ACode.s_exit ?_; conv => whnf) | (refine ACode.s_ret ?_; conv => whnf) | (refine ACode.s_skip ?_; conv => whnf) | (refine ACode.s_label ?_; conv => whnf))
      refine ACall.of_vcall ⟨⟨rfl, by simp [closed]; exact closed_strs r.co⟩, .str (Lib.join (wordsR r) [32]), ⟨hw, rfl⟩, ?_⟩ (by kernel_rfl)
      conv => whnf
      repeat (first | refine ACode.seq ?_ | (refine ACode.s_reg tys_ok ?_; conv => whnf) | refine ACode.s_block ?_ | refine ACode.s_scope ?_ | (refine ACode.s_cond ?_; conv => whnf) | (refine ACode.s_exit ?_; conv => whnf) | (refine ACode.s_ret ?_; conv => whnf) | (refine ACode.s_skip ?_; conv => whnf) | (refine ACode.s_label ?_; conv => whnf))
theorem rv_closed (l : List Rc) : ∀ e ∈ rv l, closed e = true := by
  intro a ha; obtain ⟨x, _, rfl⟩ := List.mem_map.1 ha; rfl
theorem rv_okg (l : List Rc) {e : Go.TypeId} {n : Nat} {v : Value} : objsOK [.arr e 6 (rv l), .ghost [.own 0 6 0 n] [v] []] [.arr e 6 (rv l), .ghost [.own 0 6 0 n] [v] []] True := ⟨rv_closed l, rfl, trivial⟩
theorem rv_ok (l : List Rc) {e : Go.TypeId} {H : List HO} : objsOK H [.arr e 6 (rv l)] True := ⟨rv_closed l, trivial⟩
set_option maxRecDepth 100000 in
theorem insertion_spec (l : List Rc) (hl : l.length ≤ 100000) (hx : ∀ r ∈ l, RcOK r) : HCtrF Tryz.prog 85 [.own 0 6 0 l.length, .int .i64 0, .int .i64 l.length, .fn 17 []] 28 6 (rv l)
    (fun r es => r = .tuple [] ∧ ∃ l', es = rv l' ∧ l'.Perm l ∧ Sorted cmpR l') := by
  refine HCtrF.of_body Tryz.func85 rfl tys_ok (by kernel_rfl) (by simp) (fun gv => ?_)
  conv => whnf
  repeat (first | refine ACode.seq ?_ | (refine ACode.s_reg tys_ok ?_; conv => whnf) | refine ACode.s_block ?_ | refine ACode.s_scope ?_ | (refine ACode.s_cond ?_; conv => whnf) | (refine ACode.s_exit ?_; conv => whnf) | (refine ACode.s_ret ?_; conv => whnf) | (refine ACode.s_skip ?_; conv => whnf) | (refine ACode.s_label ?_; conv => whnf))
  refine ACode.loopD (fun s : Nat × List Rc => mk 53 [(0, .own 0 6 0 l.length), (1, .int .i64 0), (2, .int .i64 l.length), (3, .fn 17 []), (8, .int .i64 s.1)]) (fun s => [.arr 28 6 (rv (s.2 ++ l.drop s.1)), .ghost [.own 0 6 0 l.length] [gv] []]) (fun s => InsP l s.2 s.1) (fun s => l.length - s.1) (fun s hs => ⟨rfl, rv_okg _⟩) ⟨(1, l.take 1), ?_⟩ (fun _ => rfl) fun ⟨k, l1⟩ hk => ?_
  · conv => whnf
    repeat (refine And.intro ?_ ?_; (focus (first | rfl | (simp; done) | (first | (rw [Wr64 _ (by omega) (by omega)]; done) | (rw [Wr64 _ (by omega) (by omega)]; rfl); done))); conv => whnf)
    refine ⟨by show [HO.arr _ 6 (rv l), _] = [HO.arr _ 6 (rv (l.take 1 ++ l.drop 1)), _]; rw [List.take_append_drop], by simp, .refl _, ?_⟩
    cases l with
    | nil => simp [Sorted]
    | cons x l => simp [Sorted]
  · repeat (first | refine ACode.seq ?_ | (refine ACode.s_reg tys_ok ?_; conv => whnf) | refine ACode.s_block ?_ | refine ACode.s_scope ?_ | (refine ACode.s_cond ?_; conv => whnf) | (refine ACode.s_exit ?_; conv => whnf) | (refine ACode.s_ret ?_; conv => whnf) | (refine ACode.s_skip ?_; conv => whnf) | (refine ACode.s_label ?_; conv => whnf))
    refine ⟨fun h => ?_, fun h => ?_⟩
    · have h : k < l.length := by simp at h; omega
      conv => whnf
      repeat (first | refine ACode.seq ?_ | (refine ACode.s_reg tys_ok ?_; conv => whnf) | refine ACode.s_block ?_ | refine ACode.s_scope ?_ | (refine ACode.s_cond ?_; conv => whnf) | (refine ACode.s_exit ?_; conv => whnf) | (refine ACode.s_ret ?_; conv => whnf) | (refine ACode.s_skip ?_; conv => whnf) | (refine ACode.s_label ?_; conv => whnf))
      refine ACode.loopD (fun j : Nat => mk 53 [(0, .own 0 6 0 l.length), (1, .int .i64 0), (2, .int .i64 l.length), (3, .fn 17 []), (8, .int .i64 k), (9, .int .i64 j)]) (fun j => [.arr 28 6 (rv (insA l1 l[k] (l.drop (k + 1)) j)), .ghost [.own 0 6 0 l.length] [gv] []]) (fun j => j ≤ k ∧ ∀ y ∈ l1.drop j, cmpR l[k] y < 0) (fun j => j) (fun s hs => ⟨rfl, rv_okg _⟩) ⟨k, ?_⟩ (fun _ => rfl) fun j hj => ?_
      · conv => whnf
        repeat (refine And.intro ?_ ?_; (focus (first | rfl | (simp; done))); conv => whnf)
        have e : l.drop k = l[k] :: l.drop (k + 1) := List.drop_eq_getElem_cons h
        have hl1 : l1.length = k := by rw [hk.len]; simp; omega
        refine ⟨?_, by omega, by simp [← hl1]⟩
        show [HO.arr _ 6 (rv (l1 ++ l.drop k)), _] = _
        rw [e]
        simp [insA, ← hl1]
      · obtain ⟨hjk, hb⟩ := hj
        have hl1 : l1.length = k := by rw [hk.len]; simp; omega
        repeat (first | refine ACode.seq ?_ | (refine ACode.s_reg tys_ok ?_; conv => whnf) | refine ACode.s_block ?_ | refine ACode.s_scope ?_ | (refine ACode.s_cond ?_; conv => whnf) | (refine ACode.s_exit ?_; conv => whnf) | (refine ACode.s_ret ?_; conv => whnf) | (refine ACode.s_skip ?_; conv => whnf) | (refine ACode.s_label ?_; conv => whnf))
        refine ACode.draw [] tys_ok (by kernel_rfl) (by kernel_rfl) ?_
        conv => whnf
        refine ⟨fun h3 => ?_, fun h3 => ?_⟩
        · have h3 : 0 < j := by simpa using h3
          obtain ⟨m, rfl⟩ : ∃ m, j = m + 1 := ⟨j - 1, by omega⟩
          have hm : m < l1.length := by omega
          conv => whnf
          refine ⟨by omega, ?_⟩
          conv => whnf
          refine ⟨_, by rw [Nat.zero_add, Int.toNat_natCast]; exact insA_get l1 l[k] _ (m + 1) (by omega), ?_⟩
          conv => whnf
          rw [Wr64 _ (by omega) (by omega)]
          refine ⟨by omega, ?_⟩
          conv => whnf
          refine ⟨_, by rw [Nat.zero_add, show ((m + 1 : Nat) - 1 : Int).toNat = m by omega]; exact insA_pre l1 l[k] _ m hm, ?_⟩
          conv => whnf
          refine ⟨_, ⟨compare_spec l[k] l1[m] ((hx _ (List.getElem_mem h)).co), rfl⟩, ?_⟩
          conv => whnf
          refine ⟨fun h4 => ?_, fun h4 => ?_⟩
          · have h4 : cmpR l[k] l1[m] < 0 := by simpa using h4
            conv => whnf
            repeat (first | refine ACode.seq ?_ | (refine ACode.s_reg tys_ok ?_; conv => whnf) | refine ACode.s_block ?_ | refine ACode.s_scope ?_ | (refine ACode.s_cond ?_; conv => whnf) | (refine ACode.s_exit ?_; conv => whnf) | (refine ACode.s_ret ?_; conv => whnf) | (refine ACode.s_skip ?_; conv => whnf) | (refine ACode.s_label ?_; conv => whnf))
            refine ACode.draw2 [15, 17] tys_ok (by kernel_rfl) (by kernel_rfl) ?_
            conv => whnf
            rw [Wr64 _ (by omega) (by omega)]
            refine ⟨by omega, ?_⟩
            conv => whnf
            refine ⟨_, by rw [Nat.zero_add, show ((m + 1 : Nat) - 1 : Int).toNat = m by omega]; exact insA_pre l1 l[k] _ m hm, ?_⟩
            conv => whnf
            refine ⟨by omega, ?_⟩
            conv => whnf
            refine ⟨_, by rw [Nat.zero_add, Int.toNat_natCast]; exact insA_get l1 l[k] _ (m + 1) (by omega), ?_⟩
            conv => whnf
            refine ⟨by omega, ?_⟩
            conv => whnf
            refine ⟨_, by rw [Nat.zero_add, Int.toNat_natCast]; exact insA_get l1 l[k] _ (m + 1) (by omega), ?_⟩
            conv => whnf
            refine ⟨by omega, ?_⟩
            conv => whnf
            refine ⟨_, by rw [List.getElem?_set_ne (by omega), Nat.zero_add, show ((m + 1 : Nat) - 1 : Int).toNat = m by omega]; exact insA_pre l1 l[k] _ m hm, ?_⟩
            conv => whnf
            repeat (first | refine ACode.seq ?_ | (refine ACode.s_reg tys_ok ?_; conv => whnf) | refine ACode.s_block ?_ | refine ACode.s_scope ?_ | (refine ACode.s_cond ?_; conv => whnf) | (refine ACode.s_exit ?_; conv => whnf) | (refine ACode.s_ret ?_; conv => whnf) | (refine ACode.s_skip ?_; conv => whnf) | (refine ACode.s_label ?_; conv => whnf))
            refine ⟨m, ?_⟩
            conv => whnf
            repeat (refine And.intro ?_ ?_; (focus (first | rfl | (simp; done) | (first | (rw [Wr64 _ (by omega) (by omega)]; done) | (rw [Wr64 _ (by omega) (by omega)]; omega); done))); conv => whnf)
            refine ⟨?_, rfl, ⟨by omega, ?_⟩, by omega⟩
            · rw [← insA_swap l1 l[k] _ m hm, Nat.zero_add, Nat.zero_add, Int.toNat_natCast, show ((m + 1 : Nat) - 1 : Int).toNat = m by omega]
              rfl
            · rw [List.drop_eq_getElem_cons hm]
              intro y hy
              rcases List.mem_cons.1 hy with rfl | hy
              · exact h4
              · exact hb y hy
          · have h4 : ¬ cmpR l[k] l1[m] < 0 := by simpa using h4
            conv => whnf
            repeat (first | refine ACode.seq ?_ | (refine ACode.s_reg tys_ok ?_; conv => whnf) | refine ACode.s_block ?_ | refine ACode.s_scope ?_ | (refine ACode.s_cond ?_; conv => whnf) | (refine ACode.s_exit ?_; conv => whnf) | (refine ACode.s_ret ?_; conv => whnf) | (refine ACode.s_skip ?_; conv => whnf) | (refine ACode.s_label ?_; conv => whnf))
            refine ⟨(k + 1, insA l1 l[k] [] (m + 1)), ?_⟩
            conv => whnf
            repeat (refine And.intro ?_ ?_; (focus (first | rfl | (simp; done) | (first | (rw [Wr64 _ (by omega) (by omega)]; done) | (rw [Wr64 _ (by omega) (by omega)]; rfl); done))); conv => whnf)
            refine ⟨by simp [rv, insA], rfl, insP_next h hk (by omega) hb ?_, by simp; omega⟩
            intro i hi hil
            obtain rfl : i = m := by omega
            exact h4
        · have h3 : j = 0 := by simp at h3; omega
          subst h3
          conv => whnf
          repeat (first | refine ACode.seq ?_ | (refine ACode.s_reg tys_ok ?_; conv => whnf) | refine ACode.s_block ?_ | refine ACode.s_scope ?_ | (refine ACode.s_cond ?_; conv => whnf) | (refine ACode.s_exit ?_; conv => whnf) | (refine ACode.s_ret ?_; conv => whnf) | (refine ACode.s_skip ?_; conv => whnf) | (refine ACode.s_label ?_; conv => whnf))
          refine ⟨(k + 1, insA l1 l[k] [] 0), ?_⟩
          conv => whnf
          repeat (refine And.intro ?_ ?_; (focus (first | rfl | (simp; done) | (first | (rw [Wr64 _ (by omega) (by omega)]; done) | (rw [Wr64 _ (by omega) (by omega)]; rfl); done))); conv => whnf)
          refine ⟨by simp [rv, insA], rfl, insP_next h hk (by omega) hb ?_, by simp; omega⟩
          intro i hi hil
          omega
    · have h : ¬ k < l.length := by simp at h; omega
      conv => whnf
      repeat (first | refine ACode.seq ?_ | (refine ACode.s_reg tys_ok ?_; conv => whnf) | refine ACode.s_block ?_ | refine ACode.s_scope ?_ | (refine ACode.s_cond ?_; conv => whnf) | (refine ACode.s_exit ?_; conv => whnf) | (refine ACode.s_ret ?_; conv => whnf) | (refine ACode.s_skip ?_; conv => whnf) | (refine ACode.s_label ?_; conv => whnf))
      refine ⟨rv_closed _, ?_⟩
      conv => whnf
      have hk1 : l.take k = l := List.take_of_length_le (by omega)
      refine ⟨_, _, rfl, rfl, by simp [hk.len]; omega, rfl, l1, ?_, by have := hk.perm; simp only [hk1] at this; exact this, hk.sorted⟩
      show rv (l1 ++ l.drop k) = _
      rw [List.drop_eq_nil_of_le (by omega), List.append_nil]
end Go.Proofs.YtiojkoaefabjbaaGreatDoor
