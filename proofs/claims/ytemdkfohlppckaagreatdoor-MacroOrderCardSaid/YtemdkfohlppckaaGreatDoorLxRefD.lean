/- The document's words: classes. Conditions: none. -/
import Derived.Test.YtemdkfohlppckaaGreatDoorLxRefC

namespace Go.Proofs.YtemdkfohlppckaaGreatDoor.lx
open Go Go.Ev Go.Proofs

def clsF (x : Option ((Nat → Nat) × Nat)) : Nat → Nat := match x with | none => zeroF | some y => y.1
def clsN (x : Option ((Nat → Nat) × Nat)) : Nat := match x with | none => 0 | some y => y.2 + 1

theorem xor_all {n : Nat} (h : n ≤ 18446744073709551615) : bitsOf .xor .u64 ((n : Nat) : Int) 18446744073709551615 = ((18446744073709551615 - n : Nat) : Int) := by
  have h1 : (BitVec.ofInt 64 ((n : Nat) : Int) ^^^ BitVec.ofInt 64 ((18446744073709551615 : Nat) : Int)).toNat = 18446744073709551615 - n := by
    have e1 : BitVec.ofInt 64 ((18446744073709551615 : Nat) : Int) = BitVec.allOnes 64 := by decide
    rw [e1, BitVec.xor_allOnes, BitVec.toNat_not, tabs.ofInt_nat, BitVec.toNat_ofNat, Nat.mod_eq_of_lt (by omega)]
  show IntKind.wrap .u64 ((BitVec.ofInt 64 ((n : Nat) : Int) ^^^ BitVec.ofInt 64 ((18446744073709551615 : Nat) : Int)).toNat : Int) = _
  rw [h1]
  exact tabs.wrap_nat (by decide) (by show _ ≤ (18446744073709551615 : Int); omega)
theorem upd_not (f : Nat → Nat) (j : Nat) : upd (fun q => if q < j then notF f q else f q) j (notF f j) = fun q => if q < j + 1 then notF f q else f q := by
  funext q; unfold upd
  by_cases h1 : q = j
  · subst h1; rw [if_pos rfl, if_pos (by omega)]
  · rw [if_neg h1]
    show (if q < j then notF f q else f q) = _
    by_cases h2 : q < j
    · rw [if_pos h2, if_pos (by omega)]
    · rw [if_neg h2, if_neg (by omega)]

set_option maxHeartbeats 4000000 in
theorem refClass_fn (m : Mem) (s : List UInt8) (i : Nat) (hi : i < s.length) (hl : s.length ≤ 1000000) :
    FnV Tryz.prog 56 [.string (bs s), .int .i64 i] m (.tuple (toArr [.agg (toArr (setC (clsF (classT (s.drop (i + 1)))))), .int .i64 (clsN (classT (s.drop (i + 1))) : Nat)])) := by
  have hsz := bs_size s
  obtain ⟨a0, ha0⟩ : ∃ a0, a0 = i + 1 := ⟨_, rfl⟩
  rw [← ha0]
  have hia : (i : Int) + 1 = (a0 : Nat) := by omega
  have hdl : (s.drop a0).length = s.length - a0 := List.length_drop
  have hget : ∀ k, (bs s).data[k]? = s[k]? := fun k => bs_get s k
  obtain ⟨neg, hneg⟩ : ∃ neg, neg = decide ((s.drop a0).head? = some 94) := ⟨_, rfl⟩
  obtain ⟨R0, hR0⟩ : ∃ R0, R0 = clsT ((s.drop a0).length + 1) (s.drop (if neg = true then a0 + 1 else a0)) (if neg = true then 1 else 0) zeroF := ⟨_, rfl⟩
  have hR : classT (s.drop a0) = if neg = true then R0.map (fun x => (notF x.1, x.2)) else R0 := by
    unfold classT
    cases neg with
    | true => rw [if_pos (of_decide_eq_true hneg.symm), hR0]; simp only [if_true, List.drop_drop]
    | false => rw [if_neg (of_decide_eq_false hneg.symm), hR0]; rfl
  have hhd : (s.drop a0).head? = s[a0]? := by rw [List.head?_drop]
  have hin : (if neg = true then a0 + 1 else a0) ≤ s.length := by
    split
    · rename_i h
      rw [h] at hneg
      have h2 := of_decide_eq_true hneg.symm
      rw [hhd] at h2
      have := (List.getElem?_eq_some_iff.1 h2).1
      omega
    · omega
  rw [hR]
  clear hR
  cases h94 : s[a0]? with
  | none =>
    have hn : neg = false := by rw [hneg, hhd, h94]; rfl
    subst hn
    have hal : s.length ≤ a0 := List.getElem?_eq_none_iff.1 h94
    simp only [Bool.false_eq_true, if_false] at hR0 hin ⊢
    refine Fn.enter (N := 116) hX Tryz.func56 rfl rfl (by show _ ≤ _; simp) (fun w0 hL => ?_)
    conv => whnf
    refine NewReq.mk hL ?_
    clear hL
    intro b4 w hL
    conv => whnf
    replace hL : Ev.Loc m [] w0 m [(b4, .cells (toArr (setC zeroF)) 33 (0, 0))] w := hL
    conv => whnf
    repeat ((first | refine BrReq.no (by omega) ?_ | refine zT ?_ | refine zF ?_ | refine zL hX hL ?_ | refine zB hX hL ?_ | (refine zS hX hL ?_; clear hL; intro w hL) | refine zI ?_ | refine zG hX ?_ | refine zO ?_); conv => whnf)
    rw [hia]
    conv => whnf
    repeat ((first | refine zT ?_ | refine zF ?_ | refine zL hX hL ?_ | refine zB hX hL ?_ | (refine zS hX hL ?_; clear hL; intro w hL) | refine zI ?_ | refine zG hX ?_ | refine zO ?_); conv => whnf)
    refine NewReq.mk hL ?_
    clear hL
    intro b8 w hL
    conv => whnf
    replace hL : Ev.Loc m [] w0 m [(b8, .cells (toArr (setC zeroF)) 33 (0, 0)), (b4, .cells (toArr (setC zeroF)) 33 (0, 0))] w := hL
    conv => whnf
    repeat ((first | refine zT ?_ | refine zF ?_ | refine zL hX hL ?_ | refine zB hX hL ?_ | (refine zS hX hL ?_; clear hL; intro w hL) | refine zI ?_ | refine zG hX ?_ | refine zO ?_); conv => whnf)
    refine LoopReq.inv hX (fun t : Nat × (Nat → Nat) => [(6, .int .i64 (t.1 : Nat))]) [0, 1, 4, 7, 8]
      (fun t w => a0 ≤ t.1 ∧ t.1 ≤ s.length ∧ InF t.2 ∧ (∃ k, (s.drop t.1).length < k ∧ clsT k (s.drop t.1) (t.1 - a0) t.2 = R0) ∧ Ev.Loc m [] w0 m [(b8, .cells (toArr (setC t.2)) 33 (0, 0)), (b4, .cells (toArr (setC zeroF)) 33 (0, 0))] w) (fun t => s.length + 1 - t.1) (a0, zeroF)
      ⟨by simp only; omega, hin, inF_zero, ⟨(s.drop a0).length + 1, by simp only [List.length_drop]; omega, by rw [hR0]; congr 1; simp only; omega⟩, hL⟩ ⟨rfl, trivial⟩ ?_
    clear hL
    rintro ⟨j, f⟩ w e ⟨hij, hj, hf, ⟨k, hk, hcl⟩, hL⟩
    simp only at hij hj hf hk hcl
    cases k with
    | zero => omega
    | succ k =>
    cases hjc : s[j]? with
    | none =>
      have hjl : s.length ≤ j := List.getElem?_eq_none_iff.1 hjc
      have hd : s.drop j = [] := List.drop_eq_nil_of_le hjl
      rw [hd, clsT] at hcl
      rw [← hcl]
      conv => whnf
      repeat ((first | refine BrReq.yes (by omega) ?_ | refine BrReq.no (by omega) ?_ | refine zT ?_ | refine zF ?_ | refine zL hX hL ?_ | refine zB hX hL ?_ | (refine zS hX hL ?_; clear hL; intro w hL) | refine zI ?_ | refine zG hX ?_ | refine zO ?_); conv => whnf)
      exact RetReq.mk (hL.sublist (List.nil_sublist _)) ⟨rfl, rfl⟩
    | some c => exact absurd (List.getElem?_eq_some_iff.1 hjc).1 (by omega)
  | some c0 =>
    have hal : a0 < s.length := (List.getElem?_eq_some_iff.1 h94).1
    have hg0 := (hget a0).trans h94
    by_cases hc94 : c0.toNat = 94
    · have e94 : c0 = 94 := UInt8.toNat_inj.1 hc94
      have hn : neg = true := by rw [hneg, hhd, h94, e94]; rfl
      subst hn
      simp only [if_true] at hR0 hin ⊢
      refine Fn.enter (N := 116) hX Tryz.func56 rfl rfl (by show _ ≤ _; simp) (fun w0 hL => ?_)
      conv => whnf
      refine NewReq.mk hL ?_
      clear hL
      intro b4 w hL
      conv => whnf
      replace hL : Ev.Loc m [] w0 m [(b4, .cells (toArr (setC zeroF)) 33 (0, 0))] w := hL
      conv => whnf
      repeat ((first | refine BrReq.yes (by omega) ?_ | refine BrReq.no (by omega) ?_ | refine StrIdxReq.mk a0 c0 hia hg0 ?_ | refine zT ?_ | refine zF ?_ | refine zL hX hL ?_ | refine zB hX hL ?_ | (refine zS hX hL ?_; clear hL; intro w hL) | refine zI ?_ | refine zG hX ?_ | refine zO ?_); conv => whnf)
      rw [hia]
      conv => whnf
      repeat ((first | refine zT ?_ | refine zF ?_ | refine zL hX hL ?_ | refine zB hX hL ?_ | (refine zS hX hL ?_; clear hL; intro w hL) | refine zI ?_ | refine zG hX ?_ | refine zO ?_); conv => whnf)
      refine NewReq.mk hL ?_
      clear hL
      intro b8 w hL
      conv => whnf
      replace hL : Ev.Loc m [] w0 m [(b8, .cells (toArr (setC zeroF)) 33 (0, 0)), (b4, .cells (toArr (setC zeroF)) 33 (0, 0))] w := hL
      conv => whnf
      repeat ((first | refine zT ?_ | refine zF ?_ | refine zL hX hL ?_ | refine zB hX hL ?_ | (refine zS hX hL ?_; clear hL; intro w hL) | refine zI ?_ | refine zG hX ?_ | refine zO ?_); conv => whnf)
      refine LoopReq.inv hX (fun t : Nat × (Nat → Nat) => [(6, .int .i64 (t.1 : Nat))]) [0, 1, 4, 7, 8]
        (fun t w => a0 ≤ t.1 ∧ t.1 ≤ s.length ∧ InF t.2 ∧ (∃ k, (s.drop t.1).length < k ∧ clsT k (s.drop t.1) (t.1 - a0) t.2 = R0) ∧ Ev.Loc m [] w0 m [(b8, .cells (toArr (setC t.2)) 33 (0, 0)), (b4, .cells (toArr (setC zeroF)) 33 (0, 0))] w) (fun t => s.length + 1 - t.1) ((a0 + 1), zeroF)
        ⟨by simp only; omega, hin, inF_zero, ⟨(s.drop a0).length + 1, by simp only [List.length_drop]; omega, by rw [hR0]; congr 1; simp only; omega⟩, hL⟩ ⟨rfl, trivial⟩ ?_
      clear hL
      rintro ⟨j, f⟩ w e ⟨hij, hj, hf, ⟨k, hk, hcl⟩, hL⟩
      simp only at hij hj hf hk hcl
      cases k with
      | zero => omega
      | succ k =>
      cases hjc : s[j]? with
      | none =>
        have hjl : s.length ≤ j := List.getElem?_eq_none_iff.1 hjc
        have hd : s.drop j = [] := List.drop_eq_nil_of_le hjl
        rw [hd, clsT] at hcl
        rw [← hcl]
        conv => whnf
        repeat ((first | refine BrReq.yes (by omega) ?_ | refine BrReq.no (by omega) ?_ | refine zT ?_ | refine zF ?_ | refine zL hX hL ?_ | refine zB hX hL ?_ | (refine zS hX hL ?_; clear hL; intro w hL) | refine zI ?_ | refine zG hX ?_ | refine zO ?_); conv => whnf)
        exact RetReq.mk (hL.sublist (List.nil_sublist _)) ⟨rfl, rfl⟩
      | some c =>
      have hjl : j < s.length := (List.getElem?_eq_some_iff.1 hjc).1
      have hgj := (hget j).trans hjc
      have hd : s.drop j = c :: s.drop (j + 1) := by rw [List.drop_eq_getElem_cons hjl]; congr 1; exact Option.some.inj ((List.getElem?_eq_getElem hjl).symm.trans hjc)
      by_cases h93 : c.toNat = 93
      · rw [hd] at hcl
        simp only [clsT] at hcl
        rw [if_pos h93] at hcl
        rw [← hcl]
        conv => whnf
        repeat ((first | refine BrReq.yes (by omega) ?_ | refine BrReq.no (by omega) ?_ | refine StrIdxReq.mk j c rfl hgj ?_ | refine zT ?_ | refine zF ?_ | refine zL hX hL ?_ | refine zB hX hL ?_ | (refine zS hX hL ?_; clear hL; intro w hL) | refine zI ?_ | refine zG hX ?_ | refine zO ?_); conv => whnf)
        refine LoopReq.inv hX (fun t : Nat => [(101, .int .i64 t)]) [1, 4, 6, 8]
          (fun t w => t ≤ 4 ∧ Ev.Loc m [] w0 m [(b8, .cells (toArr (setC (fun q => if q < t then notF f q else f q))) 33 (0, 0)), (b4, .cells (toArr (setC zeroF)) 33 (0, 0))] w) (fun t => 4 - t) 0
          ⟨by omega, hL⟩ ⟨rfl, trivial⟩ ?_
        clear hL
        rintro t w e4 ⟨ht, hL⟩
        conv => whnf
        repeat ((first | refine zT ?_ | refine zF ?_ | refine zL hX hL ?_ | refine zB hX hL ?_ | (refine zS hX hL ?_; clear hL; intro w hL) | refine zI ?_ | refine zG hX ?_ | refine zO ?_); conv => whnf)
        refine BrReq.dec (fun hlt => ?_) (fun hlt => ?_)
        · have ht4 : t < 4 := by omega
          have hx := xor_all (hf t)
          have hg : (setC (fun q => if q < t then notF f q else f q))[t]? = some (.int .u64 (f t : Nat)) := by rw [setC_get _ ht4]; simp
          conv => whnf
          repeat ((first | refine IdxReq.mk t rfl (by omega) ?_ | (refine LdReq.ownAt hX rfl rfl 0 hL rfl (v := .int .u64 (f t : Nat)) (by rw [scale_eq, Nat.zero_add, Nat.mul_one]; exact hg) ?_) | refine BitReq.mk hx ?_ | refine zT ?_ | refine zF ?_ | refine zL hX hL ?_ | refine zB hX hL ?_ | (refine zS hX hL ?_; clear hL; intro w hL) | refine zI ?_ | refine zG hX ?_ | refine zO ?_); conv => whnf)
          refine StReq.ownAt hX rfl 0 hL rfl rfl (by rw [scale_eq, Nat.zero_add, Nat.mul_one]; show t + 1 ≤ 4; omega) rfl ?_; clear hL; intro w hL
          replace hL : Ev.Loc m [] w0 m [(b8, .cells (toArr (spliceL (setC (fun q => if q < t then notF f q else f q)) (0 + scale t 1) [.int .u64 (notF f t : Nat)])) 33 (0, 0)), (b4, .cells (toArr (setC zeroF)) 33 (0, 0))] w := hL
          rw [scale_eq, Nat.zero_add, Nat.mul_one, setC_set _ ht4, upd_not f t] at hL
          conv => whnf
          repeat ((first | refine zT ?_ | refine zF ?_ | refine zL hX hL ?_ | refine zB hX hL ?_ | (refine zS hX hL ?_; clear hL; intro w hL) | refine zI ?_ | refine zG hX ?_ | refine zO ?_); conv => whnf)
          refine ⟨t + 1, ⟨by omega, hL⟩, by first | omega | (simp only; omega) | (simp only [List.length_cons, List.length_append]; omega), ?_, ?_⟩
          · repeat (first | exact trivial | (refine And.intro (by (conv => lhs; whnf) <;> (conv => rhs; whnf) <;> (first | rfl)) ?_))
          · repeat (first | exact trivial | (refine And.intro (by (conv => lhs; whnf) <;> (conv => rhs; whnf) <;> (first | rfl)) ?_))
        · obtain rfl : t = 4 := by omega
          rw [setC_ext (f := fun q => if q < 4 then notF f q else f q) (g := notF f) (fun q hq => if_pos hq)] at hL
          conv => whnf
          repeat ((first | refine zT ?_ | refine zF ?_ | refine zL hX hL ?_ | refine zB hX hL ?_ | (refine zS hX hL ?_; clear hL; intro w hL) | refine zI ?_ | refine zG hX ?_ | refine zO ?_); conv => whnf)
          refine RetReq.mk (hL.sublist (List.nil_sublist _)) ⟨rfl, ?_⟩
          exact congrArg (fun z : Int => Value.tuple (toArr [.agg (toArr (setC (notF f))), .int .i64 z])) (by simp only [clsN, Option.map]; omega)
      have hch := char_fn m s ownC j (by omega) hl (by decide)
      have halt := charT_lt ownC (s.drop j)
      rw [hd] at hch halt
      rw [hd] at hcl
      simp only [clsT] at hcl
      generalize charT ownC (c :: s.drop (j + 1)) = a at hcl hch halt
      rw [if_neg h93] at hcl
      conv => whnf
      repeat ((first | refine BrReq.yes (by omega) ?_ | refine BrReq.no (by omega) ?_ | refine StrIdxReq.mk j c rfl hgj ?_ | refine zT ?_ | refine zF ?_ | refine zL hX hL ?_ | refine zB hX hL ?_ | (refine zS hX hL ?_; clear hL; intro w hL) | refine zI ?_ | refine zG hX ?_ | refine zO ?_); conv => whnf)
      refine CallReq.val hch hL ?_
      clear hL
      intro w hL
      by_cases ha2 : a.2 = 0
      · rw [if_pos ha2] at hcl
        rw [← hcl]
        conv => whnf
        repeat ((first | refine BrReq.yes (by omega) ?_ | refine zT ?_ | refine zF ?_ | refine zL hX hL ?_ | refine zB hX hL ?_ | (refine zS hX hL ?_; clear hL; intro w hL) | refine zI ?_ | refine zG hX ?_ | refine zO ?_); conv => whnf)
        exact RetReq.mk (hL.sublist (List.nil_sublist _)) ⟨rfl, rfl⟩
      rw [if_neg ha2] at hcl
      have e1 : (c :: s.drop (j + 1)).drop a.2 = s.drop (j + a.2) := by rw [← hd, List.drop_drop]
      have e2 : (c :: s.drop (j + 1)).drop (a.2 + 1) = s.drop (j + a.2 + 1) := by rw [← hd, List.drop_drop]; rfl
      have e3 : ∀ q, (c :: s.drop (j + 1)).drop (a.2 + 1 + q) = s.drop (j + a.2 + (1 + q)) := fun q => by rw [← hd, List.drop_drop]; congr 1; omega
      rw [e1, e2, e3, List.head?_drop] at hcl
      have hlj : j + a.2 ≤ s.length := by
        have h1 : (c :: s.drop (j + 1)).length = s.length - j := by rw [← hd, List.length_drop]
        have := halt.2
        rw [h1] at this; omega
      cases hj1 : s[j + a.2]? with
      | none =>
        have hj1l : s.length ≤ j + a.2 := List.getElem?_eq_none_iff.1 hj1
        rw [hj1, if_neg (by simp)] at hcl
        conv => whnf
        repeat ((first | refine BrReq.yes (by omega) ?_ | refine BrReq.no (by omega) ?_ | refine zT ?_ | refine zF ?_ | refine zL hX hL ?_ | refine zB hX hL ?_ | (refine zS hX hL ?_; clear hL; intro w hL) | refine zI ?_ | refine zG hX ?_ | refine zO ?_); conv => whnf)
        have hfl : ∀ t, InF ((List.range' a.1 t).foldl putF f) := fun t => inF_fold _ hf
        conv => whnf
        repeat ((first | refine zT ?_ | refine zF ?_ | refine zL hX hL ?_ | refine zB hX hL ?_ | (refine zS hX hL ?_; clear hL; intro w hL) | refine zI ?_ | refine zG hX ?_ | refine zO ?_); conv => whnf)
        refine LoopReq.inv hX (fun t : Nat => [(14, .int .i64 (a.1 + t : Nat))]) [0, 1, 4, 6, 7, 8, 11]
          (fun t w => t ≤ a.1 + 1 - a.1 ∧ Ev.Loc m [] w0 m [(b8, .cells (toArr (setC ((List.range' a.1 t).foldl putF f))) 33 (0, 0)), (b4, .cells (toArr (setC zeroF)) 33 (0, 0))] w) (fun t => a.1 + 1 - a.1 - t) 0
          ⟨by omega, hL⟩ ⟨rfl, trivial⟩ ?_
        clear hL
        rintro t w e3 ⟨ht, hL⟩
        conv => whnf
        repeat ((first | refine zT ?_ | refine zF ?_ | refine zL hX hL ?_ | refine zB hX hL ?_ | (refine zS hX hL ?_; clear hL; intro w hL) | refine zI ?_ | refine zG hX ?_ | refine zO ?_); conv => whnf)
        refine BrReq.dec (fun hlt => ?_) (fun hlt => ?_)
        · have hp := Put_fn m _ (hfl t) (a.1 + t) (by omega)
          have es : putF ((List.range' a.1 t).foldl putF f) (a.1 + t) = (List.range' a.1 (t + 1)).foldl putF f := by rw [byR_succ, List.foldl_append]; rfl
          rw [es] at hp
          conv => whnf
          repeat ((first | refine zT ?_ | refine zF ?_ | refine zL hX hL ?_ | refine zB hX hL ?_ | (refine zS hX hL ?_; clear hL; intro w hL) | refine zI ?_ | refine zG hX ?_ | refine zO ?_); conv => whnf)
          refine CallReq.val hp hL ?_
          clear hL
          intro w hL
          conv => whnf
          repeat ((first | refine zT ?_ | refine zF ?_ | refine zL hX hL ?_ | refine zB hX hL ?_ | (refine zS hX hL ?_; clear hL; intro w hL) | refine zI ?_ | refine zG hX ?_ | refine zO ?_); conv => whnf)
          refine ⟨t + 1, ⟨by omega, hL⟩, by first | omega | (simp only; omega) | (simp only [List.length_cons, List.length_append]; omega), ?_, ?_⟩
          · repeat (first | exact trivial | (refine And.intro (by (conv => lhs; whnf) <;> (conv => rhs; whnf) <;> (first | rfl)) ?_))
          · repeat (first | exact trivial | (refine And.intro (by (conv => lhs; whnf) <;> (conv => rhs; whnf) <;> (first | rfl)) ?_))
        · have et : t = a.1 + 1 - a.1 := by omega
          subst et
          conv => whnf
          repeat ((first | refine zT ?_ | refine zF ?_ | refine zL hX hL ?_ | refine zB hX hL ?_ | (refine zS hX hL ?_; clear hL; intro w hL) | refine zI ?_ | refine zG hX ?_ | refine zO ?_); conv => whnf)
          refine ⟨((j + a.2), (byR a.1 a.1).foldl putF f), ⟨by simp only; omega, by simp only; omega, hfl _, ⟨k, by simp only [List.length_drop] at hk ⊢; omega, by rw [← hcl]; congr 1; simp only; omega⟩, hL⟩, by first | omega | (simp only; omega) | (simp only [List.length_cons, List.length_append]; omega), ?_, ?_⟩
          · repeat (first | exact trivial | (refine And.intro (by (conv => lhs; whnf) <;> (conv => rhs; whnf) <;> (first | rfl)) ?_))
          · repeat (first | exact trivial | (refine And.intro (by (conv => lhs; whnf) <;> (conv => rhs; whnf) <;> (first | rfl)) ?_))
      | some d =>
      have hj1l : j + a.2 < s.length := (List.getElem?_eq_some_iff.1 hj1).1
      have hg1 := (hget (j + a.2)).trans hj1
      by_cases h45 : d.toNat = 45
      · have hd45 : d = 45 := UInt8.toNat_inj.1 h45
        rw [hj1, hd45, if_pos rfl] at hcl
        have hch2 := char_fn m s ownC (j + a.2 + 1) (by omega) hl (by decide)
        have hqlt := charT_lt ownC (s.drop (j + a.2 + 1))
        generalize charT ownC (s.drop (j + a.2 + 1)) = q at hcl hch2 hqlt
        rw [List.length_drop] at hqlt
        conv => whnf
        repeat ((first | refine BrReq.yes (by omega) ?_ | refine BrReq.no (by omega) ?_ | refine StrIdxReq.mk (j + a.2) d rfl hg1 ?_ | refine zT ?_ | refine zF ?_ | refine zL hX hL ?_ | refine zB hX hL ?_ | (refine zS hX hL ?_; clear hL; intro w hL) | refine zI ?_ | refine zG hX ?_ | refine zO ?_); conv => whnf)
        refine CallReq.val hch2 hL ?_
        clear hL
        intro w hL
        by_cases hq0 : q.2 = 0
        · rw [if_pos (.inl hq0)] at hcl
          rw [← hcl]
          conv => whnf
          repeat ((first | refine BrReq.yes (by omega) ?_ | refine zT ?_ | refine zF ?_ | refine zL hX hL ?_ | refine zB hX hL ?_ | (refine zS hX hL ?_; clear hL; intro w hL) | refine zI ?_ | refine zG hX ?_ | refine zO ?_); conv => whnf)
          exact RetReq.mk (hL.sublist (List.nil_sublist _)) ⟨rfl, rfl⟩
        by_cases hqa : q.1 < a.1
        · rw [if_pos (.inr hqa)] at hcl
          rw [← hcl]
          conv => whnf
          repeat ((first | refine BrReq.yes (by omega) ?_ | refine BrReq.no (by omega) ?_ | refine zT ?_ | refine zF ?_ | refine zL hX hL ?_ | refine zB hX hL ?_ | (refine zS hX hL ?_; clear hL; intro w hL) | refine zI ?_ | refine zG hX ?_ | refine zO ?_); conv => whnf)
          exact RetReq.mk (hL.sublist (List.nil_sublist _)) ⟨rfl, rfl⟩
        · rw [if_neg (by omega)] at hcl
          conv => whnf
          repeat ((first | refine BrReq.yes (by omega) ?_ | refine BrReq.no (by omega) ?_ | refine zT ?_ | refine zF ?_ | refine zL hX hL ?_ | refine zB hX hL ?_ | (refine zS hX hL ?_; clear hL; intro w hL) | refine zI ?_ | refine zG hX ?_ | refine zO ?_); conv => whnf)
          have hfl : ∀ t, InF ((List.range' a.1 t).foldl putF f) := fun t => inF_fold _ hf
          conv => whnf
          repeat ((first | refine zT ?_ | refine zF ?_ | refine zL hX hL ?_ | refine zB hX hL ?_ | (refine zS hX hL ?_; clear hL; intro w hL) | refine zI ?_ | refine zG hX ?_ | refine zO ?_); conv => whnf)
          refine LoopReq.inv hX (fun t : Nat => [(14, .int .i64 (a.1 + t : Nat))]) [0, 1, 4, 6, 7, 8, 11]
            (fun t w => t ≤ q.1 + 1 - a.1 ∧ Ev.Loc m [] w0 m [(b8, .cells (toArr (setC ((List.range' a.1 t).foldl putF f))) 33 (0, 0)), (b4, .cells (toArr (setC zeroF)) 33 (0, 0))] w) (fun t => q.1 + 1 - a.1 - t) 0
            ⟨by omega, hL⟩ ⟨rfl, trivial⟩ ?_
          clear hL
          rintro t w e3 ⟨ht, hL⟩
          conv => whnf
          repeat ((first | refine zT ?_ | refine zF ?_ | refine zL hX hL ?_ | refine zB hX hL ?_ | (refine zS hX hL ?_; clear hL; intro w hL) | refine zI ?_ | refine zG hX ?_ | refine zO ?_); conv => whnf)
          refine BrReq.dec (fun hlt => ?_) (fun hlt => ?_)
          · have hp := Put_fn m _ (hfl t) (a.1 + t) (by omega)
            have es : putF ((List.range' a.1 t).foldl putF f) (a.1 + t) = (List.range' a.1 (t + 1)).foldl putF f := by rw [byR_succ, List.foldl_append]; rfl
            rw [es] at hp
            conv => whnf
            repeat ((first | refine zT ?_ | refine zF ?_ | refine zL hX hL ?_ | refine zB hX hL ?_ | (refine zS hX hL ?_; clear hL; intro w hL) | refine zI ?_ | refine zG hX ?_ | refine zO ?_); conv => whnf)
            refine CallReq.val hp hL ?_
            clear hL
            intro w hL
            conv => whnf
            repeat ((first | refine zT ?_ | refine zF ?_ | refine zL hX hL ?_ | refine zB hX hL ?_ | (refine zS hX hL ?_; clear hL; intro w hL) | refine zI ?_ | refine zG hX ?_ | refine zO ?_); conv => whnf)
            refine ⟨t + 1, ⟨by omega, hL⟩, by first | omega | (simp only; omega) | (simp only [List.length_cons, List.length_append]; omega), ?_, ?_⟩
            · repeat (first | exact trivial | (refine And.intro (by (conv => lhs; whnf) <;> (conv => rhs; whnf) <;> (first | rfl)) ?_))
            · repeat (first | exact trivial | (refine And.intro (by (conv => lhs; whnf) <;> (conv => rhs; whnf) <;> (first | rfl)) ?_))
          · have et : t = q.1 + 1 - a.1 := by omega
            subst et
            conv => whnf
            repeat ((first | refine zT ?_ | refine zF ?_ | refine zL hX hL ?_ | refine zB hX hL ?_ | (refine zS hX hL ?_; clear hL; intro w hL) | refine zI ?_ | refine zG hX ?_ | refine zO ?_); conv => whnf)
            refine ⟨((j + a.2 + (1 + q.2)), (byR a.1 q.1).foldl putF f), ⟨by simp only; omega, by simp only; omega, hfl _, ⟨k, by simp only [List.length_drop] at hk ⊢; omega, by rw [← hcl]; congr 1; simp only; omega⟩, hL⟩, by first | omega | (simp only; omega) | (simp only [List.length_cons, List.length_append]; omega), ?_, ?_⟩
            · repeat (first | exact trivial | (refine And.intro (by (conv => lhs; whnf) <;> (conv => rhs; whnf) <;> (first | rfl)) ?_))
            · repeat (first | exact trivial | (refine And.intro (by (conv => lhs; whnf) <;> (conv => rhs; whnf) <;> (first | rfl)) ?_))
      · have hn45 : ¬ some d = some 45 := fun h => h45 (by cases h; rfl)
        rw [hj1, if_neg hn45] at hcl
        conv => whnf
        repeat ((first | refine BrReq.yes (by omega) ?_ | refine BrReq.no (by omega) ?_ | refine StrIdxReq.mk (j + a.2) d rfl hg1 ?_ | refine zT ?_ | refine zF ?_ | refine zL hX hL ?_ | refine zB hX hL ?_ | (refine zS hX hL ?_; clear hL; intro w hL) | refine zI ?_ | refine zG hX ?_ | refine zO ?_); conv => whnf)
        have hfl : ∀ t, InF ((List.range' a.1 t).foldl putF f) := fun t => inF_fold _ hf
        conv => whnf
        repeat ((first | refine zT ?_ | refine zF ?_ | refine zL hX hL ?_ | refine zB hX hL ?_ | (refine zS hX hL ?_; clear hL; intro w hL) | refine zI ?_ | refine zG hX ?_ | refine zO ?_); conv => whnf)
        refine LoopReq.inv hX (fun t : Nat => [(14, .int .i64 (a.1 + t : Nat))]) [0, 1, 4, 6, 7, 8, 11]
          (fun t w => t ≤ a.1 + 1 - a.1 ∧ Ev.Loc m [] w0 m [(b8, .cells (toArr (setC ((List.range' a.1 t).foldl putF f))) 33 (0, 0)), (b4, .cells (toArr (setC zeroF)) 33 (0, 0))] w) (fun t => a.1 + 1 - a.1 - t) 0
          ⟨by omega, hL⟩ ⟨rfl, trivial⟩ ?_
        clear hL
        rintro t w e3 ⟨ht, hL⟩
        conv => whnf
        repeat ((first | refine zT ?_ | refine zF ?_ | refine zL hX hL ?_ | refine zB hX hL ?_ | (refine zS hX hL ?_; clear hL; intro w hL) | refine zI ?_ | refine zG hX ?_ | refine zO ?_); conv => whnf)
        refine BrReq.dec (fun hlt => ?_) (fun hlt => ?_)
        · have hp := Put_fn m _ (hfl t) (a.1 + t) (by omega)
          have es : putF ((List.range' a.1 t).foldl putF f) (a.1 + t) = (List.range' a.1 (t + 1)).foldl putF f := by rw [byR_succ, List.foldl_append]; rfl
          rw [es] at hp
          conv => whnf
          repeat ((first | refine zT ?_ | refine zF ?_ | refine zL hX hL ?_ | refine zB hX hL ?_ | (refine zS hX hL ?_; clear hL; intro w hL) | refine zI ?_ | refine zG hX ?_ | refine zO ?_); conv => whnf)
          refine CallReq.val hp hL ?_
          clear hL
          intro w hL
          conv => whnf
          repeat ((first | refine zT ?_ | refine zF ?_ | refine zL hX hL ?_ | refine zB hX hL ?_ | (refine zS hX hL ?_; clear hL; intro w hL) | refine zI ?_ | refine zG hX ?_ | refine zO ?_); conv => whnf)
          refine ⟨t + 1, ⟨by omega, hL⟩, by first | omega | (simp only; omega) | (simp only [List.length_cons, List.length_append]; omega), ?_, ?_⟩
          · repeat (first | exact trivial | (refine And.intro (by (conv => lhs; whnf) <;> (conv => rhs; whnf) <;> (first | rfl)) ?_))
          · repeat (first | exact trivial | (refine And.intro (by (conv => lhs; whnf) <;> (conv => rhs; whnf) <;> (first | rfl)) ?_))
        · have et : t = a.1 + 1 - a.1 := by omega
          subst et
          conv => whnf
          repeat ((first | refine zT ?_ | refine zF ?_ | refine zL hX hL ?_ | refine zB hX hL ?_ | (refine zS hX hL ?_; clear hL; intro w hL) | refine zI ?_ | refine zG hX ?_ | refine zO ?_); conv => whnf)
          refine ⟨((j + a.2), (byR a.1 a.1).foldl putF f), ⟨by simp only; omega, by simp only; omega, hfl _, ⟨k, by simp only [List.length_drop] at hk ⊢; omega, by rw [← hcl]; congr 1; simp only; omega⟩, hL⟩, by first | omega | (simp only; omega) | (simp only [List.length_cons, List.length_append]; omega), ?_, ?_⟩
          · repeat (first | exact trivial | (refine And.intro (by (conv => lhs; whnf) <;> (conv => rhs; whnf) <;> (first | rfl)) ?_))
          · repeat (first | exact trivial | (refine And.intro (by (conv => lhs; whnf) <;> (conv => rhs; whnf) <;> (first | rfl)) ?_))
    · have hn : neg = false := by rw [hneg, hhd, h94]; exact decide_eq_false (fun h => hc94 (by cases h; rfl))
      subst hn
      simp only [Bool.false_eq_true, if_false] at hR0 hin ⊢
      refine Fn.enter (N := 116) hX Tryz.func56 rfl rfl (by show _ ≤ _; simp) (fun w0 hL => ?_)
      conv => whnf
      refine NewReq.mk hL ?_
      clear hL
      intro b4 w hL
      conv => whnf
      replace hL : Ev.Loc m [] w0 m [(b4, .cells (toArr (setC zeroF)) 33 (0, 0))] w := hL
      conv => whnf
      repeat ((first | refine BrReq.yes (by omega) ?_ | refine BrReq.no (by omega) ?_ | refine StrIdxReq.mk a0 c0 hia hg0 ?_ | refine zT ?_ | refine zF ?_ | refine zL hX hL ?_ | refine zB hX hL ?_ | (refine zS hX hL ?_; clear hL; intro w hL) | refine zI ?_ | refine zG hX ?_ | refine zO ?_); conv => whnf)
      rw [hia]
      conv => whnf
      repeat ((first | refine zT ?_ | refine zF ?_ | refine zL hX hL ?_ | refine zB hX hL ?_ | (refine zS hX hL ?_; clear hL; intro w hL) | refine zI ?_ | refine zG hX ?_ | refine zO ?_); conv => whnf)
      refine NewReq.mk hL ?_
      clear hL
      intro b8 w hL
      conv => whnf
      replace hL : Ev.Loc m [] w0 m [(b8, .cells (toArr (setC zeroF)) 33 (0, 0)), (b4, .cells (toArr (setC zeroF)) 33 (0, 0))] w := hL
      conv => whnf
      repeat ((first | refine zT ?_ | refine zF ?_ | refine zL hX hL ?_ | refine zB hX hL ?_ | (refine zS hX hL ?_; clear hL; intro w hL) | refine zI ?_ | refine zG hX ?_ | refine zO ?_); conv => whnf)
      refine LoopReq.inv hX (fun t : Nat × (Nat → Nat) => [(6, .int .i64 (t.1 : Nat))]) [0, 1, 4, 7, 8]
        (fun t w => a0 ≤ t.1 ∧ t.1 ≤ s.length ∧ InF t.2 ∧ (∃ k, (s.drop t.1).length < k ∧ clsT k (s.drop t.1) (t.1 - a0) t.2 = R0) ∧ Ev.Loc m [] w0 m [(b8, .cells (toArr (setC t.2)) 33 (0, 0)), (b4, .cells (toArr (setC zeroF)) 33 (0, 0))] w) (fun t => s.length + 1 - t.1) (a0, zeroF)
        ⟨by simp only; omega, hin, inF_zero, ⟨(s.drop a0).length + 1, by simp only [List.length_drop]; omega, by rw [hR0]; congr 1; simp only; omega⟩, hL⟩ ⟨rfl, trivial⟩ ?_
      clear hL
      rintro ⟨j, f⟩ w e ⟨hij, hj, hf, ⟨k, hk, hcl⟩, hL⟩
      simp only at hij hj hf hk hcl
      cases k with
      | zero => omega
      | succ k =>
      cases hjc : s[j]? with
      | none =>
        have hjl : s.length ≤ j := List.getElem?_eq_none_iff.1 hjc
        have hd : s.drop j = [] := List.drop_eq_nil_of_le hjl
        rw [hd, clsT] at hcl
        rw [← hcl]
        conv => whnf
        repeat ((first | refine BrReq.yes (by omega) ?_ | refine BrReq.no (by omega) ?_ | refine zT ?_ | refine zF ?_ | refine zL hX hL ?_ | refine zB hX hL ?_ | (refine zS hX hL ?_; clear hL; intro w hL) | refine zI ?_ | refine zG hX ?_ | refine zO ?_); conv => whnf)
        exact RetReq.mk (hL.sublist (List.nil_sublist _)) ⟨rfl, rfl⟩
      | some c =>
      have hjl : j < s.length := (List.getElem?_eq_some_iff.1 hjc).1
      have hgj := (hget j).trans hjc
      have hd : s.drop j = c :: s.drop (j + 1) := by rw [List.drop_eq_getElem_cons hjl]; congr 1; exact Option.some.inj ((List.getElem?_eq_getElem hjl).symm.trans hjc)
      by_cases h93 : c.toNat = 93
      · rw [hd] at hcl
        simp only [clsT] at hcl
        rw [if_pos h93] at hcl
        rw [← hcl]
        conv => whnf
        repeat ((first | refine BrReq.yes (by omega) ?_ | refine BrReq.no (by omega) ?_ | refine StrIdxReq.mk j c rfl hgj ?_ | refine zT ?_ | refine zF ?_ | refine zL hX hL ?_ | refine zB hX hL ?_ | (refine zS hX hL ?_; clear hL; intro w hL) | refine zI ?_ | refine zG hX ?_ | refine zO ?_); conv => whnf)
        refine RetReq.mk (hL.sublist (List.nil_sublist _)) ⟨rfl, ?_⟩
        exact congrArg (fun z : Int => Value.tuple (toArr [.agg (toArr (setC f)), .int .i64 z])) (by simp only [clsN]; omega)
      have hch := char_fn m s ownC j (by omega) hl (by decide)
      have halt := charT_lt ownC (s.drop j)
      rw [hd] at hch halt
      rw [hd] at hcl
      simp only [clsT] at hcl
      generalize charT ownC (c :: s.drop (j + 1)) = a at hcl hch halt
      rw [if_neg h93] at hcl
      conv => whnf
      repeat ((first | refine BrReq.yes (by omega) ?_ | refine BrReq.no (by omega) ?_ | refine StrIdxReq.mk j c rfl hgj ?_ | refine zT ?_ | refine zF ?_ | refine zL hX hL ?_ | refine zB hX hL ?_ | (refine zS hX hL ?_; clear hL; intro w hL) | refine zI ?_ | refine zG hX ?_ | refine zO ?_); conv => whnf)
      refine CallReq.val hch hL ?_
      clear hL
      intro w hL
      by_cases ha2 : a.2 = 0
      · rw [if_pos ha2] at hcl
        rw [← hcl]
        conv => whnf
        repeat ((first | refine BrReq.yes (by omega) ?_ | refine zT ?_ | refine zF ?_ | refine zL hX hL ?_ | refine zB hX hL ?_ | (refine zS hX hL ?_; clear hL; intro w hL) | refine zI ?_ | refine zG hX ?_ | refine zO ?_); conv => whnf)
        exact RetReq.mk (hL.sublist (List.nil_sublist _)) ⟨rfl, rfl⟩
      rw [if_neg ha2] at hcl
      have e1 : (c :: s.drop (j + 1)).drop a.2 = s.drop (j + a.2) := by rw [← hd, List.drop_drop]
      have e2 : (c :: s.drop (j + 1)).drop (a.2 + 1) = s.drop (j + a.2 + 1) := by rw [← hd, List.drop_drop]; rfl
      have e3 : ∀ q, (c :: s.drop (j + 1)).drop (a.2 + 1 + q) = s.drop (j + a.2 + (1 + q)) := fun q => by rw [← hd, List.drop_drop]; congr 1; omega
      rw [e1, e2, e3, List.head?_drop] at hcl
      have hlj : j + a.2 ≤ s.length := by
        have h1 : (c :: s.drop (j + 1)).length = s.length - j := by rw [← hd, List.length_drop]
        have := halt.2
        rw [h1] at this; omega
      cases hj1 : s[j + a.2]? with
      | none =>
        have hj1l : s.length ≤ j + a.2 := List.getElem?_eq_none_iff.1 hj1
        rw [hj1, if_neg (by simp)] at hcl
        conv => whnf
        repeat ((first | refine BrReq.yes (by omega) ?_ | refine BrReq.no (by omega) ?_ | refine zT ?_ | refine zF ?_ | refine zL hX hL ?_ | refine zB hX hL ?_ | (refine zS hX hL ?_; clear hL; intro w hL) | refine zI ?_ | refine zG hX ?_ | refine zO ?_); conv => whnf)
        have hfl : ∀ t, InF ((List.range' a.1 t).foldl putF f) := fun t => inF_fold _ hf
        conv => whnf
        repeat ((first | refine zT ?_ | refine zF ?_ | refine zL hX hL ?_ | refine zB hX hL ?_ | (refine zS hX hL ?_; clear hL; intro w hL) | refine zI ?_ | refine zG hX ?_ | refine zO ?_); conv => whnf)
        refine LoopReq.inv hX (fun t : Nat => [(14, .int .i64 (a.1 + t : Nat))]) [0, 1, 4, 6, 7, 8, 11]
          (fun t w => t ≤ a.1 + 1 - a.1 ∧ Ev.Loc m [] w0 m [(b8, .cells (toArr (setC ((List.range' a.1 t).foldl putF f))) 33 (0, 0)), (b4, .cells (toArr (setC zeroF)) 33 (0, 0))] w) (fun t => a.1 + 1 - a.1 - t) 0
          ⟨by omega, hL⟩ ⟨rfl, trivial⟩ ?_
        clear hL
        rintro t w e3 ⟨ht, hL⟩
        conv => whnf
        repeat ((first | refine zT ?_ | refine zF ?_ | refine zL hX hL ?_ | refine zB hX hL ?_ | (refine zS hX hL ?_; clear hL; intro w hL) | refine zI ?_ | refine zG hX ?_ | refine zO ?_); conv => whnf)
        refine BrReq.dec (fun hlt => ?_) (fun hlt => ?_)
        · have hp := Put_fn m _ (hfl t) (a.1 + t) (by omega)
          have es : putF ((List.range' a.1 t).foldl putF f) (a.1 + t) = (List.range' a.1 (t + 1)).foldl putF f := by rw [byR_succ, List.foldl_append]; rfl
          rw [es] at hp
          conv => whnf
          repeat ((first | refine zT ?_ | refine zF ?_ | refine zL hX hL ?_ | refine zB hX hL ?_ | (refine zS hX hL ?_; clear hL; intro w hL) | refine zI ?_ | refine zG hX ?_ | refine zO ?_); conv => whnf)
          refine CallReq.val hp hL ?_
          clear hL
          intro w hL
          conv => whnf
          repeat ((first | refine zT ?_ | refine zF ?_ | refine zL hX hL ?_ | refine zB hX hL ?_ | (refine zS hX hL ?_; clear hL; intro w hL) | refine zI ?_ | refine zG hX ?_ | refine zO ?_); conv => whnf)
          refine ⟨t + 1, ⟨by omega, hL⟩, by first | omega | (simp only; omega) | (simp only [List.length_cons, List.length_append]; omega), ?_, ?_⟩
          · repeat (first | exact trivial | (refine And.intro (by (conv => lhs; whnf) <;> (conv => rhs; whnf) <;> (first | rfl)) ?_))
          · repeat (first | exact trivial | (refine And.intro (by (conv => lhs; whnf) <;> (conv => rhs; whnf) <;> (first | rfl)) ?_))
        · have et : t = a.1 + 1 - a.1 := by omega
          subst et
          conv => whnf
          repeat ((first | refine zT ?_ | refine zF ?_ | refine zL hX hL ?_ | refine zB hX hL ?_ | (refine zS hX hL ?_; clear hL; intro w hL) | refine zI ?_ | refine zG hX ?_ | refine zO ?_); conv => whnf)
          refine ⟨((j + a.2), (byR a.1 a.1).foldl putF f), ⟨by simp only; omega, by simp only; omega, hfl _, ⟨k, by simp only [List.length_drop] at hk ⊢; omega, by rw [← hcl]; congr 1; simp only; omega⟩, hL⟩, by first | omega | (simp only; omega) | (simp only [List.length_cons, List.length_append]; omega), ?_, ?_⟩
          · repeat (first | exact trivial | (refine And.intro (by (conv => lhs; whnf) <;> (conv => rhs; whnf) <;> (first | rfl)) ?_))
          · repeat (first | exact trivial | (refine And.intro (by (conv => lhs; whnf) <;> (conv => rhs; whnf) <;> (first | rfl)) ?_))
      | some d =>
      have hj1l : j + a.2 < s.length := (List.getElem?_eq_some_iff.1 hj1).1
      have hg1 := (hget (j + a.2)).trans hj1
      by_cases h45 : d.toNat = 45
      · have hd45 : d = 45 := UInt8.toNat_inj.1 h45
        rw [hj1, hd45, if_pos rfl] at hcl
        have hch2 := char_fn m s ownC (j + a.2 + 1) (by omega) hl (by decide)
        have hqlt := charT_lt ownC (s.drop (j + a.2 + 1))
        generalize charT ownC (s.drop (j + a.2 + 1)) = q at hcl hch2 hqlt
        rw [List.length_drop] at hqlt
        conv => whnf
        repeat ((first | refine BrReq.yes (by omega) ?_ | refine BrReq.no (by omega) ?_ | refine StrIdxReq.mk (j + a.2) d rfl hg1 ?_ | refine zT ?_ | refine zF ?_ | refine zL hX hL ?_ | refine zB hX hL ?_ | (refine zS hX hL ?_; clear hL; intro w hL) | refine zI ?_ | refine zG hX ?_ | refine zO ?_); conv => whnf)
        refine CallReq.val hch2 hL ?_
        clear hL
        intro w hL
        by_cases hq0 : q.2 = 0
        · rw [if_pos (.inl hq0)] at hcl
          rw [← hcl]
          conv => whnf
          repeat ((first | refine BrReq.yes (by omega) ?_ | refine zT ?_ | refine zF ?_ | refine zL hX hL ?_ | refine zB hX hL ?_ | (refine zS hX hL ?_; clear hL; intro w hL) | refine zI ?_ | refine zG hX ?_ | refine zO ?_); conv => whnf)
          exact RetReq.mk (hL.sublist (List.nil_sublist _)) ⟨rfl, rfl⟩
        by_cases hqa : q.1 < a.1
        · rw [if_pos (.inr hqa)] at hcl
          rw [← hcl]
          conv => whnf
          repeat ((first | refine BrReq.yes (by omega) ?_ | refine BrReq.no (by omega) ?_ | refine zT ?_ | refine zF ?_ | refine zL hX hL ?_ | refine zB hX hL ?_ | (refine zS hX hL ?_; clear hL; intro w hL) | refine zI ?_ | refine zG hX ?_ | refine zO ?_); conv => whnf)
          exact RetReq.mk (hL.sublist (List.nil_sublist _)) ⟨rfl, rfl⟩
        · rw [if_neg (by omega)] at hcl
          conv => whnf
          repeat ((first | refine BrReq.yes (by omega) ?_ | refine BrReq.no (by omega) ?_ | refine zT ?_ | refine zF ?_ | refine zL hX hL ?_ | refine zB hX hL ?_ | (refine zS hX hL ?_; clear hL; intro w hL) | refine zI ?_ | refine zG hX ?_ | refine zO ?_); conv => whnf)
          have hfl : ∀ t, InF ((List.range' a.1 t).foldl putF f) := fun t => inF_fold _ hf
          conv => whnf
          repeat ((first | refine zT ?_ | refine zF ?_ | refine zL hX hL ?_ | refine zB hX hL ?_ | (refine zS hX hL ?_; clear hL; intro w hL) | refine zI ?_ | refine zG hX ?_ | refine zO ?_); conv => whnf)
          refine LoopReq.inv hX (fun t : Nat => [(14, .int .i64 (a.1 + t : Nat))]) [0, 1, 4, 6, 7, 8, 11]
            (fun t w => t ≤ q.1 + 1 - a.1 ∧ Ev.Loc m [] w0 m [(b8, .cells (toArr (setC ((List.range' a.1 t).foldl putF f))) 33 (0, 0)), (b4, .cells (toArr (setC zeroF)) 33 (0, 0))] w) (fun t => q.1 + 1 - a.1 - t) 0
            ⟨by omega, hL⟩ ⟨rfl, trivial⟩ ?_
          clear hL
          rintro t w e3 ⟨ht, hL⟩
          conv => whnf
          repeat ((first | refine zT ?_ | refine zF ?_ | refine zL hX hL ?_ | refine zB hX hL ?_ | (refine zS hX hL ?_; clear hL; intro w hL) | refine zI ?_ | refine zG hX ?_ | refine zO ?_); conv => whnf)
          refine BrReq.dec (fun hlt => ?_) (fun hlt => ?_)
          · have hp := Put_fn m _ (hfl t) (a.1 + t) (by omega)
            have es : putF ((List.range' a.1 t).foldl putF f) (a.1 + t) = (List.range' a.1 (t + 1)).foldl putF f := by rw [byR_succ, List.foldl_append]; rfl
            rw [es] at hp
            conv => whnf
            repeat ((first | refine zT ?_ | refine zF ?_ | refine zL hX hL ?_ | refine zB hX hL ?_ | (refine zS hX hL ?_; clear hL; intro w hL) | refine zI ?_ | refine zG hX ?_ | refine zO ?_); conv => whnf)
            refine CallReq.val hp hL ?_
            clear hL
            intro w hL
            conv => whnf
            repeat ((first | refine zT ?_ | refine zF ?_ | refine zL hX hL ?_ | refine zB hX hL ?_ | (refine zS hX hL ?_; clear hL; intro w hL) | refine zI ?_ | refine zG hX ?_ | refine zO ?_); conv => whnf)
            refine ⟨t + 1, ⟨by omega, hL⟩, by first | omega | (simp only; omega) | (simp only [List.length_cons, List.length_append]; omega), ?_, ?_⟩
            · repeat (first | exact trivial | (refine And.intro (by (conv => lhs; whnf) <;> (conv => rhs; whnf) <;> (first | rfl)) ?_))
            · repeat (first | exact trivial | (refine And.intro (by (conv => lhs; whnf) <;> (conv => rhs; whnf) <;> (first | rfl)) ?_))
          · have et : t = q.1 + 1 - a.1 := by omega
            subst et
            conv => whnf
            repeat ((first | refine zT ?_ | refine zF ?_ | refine zL hX hL ?_ | refine zB hX hL ?_ | (refine zS hX hL ?_; clear hL; intro w hL) | refine zI ?_ | refine zG hX ?_ | refine zO ?_); conv => whnf)
            refine ⟨((j + a.2 + (1 + q.2)), (byR a.1 q.1).foldl putF f), ⟨by simp only; omega, by simp only; omega, hfl _, ⟨k, by simp only [List.length_drop] at hk ⊢; omega, by rw [← hcl]; congr 1; simp only; omega⟩, hL⟩, by first | omega | (simp only; omega) | (simp only [List.length_cons, List.length_append]; omega), ?_, ?_⟩
            · repeat (first | exact trivial | (refine And.intro (by (conv => lhs; whnf) <;> (conv => rhs; whnf) <;> (first | rfl)) ?_))
            · repeat (first | exact trivial | (refine And.intro (by (conv => lhs; whnf) <;> (conv => rhs; whnf) <;> (first | rfl)) ?_))
      · have hn45 : ¬ some d = some 45 := fun h => h45 (by cases h; rfl)
        rw [hj1, if_neg hn45] at hcl
        conv => whnf
        repeat ((first | refine BrReq.yes (by omega) ?_ | refine BrReq.no (by omega) ?_ | refine StrIdxReq.mk (j + a.2) d rfl hg1 ?_ | refine zT ?_ | refine zF ?_ | refine zL hX hL ?_ | refine zB hX hL ?_ | (refine zS hX hL ?_; clear hL; intro w hL) | refine zI ?_ | refine zG hX ?_ | refine zO ?_); conv => whnf)
        have hfl : ∀ t, InF ((List.range' a.1 t).foldl putF f) := fun t => inF_fold _ hf
        conv => whnf
        repeat ((first | refine zT ?_ | refine zF ?_ | refine zL hX hL ?_ | refine zB hX hL ?_ | (refine zS hX hL ?_; clear hL; intro w hL) | refine zI ?_ | refine zG hX ?_ | refine zO ?_); conv => whnf)
        refine LoopReq.inv hX (fun t : Nat => [(14, .int .i64 (a.1 + t : Nat))]) [0, 1, 4, 6, 7, 8, 11]
          (fun t w => t ≤ a.1 + 1 - a.1 ∧ Ev.Loc m [] w0 m [(b8, .cells (toArr (setC ((List.range' a.1 t).foldl putF f))) 33 (0, 0)), (b4, .cells (toArr (setC zeroF)) 33 (0, 0))] w) (fun t => a.1 + 1 - a.1 - t) 0
          ⟨by omega, hL⟩ ⟨rfl, trivial⟩ ?_
        clear hL
        rintro t w e3 ⟨ht, hL⟩
        conv => whnf
        repeat ((first | refine zT ?_ | refine zF ?_ | refine zL hX hL ?_ | refine zB hX hL ?_ | (refine zS hX hL ?_; clear hL; intro w hL) | refine zI ?_ | refine zG hX ?_ | refine zO ?_); conv => whnf)
        refine BrReq.dec (fun hlt => ?_) (fun hlt => ?_)
        · have hp := Put_fn m _ (hfl t) (a.1 + t) (by omega)
          have es : putF ((List.range' a.1 t).foldl putF f) (a.1 + t) = (List.range' a.1 (t + 1)).foldl putF f := by rw [byR_succ, List.foldl_append]; rfl
          rw [es] at hp
          conv => whnf
          repeat ((first | refine zT ?_ | refine zF ?_ | refine zL hX hL ?_ | refine zB hX hL ?_ | (refine zS hX hL ?_; clear hL; intro w hL) | refine zI ?_ | refine zG hX ?_ | refine zO ?_); conv => whnf)
          refine CallReq.val hp hL ?_
          clear hL
          intro w hL
          conv => whnf
          repeat ((first | refine zT ?_ | refine zF ?_ | refine zL hX hL ?_ | refine zB hX hL ?_ | (refine zS hX hL ?_; clear hL; intro w hL) | refine zI ?_ | refine zG hX ?_ | refine zO ?_); conv => whnf)
          refine ⟨t + 1, ⟨by omega, hL⟩, by first | omega | (simp only; omega) | (simp only [List.length_cons, List.length_append]; omega), ?_, ?_⟩
          · repeat (first | exact trivial | (refine And.intro (by (conv => lhs; whnf) <;> (conv => rhs; whnf) <;> (first | rfl)) ?_))
          · repeat (first | exact trivial | (refine And.intro (by (conv => lhs; whnf) <;> (conv => rhs; whnf) <;> (first | rfl)) ?_))
        · have et : t = a.1 + 1 - a.1 := by omega
          subst et
          conv => whnf
          repeat ((first | refine zT ?_ | refine zF ?_ | refine zL hX hL ?_ | refine zB hX hL ?_ | (refine zS hX hL ?_; clear hL; intro w hL) | refine zI ?_ | refine zG hX ?_ | refine zO ?_); conv => whnf)
          refine ⟨((j + a.2), (byR a.1 a.1).foldl putF f), ⟨by simp only; omega, by simp only; omega, hfl _, ⟨k, by simp only [List.length_drop] at hk ⊢; omega, by rw [← hcl]; congr 1; simp only; omega⟩, hL⟩, by first | omega | (simp only; omega) | (simp only [List.length_cons, List.length_append]; omega), ?_, ?_⟩
          · repeat (first | exact trivial | (refine And.intro (by (conv => lhs; whnf) <;> (conv => rhs; whnf) <;> (first | rfl)) ?_))
          · repeat (first | exact trivial | (refine And.intro (by (conv => lhs; whnf) <;> (conv => rhs; whnf) <;> (first | rfl)) ?_))
end Go.Proofs.YtemdkfohlppckaaGreatDoor.lx
