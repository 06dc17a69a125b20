/- Macros: the law's own functions, walked: Few, leans, cyclic, early. Conditions: the laid variables are what they are. -/
import Derived.Test.YtemdkfohlppckaaGreatDoorMaExpand
import Derived.Test.YtemdkfohlppckaaGreatDoorLxRefF

namespace Go.Proofs.YtemdkfohlppckaaGreatDoor.ma
open Go Go.Ev Go.Proofs Go.Proofs.YtemdkfohlppckaaGreatDoor.lx Go.Proofs.YtemdkfohlppckaaGreatDoor.tree Go.Proofs.YtemdkfohlppckaaGreatDoor.pa

/-- What is looked at. -/
def FewM (l : Ms) : Prop := l.length ≤ 25 ∧ ∀ x ∈ l, x.1.length ≤ 100 ∧ x.2.length ≤ 3000
theorem FewM_tx {l : Ms} (h : FewM l) (k : Nat) (hk : k < l.length) : (txM l k).length ≤ 3000 ∧ (nmM l k).length ≤ 100 := by
  have : txM l k = l[k].2 ∧ nmM l k = l[k].1 := by unfold txM nmM; rw [List.getD_eq_getElem?_getD, List.getElem?_eq_getElem hk]; exact ⟨rfl, rfl⟩
  rw [this.1, this.2]
  have := h.2 _ (List.getElem_mem hk)
  exact ⟨this.2, this.1⟩
theorem mac_at {m : Mem} {v : Value} {l : Ms} (hv : Sl m 2 isMac v l) {A : Option Addr} {n c : Nat} (e : v = .slice A n c) {k : Nat} (hk : k < l.length) :
    ∃ a, A = some a ∧ mcell m ((a.add (scale k 2)).add 0) = some (.string (bs (nmM l k))) ∧ mcell m ((a.add (scale k 2)).add 1) = some (.string (bs (txM l k))) := by
  subst e
  obtain ⟨a, cs, ea, -, hcl, hx⟩ := hv.elem k _ (List.getElem?_eq_getElem hk)
  have e1 : nmM l k = l[k].1 ∧ txM l k = l[k].2 := by unfold txM nmM; rw [List.getD_eq_getElem?_getD, List.getElem?_eq_getElem hk]; exact ⟨rfl, rfl⟩
  unfold isMac at hx
  subst hx
  rw [e1.1, e1.2]
  exact ⟨a, ea, hcl 0 _ rfl, hcl 1 _ rfl⟩

set_option maxHeartbeats 1000000 in
theorem Few_fn (m : Mem) (l : Ms) (v : Value) (hv : Sl m 2 isMac v l) (hb : ∀ x ∈ l, x.1.length ≤ 281474976710656 ∧ x.2.length ≤ 281474976710656) :
    Fn0 Tryz.prog 6 [v] m fun _ u => ∃ b, u = .bool b ∧ (b = true → FewM l) := by
  have hmx : maxLen = 9223372036854775807 := rfl
  have hv' := hv
  obtain ⟨A, n, c, rfl, hnl, hcc, hm, -⟩ := id hv
  subst hnl
  refine Fn.enter (N := 34) hX Tryz.func6 rfl rfl (by show _ ≤ _; simp) (fun w0 hL => ?_)
  conv => whnf
  conv => whnf
  repeat ((first | refine zT ?_ | refine zF ?_ | refine zL hX hL ?_ | refine zB hX hL ?_ | (refine zS hX hL ?_; clear hL; intro w hL) | refine zI ?_ | refine zG hX ?_ | refine zO ?_); conv => whnf)
  refine LoopReq.inv hX (fun s : Nat × Nat => [(3, .int .i64 s.2), (7, .int .i64 s.1)]) [0, 6]
    (fun s w => (s.1 ≤ l.length ∧ s.1 ≤ 25 ∧ s.2 ≤ 3000 ∧ ∀ (k : Nat) (x : List UInt8 × List UInt8), k < s.1 → l[k]? = some x → x.1.length ≤ 100 ∧ x.2.length ≤ 3000) ∧ Ev.Loc m [] w0 m [] w) (fun s => l.length - s.1) (0, 0)
    ⟨⟨Nat.zero_le _, by simp, by simp, fun k x h => by simp at h⟩, hL⟩ ⟨rfl, rfl, trivial⟩ ?_
  clear hL
  rintro ⟨i, q⟩ w f ⟨⟨hi, h25, hq, hdone⟩, hL⟩
  simp only at hi h25 hq hdone
  conv => whnf
  repeat ((first | refine zT ?_ | refine zF ?_ | refine zL hX hL ?_ | refine zB hX hL ?_ | (refine zS hX hL ?_; clear hL; intro w hL) | refine zI ?_ | refine zG hX ?_ | refine zO ?_); conv => whnf)
  refine BrReq.dec (fun hlt => ?_) (fun hlt => ?_)
  · have hi1 : i < l.length := by simp only at hlt; omega
    obtain ⟨a, ea, c0, c1⟩ := mac_at hv' rfl hi1
    have hx := List.getElem?_eq_getElem hi1
    have hxb := hb _ (List.getElem_mem hi1)
    have e1 : nmM l i = l[i].1 ∧ txM l i = l[i].2 := by unfold txM nmM; rw [List.getD_eq_getElem?_getD, hx]; exact ⟨rfl, rfl⟩
    rw [e1.1] at c0
    rw [e1.2] at c1
    have s0 := bs_size l[i].1
    have s1 := bs_size l[i].2
    generalize l[i] = x at *
    conv => whnf
    repeat ((first | refine Idx2Req.mk i a rfl (by omega) ea ?_ | refine LdReq.one hX rfl rfl hL c1 ?_ | refine zT ?_ | refine zF ?_ | refine zL hX hL ?_ | refine zB hX hL ?_ | (refine zS hX hL ?_; clear hL; intro w hL) | refine zI ?_ | refine zG hX ?_ | refine zO ?_); conv => whnf)
    by_cases c1' : 25 ≤ i
    · conv => whnf
      repeat ((first | refine BrReq.yes (by omega) ?_ | refine zT ?_ | refine zF ?_ | refine zL hX hL ?_ | refine zB hX hL ?_ | (refine zS hX hL ?_; clear hL; intro w hL) | refine zI ?_ | refine zG hX ?_ | refine zO ?_); conv => whnf)
      conv => whnf
      repeat ((first | refine zT ?_ | refine zF ?_ | refine zL hX hL ?_ | refine zB hX hL ?_ | (refine zS hX hL ?_; clear hL; intro w hL) | refine zI ?_ | refine zG hX ?_ | refine zO ?_); conv => whnf)
      exact RetReq.mk hL ⟨rfl, _, rfl, fun h => by cases h⟩
    by_cases c2' : 3000 < q + x.2.length
    · conv => whnf
      repeat ((first | refine BrReq.no (by omega) ?_ | refine BrReq.yes (by omega) ?_ | refine zT ?_ | refine zF ?_ | refine zL hX hL ?_ | refine zB hX hL ?_ | (refine zS hX hL ?_; clear hL; intro w hL) | refine zI ?_ | refine zG hX ?_ | refine zO ?_); conv => whnf)
      conv => whnf
      repeat ((first | refine zT ?_ | refine zF ?_ | refine zL hX hL ?_ | refine zB hX hL ?_ | (refine zS hX hL ?_; clear hL; intro w hL) | refine zI ?_ | refine zG hX ?_ | refine zO ?_); conv => whnf)
      exact RetReq.mk hL ⟨rfl, _, rfl, fun h => by cases h⟩
    by_cases c3' : 100 < x.1.length
    · conv => whnf
      repeat ((first | refine BrReq.no (by omega) ?_ | refine Idx2Req.mk i a rfl (by omega) ea ?_ | refine LdReq.one hX rfl rfl hL c0 ?_ | refine BrReq.yes (by omega) ?_ | refine zT ?_ | refine zF ?_ | refine zL hX hL ?_ | refine zB hX hL ?_ | (refine zS hX hL ?_; clear hL; intro w hL) | refine zI ?_ | refine zG hX ?_ | refine zO ?_); conv => whnf)
      conv => whnf
      repeat ((first | refine zT ?_ | refine zF ?_ | refine zL hX hL ?_ | refine zB hX hL ?_ | (refine zS hX hL ?_; clear hL; intro w hL) | refine zI ?_ | refine zG hX ?_ | refine zO ?_); conv => whnf)
      exact RetReq.mk hL ⟨rfl, _, rfl, fun h => by cases h⟩
    · conv => whnf
      repeat ((first | refine BrReq.no (by omega) ?_ | refine Idx2Req.mk i a rfl (by omega) ea ?_ | refine LdReq.one hX rfl rfl hL c0 ?_ | refine zT ?_ | refine zF ?_ | refine zL hX hL ?_ | refine zB hX hL ?_ | (refine zS hX hL ?_; clear hL; intro w hL) | refine zI ?_ | refine zG hX ?_ | refine zO ?_); conv => whnf)
      have hstep : ∀ (k : Nat) (y : List UInt8 × List UInt8), k < i + 1 → l[k]? = some y → y.1.length ≤ 100 ∧ y.2.length ≤ 3000 := fun k y hk hy => by
        by_cases e : k = i
        · subst e; rw [hx] at hy; cases hy; exact ⟨by omega, by omega⟩
        · exact hdone k y (by omega) hy
      refine ⟨(i + 1, q + x.2.length), ⟨⟨by simp only; omega, by simp only; omega, by simp only; omega, hstep⟩, hL⟩, by first | omega | (simp only; omega) | (simp only [List.length_cons, List.length_append]; omega), ?_, ?_⟩
      · repeat (first | exact trivial | (refine And.intro (by (conv => lhs; whnf) <;> (conv => rhs; whnf) <;> (first | rfl | ((simp only; omega)))) ?_))
      · repeat (first | exact trivial | (refine And.intro (by (conv => lhs; whnf) <;> (conv => rhs; whnf) <;> (first | rfl | ((simp only; omega)))) ?_))
  · have ei : i = l.length := by simp only at hlt; omega
    subst ei
    conv => whnf
    repeat ((first | refine zT ?_ | refine zF ?_ | refine zL hX hL ?_ | refine zB hX hL ?_ | (refine zS hX hL ?_; clear hL; intro w hL) | refine zI ?_ | refine zG hX ?_ | refine zO ?_); conv => whnf)
    exact RetReq.mk hL ⟨rfl, _, rfl, fun _ => ⟨h25, fun x hx => by
      obtain ⟨k, hk, rfl⟩ := List.getElem_of_mem hx
      exact hdone k _ hk (List.getElem?_eq_getElem hk)⟩⟩

set_option maxHeartbeats 1000000 in
theorem leans_fn (m : Mem) (hQ : LibMem m) (l : Ms) (v : Value) (hv : Sl m 2 isMac v l) (hF : FewM l) (i k : Nat) (hi : i < l.length) (hk : k < l.length) :
    Fn0 Tryz.prog 38 [v, .int .i64 i, .int .i64 k] m fun _ u => u = .bool (leansB l i k) := by
  have hmx : maxLen = 9223372036854775807 := rfl
  have hv' := hv
  obtain ⟨A, n, c, rfl, hnl, hcc, hm, -⟩ := id hv
  subst hnl
  obtain ⟨a, ea, -, c1⟩ := mac_at hv' rfl hi
  obtain ⟨ak, eak, c0, -⟩ := mac_at hv' rfl hk
  have hw := Words_fn m hQ (txM l i) (by have := (FewM_tx hF i hi).1; omega)
  have hlb : leansB l i k = (decide ((outT (txM l i)).2.2 = 0) && (outT (txM l i)).1.any fun w => decide (w.2.kind = 11) && decide (w.2.name = nmM l k)) := rfl
  rw [hlb]
  clear hlb
  refine Fn.enter (N := 50) hX Tryz.func38 rfl rfl (by show _ ≤ _; simp) (fun w0 hL => ?_)
  conv => whnf
  conv => whnf
  repeat ((first | refine Idx2Req.mk i a rfl (by omega) ea ?_ | refine LdReq.one hX rfl rfl hL c1 ?_ | refine zT ?_ | refine zF ?_ | refine zL hX hL ?_ | refine zB hX hL ?_ | (refine zS hX hL ?_; clear hL; intro w hL) | refine zI ?_ | refine zG hX ?_ | refine zO ?_); conv => whnf)
  refine CallReq.pure hw hL ?_
  clear hL
  rintro u m1 w hL hm1 ⟨sl, rfl, hsl⟩
  generalize outT (txM l i) = O at *
  obtain ⟨A1, n1, c1', rfl, hn1, hcc1, hx1, -⟩ := id hsl
  replace c0 := mcell_le hm1 c0
  conv => whnf
  repeat ((first | refine zT ?_ | refine zF ?_ | refine zL hX hL ?_ | refine zB hX hL ?_ | (refine zS hX hL ?_; clear hL; intro w hL) | refine zI ?_ | refine zG hX ?_ | refine zO ?_); conv => whnf)
  refine LoopReq.inv hX (fun j : Nat => [(23, .int .i64 j)]) [0, 2, 7, 9, 22]
    (fun j w => (j ≤ O.1.length ∧ (O.2.2 = 0 → ∀ x ∈ O.1.take j, (decide (x.2.kind = 11) && decide (x.2.name = nmM l k)) = false)) ∧ Ev.Loc m [] w0 m1 [] w) (fun j => O.1.length - j) 0
    ⟨⟨Nat.zero_le _, fun _ x hx => by simp at hx⟩, hL⟩ ⟨rfl, trivial⟩ ?_
  clear hL
  rintro j w f ⟨⟨hj, hno⟩, hL⟩
  conv => whnf
  repeat ((first | refine zT ?_ | refine zF ?_ | refine zL hX hL ?_ | refine zB hX hL ?_ | (refine zS hX hL ?_; clear hL; intro w hL) | refine zI ?_ | refine zG hX ?_ | refine zO ?_); conv => whnf)
  refine BrReq.dec (fun hlt => ?_) (fun hlt => ?_)
  · have hj1 : j < O.1.length := by omega
    obtain ⟨aj, cs, eaj, hl9, hcl, hx⟩ := hsl.elem j _ (List.getElem?_eq_getElem hj1)
    have htk : O.1.take (j + 1) = O.1.take j ++ [O.1[j]] := by rw [List.take_add_one, List.getElem?_eq_getElem hj1]; rfl
    have hmem : O.1[j] ∈ O.1 := List.getElem_mem hj1
    generalize O.1[j] = x at *
    unfold isW at hx
    subst hx
    have hk0 : mcell m1 ((aj.add (scale j 9)).add 0) = some (.int .i64 x.2.kind) := hcl 0 _ rfl
    have hk6 : mcell m1 ((aj.add (scale j 9)).add 6) = some (.string (bs x.2.name)) := hcl 6 _ rfl
    have hstep : (O.2.2 = 0 → (decide (x.2.kind = 11) && decide (x.2.name = nmM l k)) = false) → (O.2.2 = 0 → ∀ y ∈ O.1.take (j + 1), (decide (y.2.kind = 11) && decide (y.2.name = nmM l k)) = false) := fun h h0 y hy => by
      rw [htk] at hy
      rcases List.mem_append.1 hy with hy | hy
      · exact hno h0 y hy
      · rw [List.mem_singleton.1 hy]; exact h h0
    conv => whnf
    repeat ((first | refine zT ?_ | refine zF ?_ | refine zL hX hL ?_ | refine zB hX hL ?_ | (refine zS hX hL ?_; clear hL; intro w hL) | refine zI ?_ | refine zG hX ?_ | refine zO ?_); conv => whnf)
    refine DrawReq.plan hX (.fst 0 (.fst 1 (.fst 2 (.fst 3 (.fst 4 (.fst 5 (.fst 6 (.fst 7 (.fst 8 (.fst 9 (.fst 10 (.fst 11 (.fst 12 (.fst 13 (.fst 14 (.fst 15 (.fst 16 (.fst 17 (.fst 18 (.fst 19 (.fst 20 (.fst 21 (.fst 22 (.done)))))))))))))))))))))))) _ (by kernel_rfl) (by kernel_rfl) hL id ?_
    clear hL
    intro w hL
    by_cases h0 : O.2.2 = 0
    rotate_left
    · conv => whnf
      repeat ((first | refine BrReq.no h0 ?_ | refine zQ hX ?_ | refine zR hX ?_ | refine zA ?_ | refine zT ?_ | refine zF ?_ | refine zL hX hL ?_ | refine zB hX hL ?_ | (refine zS hX hL ?_; clear hL; intro w hL) | refine zI ?_ | refine zG hX ?_ | refine zO ?_); conv => whnf)
      refine ⟨j + 1, ⟨⟨by omega, hstep fun h => absurd h h0⟩, hL⟩, by first | omega | (simp only; omega) | (simp only [List.length_cons, List.length_append]; omega), ?_, ?_⟩
      · repeat (first | exact trivial | (refine And.intro (by (conv => lhs; whnf) <;> (conv => rhs; whnf) <;> (first | rfl)) ?_))
      · repeat (first | exact trivial | (refine And.intro (by (conv => lhs; whnf) <;> (conv => rhs; whnf) <;> (first | rfl)) ?_))
    by_cases hk11 : x.2.kind = 11
    rotate_left
    · conv => whnf
      repeat ((first | refine BrReq.yes h0 ?_ | refine Idx2Req.mk j aj rfl (by omega) eaj ?_ | refine QLdReq.one hX rfl rfl hk0 ?_ | refine BrReq.no hk11 ?_ | refine zQ hX ?_ | refine zR hX ?_ | refine zA ?_ | refine zT ?_ | refine zF ?_ | refine zL hX hL ?_ | refine zB hX hL ?_ | (refine zS hX hL ?_; clear hL; intro w hL) | refine zI ?_ | refine zG hX ?_ | refine zO ?_); conv => whnf)
      refine ⟨j + 1, ⟨⟨by omega, hstep fun _ => by rw [decide_eq_false hk11]; rfl⟩, hL⟩, by first | omega | (simp only; omega) | (simp only [List.length_cons, List.length_append]; omega), ?_, ?_⟩
      · repeat (first | exact trivial | (refine And.intro (by (conv => lhs; whnf) <;> (conv => rhs; whnf) <;> (first | rfl)) ?_))
      · repeat (first | exact trivial | (refine And.intro (by (conv => lhs; whnf) <;> (conv => rhs; whnf) <;> (first | rfl)) ?_))
    conv => whnf
    repeat ((first | refine BrReq.yes h0 ?_ | refine Idx2Req.mk j aj rfl (by omega) eaj ?_ | refine QLdReq.one hX rfl rfl hk0 ?_ | refine BrReq.yes hk11 ?_ | refine QLdReq.one hX rfl rfl hk6 ?_ | refine Idx2Req.mk k ak rfl (by omega) eak ?_ | refine QLdReq.one hX rfl rfl c0 ?_ | refine UGenReq.strEq rfl rfl rfl ?_ | refine zQ hX ?_ | refine zR hX ?_ | refine zA ?_ | refine zT ?_ | refine zF ?_ | refine zL hX hL ?_ | refine zB hX hL ?_ | (refine zS hX hL ?_; clear hL; intro w hL) | refine zI ?_ | refine zG hX ?_ | refine zO ?_); conv => whnf)
    rw [bs_beq]
    by_cases hnm : x.2.name = nmM l k
    · have e : (decide (O.2.2 = 0) && O.1.any fun w => decide (w.2.kind = 11) && decide (w.2.name = nmM l k)) = true := by
        rw [decide_eq_true h0, Bool.true_and, List.any_eq_true]
        exact ⟨x, hmem, by simp only [hk11, hnm, decide_true, Bool.and_self]⟩
      rw [decide_eq_true hnm, e]
      conv => whnf
      repeat ((first | refine zT ?_ | refine zF ?_ | refine zL hX hL ?_ | refine zB hX hL ?_ | (refine zS hX hL ?_; clear hL; intro w hL) | refine zI ?_ | refine zG hX ?_ | refine zO ?_); conv => whnf)
      exact RetReq.mk hL ⟨rfl, rfl⟩
    · rw [decide_eq_false hnm]
      conv => whnf
      repeat ((first | refine zT ?_ | refine zF ?_ | refine zL hX hL ?_ | refine zB hX hL ?_ | (refine zS hX hL ?_; clear hL; intro w hL) | refine zI ?_ | refine zG hX ?_ | refine zO ?_); conv => whnf)
      refine ⟨j + 1, ⟨⟨by omega, hstep fun _ => by rw [decide_eq_false hnm, Bool.and_false]⟩, hL⟩, by first | omega | (simp only; omega) | (simp only [List.length_cons, List.length_append]; omega), ?_, ?_⟩
      · repeat (first | exact trivial | (refine And.intro (by (conv => lhs; whnf) <;> (conv => rhs; whnf) <;> (first | rfl)) ?_))
      · repeat (first | exact trivial | (refine And.intro (by (conv => lhs; whnf) <;> (conv => rhs; whnf) <;> (first | rfl)) ?_))
  · have ej : j = O.1.length := by omega
    subst ej
    rw [List.take_length] at hno
    have e : (decide (O.2.2 = 0) && O.1.any fun w => decide (w.2.kind = 11) && decide (w.2.name = nmM l k)) = false := by
      by_cases h0 : O.2.2 = 0
      · rw [decide_eq_true h0, Bool.true_and, List.any_eq_false]
        intro x hx hc
        rw [hno h0 x hx] at hc
        cases hc
      · rw [decide_eq_false h0, Bool.false_and]
    rw [e]
    conv => whnf
    repeat ((first | refine zT ?_ | refine zF ?_ | refine zL hX hL ?_ | refine zB hX hL ?_ | (refine zS hX hL ?_; clear hL; intro w hL) | refine zI ?_ | refine zG hX ?_ | refine zO ?_); conv => whnf)
    exact RetReq.mk hL ⟨rfl, rfl⟩

/-! ### cyclic -/
theorem cellsB_congr {n : Nat} {r r' : Sn} (h : ∀ k, k < n → r k = r' k) : cellsB n r = cellsB n r' := by
  unfold cellsB
  exact List.map_congr_left fun k hk => by rw [h k (List.mem_range.1 hk)]
def rowsTo (lb : Nat → Nat → Bool) (n a : Nat) (r : Sn) : Sn := (List.range a).foldl (fun r a => rowS lb n a r) r
def stepsTo (lb : Nat → Nat → Bool) (a b : Nat) (r : Sn) : Sn := (List.range b).foldl (stepS lb a) r
theorem rowsTo_succ {lb : Nat → Nat → Bool} {n a : Nat} {r : Sn} : rowsTo lb n (a + 1) r = stepsTo lb a n (rowsTo lb n a r) := by
  unfold rowsTo; rw [List.range_succ, List.foldl_append]; rfl
theorem stepsTo_succ {lb : Nat → Nat → Bool} {a b : Nat} {r : Sn} : stepsTo lb a (b + 1) r = stepS lb a (stepsTo lb a b r) b := by
  unfold stepsTo; rw [List.range_succ, List.foldl_append]; rfl
set_option maxHeartbeats 2000000 in
theorem cyclic_fn (m : Mem) (hQ : LibMem m) (l : Ms) (v : Value) (hv : Sl m 2 isMac v l) (hF : FewM l) (i : Nat) (hi : i < l.length) :
    Fn0 Tryz.prog 18 [v, .int .i64 i] m fun _ u => u = .bool (cycM l i) := by
  have hmx : maxLen = 9223372036854775807 := rfl
  have h25 := hF.1
  have hv' := hv
  have hlns := fun {m1 : Mem} (hm1 : Mem.Le m m1) (a k : Nat) (ha : a < l.length) (hk : k < l.length) => leans_fn m1 (libLe' hm1 hQ) l v (hv.le' hm1) hF a k ha hk
  obtain ⟨A, n, c, rfl, hnl, hcc, hm, -⟩ := id hv
  subst hnl
  have hst : ∀ k, k < l.length → ∀ r : Sn, 0 + scale k 1 + 1 ≤ (cellsB l.length r).length := fun k hk r => by rw [cellsB_len, scale_eq]; omega
  have hget : ∀ k, k < l.length → ∀ r : Sn, (cellsB l.length r)[0 + scale k 1]? = some (.bool (r k)) := fun k hk r => by rw [scale_eq, Nat.mul_one, Nat.zero_add]; exact cellsB_get hk
  have hset : ∀ (k : Nat) (r : Sn) (x : Bool), spliceL (cellsB l.length r) (0 + scale k 1) [.bool x] = cellsB l.length (setS r k x) := fun k r x => by
    rw [← cellsB_set, scale_eq, Nat.mul_one, Nat.zero_add]; rfl
  refine Fn.enter (N := 65) hX Tryz.func18 rfl rfl (by show _ ≤ _; simp) (fun w0 hL => ?_)
  conv => whnf
  conv => whnf
  repeat ((first | refine zT ?_ | refine zF ?_ | refine zL hX hL ?_ | refine zB hX hL ?_ | (refine zS hX hL ?_; clear hL; intro w hL) | refine zI ?_ | refine zG hX ?_ | refine zO ?_); conv => whnf)
  refine RunReq.make hX rfl rfl rfl rfl l.length l.length rfl rfl (Nat.le_refl _) (by omega) rfl hL ?_
  clear hL
  intro g w hL
  replace hL : Ev.Loc m [] w0 m [(g, .cells (toArr (cellsB l.length fun q => if q < 0 then leansB l i q else false)) 4 (0, 0))] w := by
    rw [cellsB_congr (r' := fun _ => false) (fun k _ => by simp), ← cellsB_zero]; exact hL
  conv => whnf
  repeat ((first | refine zT ?_ | refine zF ?_ | refine zL hX hL ?_ | refine zB hX hL ?_ | (refine zS hX hL ?_; clear hL; intro w hL) | refine zI ?_ | refine zG hX ?_ | refine zO ?_); conv => whnf)
  refine LoopReq.inv hX (fun k : Nat => [(14, .int .i64 k)]) [0, 1, 5, 13]
    (fun k w => k ≤ l.length ∧ ∃ m1, Mem.Le m m1 ∧ Ev.Loc m [] w0 m1 [(g, .cells (toArr (cellsB l.length fun q => if q < k then leansB l i q else false)) 4 (0, 0))] w) (fun k => l.length - k) 0
    ⟨Nat.zero_le _, m, Mem.Le.refl m, hL⟩ ⟨rfl, trivial⟩ ?_
  clear hL
  rintro k w f ⟨hk, m1, hm1, hL⟩
  conv => whnf
  repeat ((first | refine zT ?_ | refine zF ?_ | refine zL hX hL ?_ | refine zB hX hL ?_ | (refine zS hX hL ?_; clear hL; intro w hL) | refine zI ?_ | refine zG hX ?_ | refine zO ?_); conv => whnf)
  refine BrReq.dec (fun hlt => ?_) (fun hlt => ?_)
  · have hk1 : k < l.length := by omega
    conv => whnf
    repeat ((first | refine zT ?_ | refine zF ?_ | refine zL hX hL ?_ | refine zB hX hL ?_ | (refine zS hX hL ?_; clear hL; intro w hL) | refine zI ?_ | refine zG hX ?_ | refine zO ?_); conv => whnf)
    refine CallReq.pure (hlns hm1 i k hi hk1) hL ?_
    clear hL
    rintro u m2 w hL hm2 rfl
    conv => whnf
    repeat ((first | refine Idx2Req.mk k _ rfl (by omega) rfl ?_ | refine zT ?_ | refine zF ?_ | refine zL hX hL ?_ | refine zB hX hL ?_ | (refine zS hX hL ?_; clear hL; intro w hL) | refine zI ?_ | refine zG hX ?_ | refine zO ?_); conv => whnf)
    refine StReq.ownAt hX rfl 0 hL rfl (v := .bool (leansB l i k)) rfl (hst k hk1 _) rfl ?_
    clear hL
    intro w hL
    replace hL : Ev.Loc m [] w0 m2 [(g, .cells (toArr (spliceL (cellsB l.length fun q => if q < k then leansB l i q else false) (0 + scale k 1) [.bool (leansB l i k)])) 4 (0, 0))] w := hL
    rw [hset, cellsB_congr (r' := fun q => if q < k + 1 then leansB l i q else false) (fun q hq => by
      unfold setS
      by_cases e : q = k
      · subst e; rw [if_pos rfl, if_pos (by omega)]
      · rw [if_neg e]
        show (if q < k then leansB l i q else false) = _
        by_cases h : q < k
        · rw [if_pos h, if_pos (by omega)]
        · rw [if_neg h, if_neg (by omega)])] at hL
    conv => whnf
    repeat ((first | refine zT ?_ | refine zF ?_ | refine zL hX hL ?_ | refine zB hX hL ?_ | (refine zS hX hL ?_; clear hL; intro w hL) | refine zI ?_ | refine zG hX ?_ | refine zO ?_); conv => whnf)
    refine ⟨k + 1, ⟨by omega, m2, hm1.trans hm2, hL⟩, by first | omega | (simp only; omega) | (simp only [List.length_cons, List.length_append]; omega), ?_, ?_⟩
    · repeat (first | exact trivial | (refine And.intro (by (conv => lhs; whnf) <;> (conv => rhs; whnf) <;> (first | rfl)) ?_))
    · repeat (first | exact trivial | (refine And.intro (by (conv => lhs; whnf) <;> (conv => rhs; whnf) <;> (first | rfl)) ?_))
  have ek : k = l.length := by omega
  subst ek
  rw [cellsB_congr (r' := itS (leansB l) l.length (fun k => leansB l i k) 0) (fun q hq => by rw [if_pos hq]; rfl)] at hL
  conv => whnf
  repeat ((first | refine zT ?_ | refine zF ?_ | refine zL hX hL ?_ | refine zB hX hL ?_ | (refine zS hX hL ?_; clear hL; intro w hL) | refine zI ?_ | refine zG hX ?_ | refine zO ?_); conv => whnf)
  refine LoopReq.inv hX (fun t : Nat => [(27, .int .i64 t)]) [0, 1, 5, 26]
    (fun t w => t ≤ l.length ∧ ∃ m1, Mem.Le m m1 ∧ Ev.Loc m [] w0 m1 [(g, .cells (toArr (cellsB l.length (itS (leansB l) l.length (fun k => leansB l i k) t))) 4 (0, 0))] w) (fun t => l.length - t) 0
    ⟨Nat.zero_le _, m1, hm1, hL⟩ ⟨rfl, trivial⟩ ?_
  clear hL hm1 m1
  rintro t w f1 ⟨ht, m1, hm1, hL⟩
  conv => whnf
  repeat ((first | refine zT ?_ | refine zF ?_ | refine zL hX hL ?_ | refine zB hX hL ?_ | (refine zS hX hL ?_; clear hL; intro w hL) | refine zI ?_ | refine zG hX ?_ | refine zO ?_); conv => whnf)
  refine BrReq.dec (fun hlt => ?_) (fun hlt => ?_)
  rotate_left
  · have et : t = l.length := by omega
    subst et
    conv => whnf
    repeat ((first | refine Idx2Req.mk i _ rfl (by omega) rfl ?_ | refine LdReq.ownAt hX rfl rfl 0 hL rfl (hget i hi _) ?_ | refine zT ?_ | refine zF ?_ | refine zL hX hL ?_ | refine zB hX hL ?_ | (refine zS hX hL ?_; clear hL; intro w hL) | refine zI ?_ | refine zG hX ?_ | refine zO ?_); conv => whnf)
    exact RetReq.mk (hL.sublist (List.nil_sublist _)) ⟨rfl, rfl⟩
  have hnx : itS (leansB l) l.length (fun k => leansB l i k) (t + 1) = rowsTo (leansB l) l.length l.length (itS (leansB l) l.length (fun k => leansB l i k) t) := rfl
  generalize itS (leansB l) l.length (fun k => leansB l i k) t = r0 at *
  conv => whnf
  repeat ((first | refine zT ?_ | refine zF ?_ | refine zL hX hL ?_ | refine zB hX hL ?_ | (refine zS hX hL ?_; clear hL; intro w hL) | refine zI ?_ | refine zG hX ?_ | refine zO ?_); conv => whnf)
  refine LoopReq.inv hX (fun a : Nat => [(31, .int .i64 a)]) [0, 1, 5, 26, 27, 30]
    (fun a w => a ≤ l.length ∧ ∃ m1, Mem.Le m m1 ∧ Ev.Loc m [] w0 m1 [(g, .cells (toArr (cellsB l.length (rowsTo (leansB l) l.length a r0))) 4 (0, 0))] w) (fun a => l.length - a) 0
    ⟨Nat.zero_le _, m1, hm1, hL⟩ ⟨rfl, trivial⟩ ?_
  clear hL hm1 m1
  rintro a w f2 ⟨ha, m1, hm1, hL⟩
  conv => whnf
  repeat ((first | refine zT ?_ | refine zF ?_ | refine zL hX hL ?_ | refine zB hX hL ?_ | (refine zS hX hL ?_; clear hL; intro w hL) | refine zI ?_ | refine zG hX ?_ | refine zO ?_); conv => whnf)
  refine BrReq.dec (fun hlta => ?_) (fun hlta => ?_)
  rotate_left
  · have ea : a = l.length := by omega
    subst ea
    rw [← hnx] at hL
    conv => whnf
    repeat ((first | refine zT ?_ | refine zF ?_ | refine zL hX hL ?_ | refine zB hX hL ?_ | (refine zS hX hL ?_; clear hL; intro w hL) | refine zI ?_ | refine zG hX ?_ | refine zO ?_); conv => whnf)
    refine ⟨t + 1, ⟨by omega, m1, hm1, hL⟩, by first | omega | (simp only; omega) | (simp only [List.length_cons, List.length_append]; omega), ?_, ?_⟩
    · repeat (first | exact trivial | (refine And.intro (by (conv => lhs; whnf) <;> (conv => rhs; whnf) <;> (first | rfl)) ?_))
    · repeat (first | exact trivial | (refine And.intro (by (conv => lhs; whnf) <;> (conv => rhs; whnf) <;> (first | rfl)) ?_))
  have ha1 : a < l.length := by omega
  have hna := rowsTo_succ (lb := leansB l) (n := l.length) (a := a) (r := r0)
  generalize rowsTo (leansB l) l.length a r0 = r1 at *
  conv => whnf
  repeat ((first | refine zT ?_ | refine zF ?_ | refine zL hX hL ?_ | refine zB hX hL ?_ | (refine zS hX hL ?_; clear hL; intro w hL) | refine zI ?_ | refine zG hX ?_ | refine zO ?_); conv => whnf)
  refine LoopReq.inv hX (fun b : Nat => [(36, .int .i64 b)]) [0, 1, 5, 7, 26, 27, 30, 31, 35]
    (fun b w => b ≤ l.length ∧ ∃ m1, Mem.Le m m1 ∧ Ev.Loc m [] w0 m1 [(g, .cells (toArr (cellsB l.length (stepsTo (leansB l) a b r1))) 4 (0, 0))] w) (fun b => l.length - b) 0
    ⟨Nat.zero_le _, m1, hm1, hL⟩ ⟨rfl, trivial⟩ ?_
  clear hL hm1 m1
  rintro b w f3 ⟨hb, m1, hm1, hL⟩
  conv => whnf
  repeat ((first | refine zT ?_ | refine zF ?_ | refine zL hX hL ?_ | refine zB hX hL ?_ | (refine zS hX hL ?_; clear hL; intro w hL) | refine zI ?_ | refine zG hX ?_ | refine zO ?_); conv => whnf)
  refine BrReq.dec (fun hltb => ?_) (fun hltb => ?_)
  rotate_left
  · have eb : b = l.length := by omega
    subst eb
    rw [← hna] at hL
    conv => whnf
    repeat ((first | refine zT ?_ | refine zF ?_ | refine zL hX hL ?_ | refine zB hX hL ?_ | (refine zS hX hL ?_; clear hL; intro w hL) | refine zI ?_ | refine zG hX ?_ | refine zO ?_); conv => whnf)
    refine ⟨a + 1, ⟨by omega, m1, hm1, hL⟩, by first | omega | (simp only; omega) | (simp only [List.length_cons, List.length_append]; omega), ?_, ?_⟩
    · repeat (first | exact trivial | (refine And.intro (by (conv => lhs; whnf) <;> (conv => rhs; whnf) <;> (first | rfl)) ?_))
    · repeat (first | exact trivial | (refine And.intro (by (conv => lhs; whnf) <;> (conv => rhs; whnf) <;> (first | rfl)) ?_))
  have hb1 : b < l.length := by omega
  have hnb := stepsTo_succ (lb := leansB l) (a := a) (b := b) (r := r1)
  generalize stepsTo (leansB l) a b r1 = r2 at *
  have hcells : ∀ x : Bool, (r2 b || (r2 a && leansB l a b)) = x → setS r2 b x = stepsTo (leansB l) a (b + 1) r1 := fun x h => by rw [hnb]; unfold stepS; rw [h]
  have gb := hget b hb1 r2
  have ga := hget a ha1 r2
  cases hrb : r2 b with
  | true =>
    rw [hrb] at gb
    conv => whnf
    repeat ((first | refine Idx2Req.mk b _ rfl (by omega) rfl ?_ | refine LdReq.ownAt hX rfl rfl 0 hL rfl gb ?_ | refine zT ?_ | refine zF ?_ | refine zL hX hL ?_ | refine zB hX hL ?_ | (refine zS hX hL ?_; clear hL; intro w hL) | refine zI ?_ | refine zG hX ?_ | refine zO ?_); conv => whnf)
    refine StReq.ownAt hX rfl 0 hL rfl (v := .bool true) rfl (hst b hb1 _) rfl ?_
    clear hL
    intro w hL
    replace hL : Ev.Loc m [] w0 m1 [(g, .cells (toArr (spliceL (cellsB l.length r2) (0 + scale b 1) [.bool true])) 4 (0, 0))] w := hL
    rw [hset, hcells true (by rw [hrb]; rfl)] at hL
    conv => whnf
    repeat ((first | refine zT ?_ | refine zF ?_ | refine zL hX hL ?_ | refine zB hX hL ?_ | (refine zS hX hL ?_; clear hL; intro w hL) | refine zI ?_ | refine zG hX ?_ | refine zO ?_); conv => whnf)
    refine ⟨b + 1, ⟨by omega, m1, hm1, hL⟩, by first | omega | (simp only; omega) | (simp only [List.length_cons, List.length_append]; omega), ?_, ?_⟩
    · repeat (first | exact trivial | (refine And.intro (by (conv => lhs; whnf) <;> (conv => rhs; whnf) <;> (first | rfl)) ?_))
    · repeat (first | exact trivial | (refine And.intro (by (conv => lhs; whnf) <;> (conv => rhs; whnf) <;> (first | rfl)) ?_))
  | false =>
    rw [hrb] at gb
    cases hra : r2 a with
    | false =>
      rw [hra] at ga
      conv => whnf
      repeat ((first | refine Idx2Req.mk b _ rfl (by omega) rfl ?_ | refine LdReq.ownAt hX rfl rfl 0 hL rfl gb ?_ | refine Idx2Req.mk a _ rfl (by omega) rfl ?_ | refine LdReq.ownAt hX rfl rfl 0 hL rfl ga ?_ | refine zT ?_ | refine zF ?_ | refine zL hX hL ?_ | refine zB hX hL ?_ | (refine zS hX hL ?_; clear hL; intro w hL) | refine zI ?_ | refine zG hX ?_ | refine zO ?_); conv => whnf)
      refine StReq.ownAt hX rfl 0 hL rfl (v := .bool false) rfl (hst b hb1 _) rfl ?_
      clear hL
      intro w hL
      replace hL : Ev.Loc m [] w0 m1 [(g, .cells (toArr (spliceL (cellsB l.length r2) (0 + scale b 1) [.bool false])) 4 (0, 0))] w := hL
      rw [hset, hcells false (by rw [hrb, hra]; rfl)] at hL
      conv => whnf
      repeat ((first | refine zT ?_ | refine zF ?_ | refine zL hX hL ?_ | refine zB hX hL ?_ | (refine zS hX hL ?_; clear hL; intro w hL) | refine zI ?_ | refine zG hX ?_ | refine zO ?_); conv => whnf)
      refine ⟨b + 1, ⟨by omega, m1, hm1, hL⟩, by first | omega | (simp only; omega) | (simp only [List.length_cons, List.length_append]; omega), ?_, ?_⟩
      · repeat (first | exact trivial | (refine And.intro (by (conv => lhs; whnf) <;> (conv => rhs; whnf) <;> (first | rfl)) ?_))
      · repeat (first | exact trivial | (refine And.intro (by (conv => lhs; whnf) <;> (conv => rhs; whnf) <;> (first | rfl)) ?_))
    | true =>
      rw [hra] at ga
      conv => whnf
      repeat ((first | refine Idx2Req.mk b _ rfl (by omega) rfl ?_ | refine LdReq.ownAt hX rfl rfl 0 hL rfl gb ?_ | refine Idx2Req.mk a _ rfl (by omega) rfl ?_ | refine LdReq.ownAt hX rfl rfl 0 hL rfl ga ?_ | refine zT ?_ | refine zF ?_ | refine zL hX hL ?_ | refine zB hX hL ?_ | (refine zS hX hL ?_; clear hL; intro w hL) | refine zI ?_ | refine zG hX ?_ | refine zO ?_); conv => whnf)
      refine CallReq.pure (hlns hm1 a b ha1 hb1) hL ?_
      clear hL
      rintro u m2 w hL hm2 rfl
      conv => whnf
      repeat ((first | refine Idx2Req.mk b _ rfl (by omega) rfl ?_ | refine zT ?_ | refine zF ?_ | refine zL hX hL ?_ | refine zB hX hL ?_ | (refine zS hX hL ?_; clear hL; intro w hL) | refine zI ?_ | refine zG hX ?_ | refine zO ?_); conv => whnf)
      refine StReq.ownAt hX rfl 0 hL rfl (v := .bool (leansB l a b)) rfl (hst b hb1 _) rfl ?_
      clear hL
      intro w hL
      replace hL : Ev.Loc m [] w0 m2 [(g, .cells (toArr (spliceL (cellsB l.length r2) (0 + scale b 1) [.bool (leansB l a b)])) 4 (0, 0))] w := hL
      rw [hset, hcells (leansB l a b) (by rw [hrb, hra]; rfl)] at hL
      conv => whnf
      repeat ((first | refine zT ?_ | refine zF ?_ | refine zL hX hL ?_ | refine zB hX hL ?_ | (refine zS hX hL ?_; clear hL; intro w hL) | refine zI ?_ | refine zG hX ?_ | refine zO ?_); conv => whnf)
      refine ⟨b + 1, ⟨by omega, m2, hm1.trans hm2, hL⟩, by first | omega | (simp only; omega) | (simp only [List.length_cons, List.length_append]; omega), ?_, ?_⟩
      · repeat (first | exact trivial | (refine And.intro (by (conv => lhs; whnf) <;> (conv => rhs; whnf) <;> (first | rfl)) ?_))
      · repeat (first | exact trivial | (refine And.intro (by (conv => lhs; whnf) <;> (conv => rhs; whnf) <;> (first | rfl)) ?_))

/-! ### early -/
theorem chkW_bad {l : Ms} {i : Nat} {w : Nat × W} {r : List (Nat × W)} : ∀ (a : List (Nat × W)), (∀ x ∈ a, ¬ (x.2.kind = 11 ∧ idxM l x.2.name = none)) → w.2.kind = 11 → idxM l w.2.name = none → chkW l i (a ++ w :: r) = ((i : Int), (w.1 : Int), 5)
  | [], _, h1, h2 => by
    rw [List.nil_append, chkW, if_pos ⟨h1, h2⟩, orE_l (show (5 : Int) ≠ 0 by decide)]
  | x :: a, h, h1, h2 => by
    rw [List.cons_append, chkW, if_neg (h x (by simp)), orE_no]
    exact chkW_bad a (fun y hy => h y (by simp [hy])) h1 h2
theorem early_1 {l : Ms} (hn : l.length ≤ 20) {i : Nat} (hi : i < l.length) (h0 : ∀ k, k < i → (chk1 l k).2.2 = 0) (h : (chk1 l i).2.2 ≠ 0) : earlyM l = chk1 l i := by
  have e := allE_first hi h0 h
  rw [early_small hn, e, orE_l h]
theorem early_2 {l : Ms} (hn : l.length ≤ 20) (h1 : ∀ k, k < l.length → (chk1 l k).2.2 = 0) {i : Nat} (hi : i < l.length) (h0 : ∀ k, k < i → (chk2 l k).2.2 = 0) (h : (chk2 l i).2.2 ≠ 0) : earlyM l = chk2 l i := by
  have e := allE_first hi h0 h
  rw [early_small hn, orE_r (allE_zero.2 h1), e, orE_l h]
theorem early_3 {l : Ms} (hn : l.length ≤ 20) (h1 : ∀ k, k < l.length → (chk1 l k).2.2 = 0) (h2 : ∀ k, k < l.length → (chk2 l k).2.2 = 0) {i : Nat} (hi : i < l.length) (h0 : ∀ k, k < i → cycM l k = false) (h : cycM l i = true) : earlyM l = ((i : Int), 0, 7) := by
  have hz : ∀ k, k < i → (chk3 (cycM l) k).2.2 = 0 := fun k hk => by unfold chk3; rw [h0 k hk]; rfl
  have hc : chk3 (cycM l) i = ((i : Int), 0, 7) := by unfold chk3; rw [if_pos h]
  have e := allE_first hi hz (by rw [hc]; show (7 : Int) ≠ 0; decide)
  rw [early_small hn, orE_r (allE_zero.2 h1), orE_r (allE_zero.2 h2), e, hc]
theorem early_4 {l : Ms} (hn : l.length ≤ 20) (h1 : ∀ k, k < l.length → (chk1 l k).2.2 = 0) (h2 : ∀ k, k < l.length → (chk2 l k).2.2 = 0) (h0 : ∀ k, k < l.length → cycM l k = false) : earlyM l = noE := by
  rw [early_small hn, orE_r (allE_zero.2 h1), orE_r (allE_zero.2 h2)]
  exact allE_no (fun k => chk3_nz (cycM l) k) _ (allE_zero.2 fun k hk => by unfold chk3; rw [h0 k hk]; rfl)
theorem chk2_err {l : Ms} {i : Nat} (h : (outT (txM l i)).2.2 ≠ 0) : chk2 l i = ((i : Int), (outT (txM l i)).2.1, (outT (txM l i)).2.2) := by
  unfold chk2; rw [if_pos h, orE_l h]
theorem chk2_ok {l : Ms} {i : Nat} (h : (outT (txM l i)).2.2 = 0) : chk2 l i = chkW l i (outT (txM l i)).1 := by
  unfold chk2; rw [if_neg (fun hn => hn h), orE_no]; rfl

set_option maxHeartbeats 4000000 in
theorem early_fn (m : Mem) (hQ : LibMem m) (l : Ms) (v : Value) (hv : Sl m 2 isMac v l) (hF : FewM l) :
    Fn0 Tryz.prog 8 [v] m fun _ u => u = .tuple (toArr [.int .i64 (earlyM l).1, .int .i64 (earlyM l).2.1, .int .i64 (earlyM l).2.2]) := by
  have hmx : maxLen = 9223372036854775807 := rfl
  have h25 := hF.1
  have hv' := hv
  have hcy := fun {m1 : Mem} (hm1 : Mem.Le m m1) (i : Nat) (hi : i < l.length) => cyclic_fn m1 (libLe' hm1 hQ) l v (hv.le' hm1) hF i hi
  obtain ⟨A, n, c, rfl, hnl, hcc, hm, -⟩ := id hv
  subst hnl
  have row := fun {k : Nat} (hk : k < l.length) => mac_at hv' rfl hk
  refine Fn.enter (N := 120) hX Tryz.func8 rfl rfl (by show _ ≤ _; simp) (fun w0 hL => ?_)
  conv => whnf
  by_cases h20 : 20 < l.length
  · have he : earlyM l = (20, 0, 4) := by unfold earlyM early; rw [if_pos h20]
    rw [he]
    conv => whnf
    repeat ((first | refine BrReq.yes (by omega) ?_ | refine zT ?_ | refine zF ?_ | refine zL hX hL ?_ | refine zB hX hL ?_ | (refine zS hX hL ?_; clear hL; intro w hL) | refine zI ?_ | refine zG hX ?_ | refine zO ?_); conv => whnf)
    exact RetReq.mk hL ⟨rfl, rfl⟩
  have hn20 : l.length ≤ 20 := by omega
  conv => whnf
  repeat ((first | refine BrReq.no (by omega) ?_ | refine zT ?_ | refine zF ?_ | refine zL hX hL ?_ | refine zB hX hL ?_ | (refine zS hX hL ?_; clear hL; intro w hL) | refine zI ?_ | refine zG hX ?_ | refine zO ?_); conv => whnf)
  refine LoopReq.inv hX (fun i : Nat => [(20, .int .i64 i)]) [0, 19]
    (fun i w => (i ≤ l.length ∧ ∀ k, k < i → (chk1 l k).2.2 = 0) ∧ Ev.Loc m [] w0 m [] w) (fun i => l.length - i) 0
    ⟨⟨Nat.zero_le _, fun k h => by omega⟩, hL⟩ ⟨rfl, trivial⟩ ?_
  clear hL
  rintro i w f ⟨⟨hi, h0⟩, hL⟩
  conv => whnf
  repeat ((first | refine zT ?_ | refine zF ?_ | refine zL hX hL ?_ | refine zB hX hL ?_ | (refine zS hX hL ?_; clear hL; intro w hL) | refine zI ?_ | refine zG hX ?_ | refine zO ?_); conv => whnf)
  refine BrReq.dec (fun hlt => ?_) (fun hlt => ?_)
  · have hi1 : i < l.length := by omega
    obtain ⟨a, ea, c0, c1⟩ := row hi1
    have hnl := (FewM_tx hF i hi1).2
    conv => whnf
    repeat ((first | refine Idx2Req.mk i a rfl (by omega) ea ?_ | refine LdReq.one hX rfl rfl hL c0 ?_ | refine zT ?_ | refine zF ?_ | refine zL hX hL ?_ | refine zB hX hL ?_ | (refine zS hX hL ?_; clear hL; intro w hL) | refine zI ?_ | refine zG hX ?_ | refine zO ?_); conv => whnf)
    refine CallReq.val (refNamed_fn m (nmM l i) (by omega)) hL ?_
    clear hL
    intro w hL
    have hchk : chk1 l i = if namedT (nmM l i) = false then ((i : Int), 0, 2) else if nmM l i ∈ (l.take i).map (·.1) then ((i : Int), 0, 6) else noE := rfl
    cases hnd : namedT (nmM l i) with
    | false =>
      rw [hnd, if_pos rfl] at hchk
      have he := early_1 hn20 hi1 h0 (by rw [hchk]; show (2 : Int) ≠ 0; decide)
      rw [he, hchk]
      conv => whnf
      repeat ((first | refine zT ?_ | refine zF ?_ | refine zL hX hL ?_ | refine zB hX hL ?_ | (refine zS hX hL ?_; clear hL; intro w hL) | refine zI ?_ | refine zG hX ?_ | refine zO ?_); conv => whnf)
      exact RetReq.mk hL ⟨rfl, rfl⟩
    | true =>
    rw [hnd, if_neg (by decide)] at hchk
    conv => whnf
    repeat ((first | refine zT ?_ | refine zF ?_ | refine zL hX hL ?_ | refine zB hX hL ?_ | (refine zS hX hL ?_; clear hL; intro w hL) | refine zI ?_ | refine zG hX ?_ | refine zO ?_); conv => whnf)
    refine LoopReq.inv hX (fun k : Nat => [(32, .int .i64 k)]) [0, 5, 19, 20, 31]
      (fun k w => (k ≤ i ∧ ∀ q, q < k → nmM l q ≠ nmM l i) ∧ Ev.Loc m [] w0 m [] w) (fun k => i - k) 0
      ⟨⟨Nat.zero_le _, fun k h => by omega⟩, hL⟩ ⟨rfl, trivial⟩ ?_
    clear hL
    rintro k w f1 ⟨⟨hk, hno⟩, hL⟩
    conv => whnf
    repeat ((first | refine zT ?_ | refine zF ?_ | refine zL hX hL ?_ | refine zB hX hL ?_ | (refine zS hX hL ?_; clear hL; intro w hL) | refine zI ?_ | refine zG hX ?_ | refine zO ?_); conv => whnf)
    refine BrReq.dec (fun hltk => ?_) (fun hltk => ?_)
    · have hk1 : k < l.length := by omega
      obtain ⟨ak, eak, ck0, -⟩ := row hk1
      conv => whnf
      repeat ((first | refine zT ?_ | refine zF ?_ | refine zL hX hL ?_ | refine zB hX hL ?_ | (refine zS hX hL ?_; clear hL; intro w hL) | refine zI ?_ | refine zG hX ?_ | refine zO ?_); conv => whnf)
      refine DrawReq.plan hX (.fst 0 (.fst 1 (.fst 2 (.fst 3 (.fst 4 (.fst 5 (.fst 6 (.fst 7 (.fst 8 (.fst 9 (.fst 10 (.done)))))))))))) _ (by kernel_rfl) (by kernel_rfl) hL id ?_
      clear hL
      intro w hL
      conv => whnf
      repeat ((first | refine Idx2Req.mk k ak rfl (by omega) eak ?_ | refine Idx2Req.mk i a rfl (by omega) ea ?_ | refine QLdReq.one hX rfl rfl ck0 ?_ | refine QLdReq.one hX rfl rfl c0 ?_ | refine UGenReq.strEq rfl rfl rfl ?_ | refine zQ hX ?_ | refine zR hX ?_ | refine zA ?_ | refine zT ?_ | refine zF ?_ | refine zL hX hL ?_ | refine zB hX hL ?_ | (refine zS hX hL ?_; clear hL; intro w hL) | refine zI ?_ | refine zG hX ?_ | refine zO ?_); conv => whnf)
      rw [bs_beq]
      by_cases hnm : nmM l k = nmM l i
      · have hz : (chk1 l i).2.2 ≠ 0 := fun hz => (((chk1_zero (by omega)).1 hz).2 k (by omega)) hnm
        have hmem : nmM l i ∈ (l.take i).map (·.1) := by
          refine Classical.byContradiction fun hn => hz ?_
          rw [hchk, if_neg hn]; rfl
        rw [if_pos hmem] at hchk
        have he := early_1 hn20 hi1 h0 hz
        rw [he, hchk, decide_eq_true hnm]
        conv => whnf
        repeat ((first | refine zT ?_ | refine zF ?_ | refine zL hX hL ?_ | refine zB hX hL ?_ | (refine zS hX hL ?_; clear hL; intro w hL) | refine zI ?_ | refine zG hX ?_ | refine zO ?_); conv => whnf)
        exact RetReq.mk hL ⟨rfl, rfl⟩
      · rw [decide_eq_false hnm]
        have hstep : ∀ q, q < k + 1 → nmM l q ≠ nmM l i := fun q hq => by
          by_cases e : q = k
          · subst e; exact hnm
          · exact hno q (by omega)
        conv => whnf
        repeat ((first | refine zT ?_ | refine zF ?_ | refine zL hX hL ?_ | refine zB hX hL ?_ | (refine zS hX hL ?_; clear hL; intro w hL) | refine zI ?_ | refine zG hX ?_ | refine zO ?_); conv => whnf)
        refine ⟨k + 1, ⟨⟨by omega, hstep⟩, hL⟩, by first | omega | (simp only; omega) | (simp only [List.length_cons, List.length_append]; omega), ?_, ?_⟩
        · repeat (first | exact trivial | (refine And.intro (by (conv => lhs; whnf) <;> (conv => rhs; whnf) <;> (first | rfl)) ?_))
        · repeat (first | exact trivial | (refine And.intro (by (conv => lhs; whnf) <;> (conv => rhs; whnf) <;> (first | rfl)) ?_))
    · have ek : k = i := by omega
      subst ek
      have hz : (chk1 l k).2.2 = 0 := (chk1_zero (by omega)).2 ⟨hnd, hno⟩
      have hstep : ∀ q, q < k + 1 → (chk1 l q).2.2 = 0 := fun q hq => by
        by_cases e : q = k
        · subst e; exact hz
        · exact h0 q (by omega)
      conv => whnf
      repeat ((first | refine zT ?_ | refine zF ?_ | refine zL hX hL ?_ | refine zB hX hL ?_ | (refine zS hX hL ?_; clear hL; intro w hL) | refine zI ?_ | refine zG hX ?_ | refine zO ?_); conv => whnf)
      refine ⟨k + 1, ⟨⟨by omega, hstep⟩, hL⟩, by first | omega | (simp only; omega) | (simp only [List.length_cons, List.length_append]; omega), ?_, ?_⟩
      · repeat (first | exact trivial | (refine And.intro (by (conv => lhs; whnf) <;> (conv => rhs; whnf) <;> (first | rfl)) ?_))
      · repeat (first | exact trivial | (refine And.intro (by (conv => lhs; whnf) <;> (conv => rhs; whnf) <;> (first | rfl)) ?_))
  have ei : i = l.length := by omega
  subst ei
  have h1 := h0
  clear h0
  conv => whnf
  repeat ((first | refine zT ?_ | refine zF ?_ | refine zL hX hL ?_ | refine zB hX hL ?_ | (refine zS hX hL ?_; clear hL; intro w hL) | refine zI ?_ | refine zG hX ?_ | refine zO ?_); conv => whnf)
  refine LoopReq.inv hX (fun i : Nat => [(51, .int .i64 i)]) [0, 50]
    (fun i w => (i ≤ l.length ∧ ∀ k, k < i → (chk2 l k).2.2 = 0) ∧ ∃ m1, Mem.Le m m1 ∧ Ev.Loc m [] w0 m1 [] w) (fun i => l.length - i) 0
    ⟨⟨Nat.zero_le _, fun k h => by omega⟩, m, Mem.Le.refl m, hL⟩ ⟨rfl, trivial⟩ ?_
  clear hL
  rintro i w f2 ⟨⟨hi, h0⟩, m1, hm1, hL⟩
  conv => whnf
  repeat ((first | refine zT ?_ | refine zF ?_ | refine zL hX hL ?_ | refine zB hX hL ?_ | (refine zS hX hL ?_; clear hL; intro w hL) | refine zI ?_ | refine zG hX ?_ | refine zO ?_); conv => whnf)
  refine BrReq.dec (fun hlt => ?_) (fun hlt => ?_)
  · have hi1 : i < l.length := by omega
    obtain ⟨a, ea, -, c1⟩ := row hi1
    have htl := (FewM_tx hF i hi1).1
    have c1' := mcell_le hm1 c1
    have hce := chk2_err (l := l) (i := i)
    have hco := chk2_ok (l := l) (i := i)
    conv => whnf
    repeat ((first | refine Idx2Req.mk i a rfl (by omega) ea ?_ | refine LdReq.one hX rfl rfl hL c1' ?_ | refine zT ?_ | refine zF ?_ | refine zL hX hL ?_ | refine zB hX hL ?_ | (refine zS hX hL ?_; clear hL; intro w hL) | refine zI ?_ | refine zG hX ?_ | refine zO ?_); conv => whnf)
    refine CallReq.pure (refWords_fn m1 (txM l i) (by omega)) hL ?_
    clear hL
    rintro u m2 w hL hm12 ⟨sl, rfl, hsl⟩
    have hm2 := hm1.trans hm12
    generalize outT (txM l i) = O at *
    obtain ⟨A1, n1, cc1, rfl, hn1, hcc1, hx1, -⟩ := id hsl
    by_cases hO : O.2.2 = 0
    rotate_left
    · have hc2 := hce hO
      have he := early_2 hn20 h1 hi1 h0 (by rw [hc2]; exact hO)
      rw [he, hc2]
      conv => whnf
      repeat ((first | refine BrReq.yes (fun h => hO h) ?_ | refine zT ?_ | refine zF ?_ | refine zL hX hL ?_ | refine zB hX hL ?_ | (refine zS hX hL ?_; clear hL; intro w hL) | refine zI ?_ | refine zG hX ?_ | refine zO ?_); conv => whnf)
      exact RetReq.mk hL ⟨rfl, rfl⟩
    have hc2 := hco hO
    conv => whnf
    repeat ((first | refine BrReq.no (fun h => h hO) ?_ | refine zT ?_ | refine zF ?_ | refine zL hX hL ?_ | refine zB hX hL ?_ | (refine zS hX hL ?_; clear hL; intro w hL) | refine zI ?_ | refine zG hX ?_ | refine zO ?_); conv => whnf)
    refine LoopReq.inv hX (fun j : Nat => [(71, .int .i64 j)]) [0, 7, 8, 50, 51, 70]
      (fun j w => (j ≤ O.1.length ∧ ∀ x ∈ O.1.take j, ¬ (x.2.kind = 11 ∧ idxM l x.2.name = none)) ∧ Ev.Loc m [] w0 m2 [] w) (fun j => O.1.length - j) 0
      ⟨⟨Nat.zero_le _, fun x hx => by simp at hx⟩, hL⟩ ⟨rfl, trivial⟩ ?_
    clear hL
    rintro j w f3 ⟨⟨hj, hno⟩, hL⟩
    conv => whnf
    repeat ((first | refine zT ?_ | refine zF ?_ | refine zL hX hL ?_ | refine zB hX hL ?_ | (refine zS hX hL ?_; clear hL; intro w hL) | refine zI ?_ | refine zG hX ?_ | refine zO ?_); conv => whnf)
    refine BrReq.dec (fun hltj => ?_) (fun hltj => ?_)
    rotate_left
    · have ej : j = O.1.length := by omega
      subst ej
      rw [List.take_length] at hno
      have hz : (chk2 l i).2.2 = 0 := by
        rw [hc2, chkW_zero]
        exact fun x hx hk hxn => hno x hx ⟨hk, hxn⟩
      have hstep : ∀ q, q < i + 1 → (chk2 l q).2.2 = 0 := fun q hq => by
        by_cases e : q = i
        · subst e; exact hz
        · exact h0 q (by omega)
      conv => whnf
      repeat ((first | refine zT ?_ | refine zF ?_ | refine zL hX hL ?_ | refine zB hX hL ?_ | (refine zS hX hL ?_; clear hL; intro w hL) | refine zI ?_ | refine zG hX ?_ | refine zO ?_); conv => whnf)
      refine ⟨i + 1, ⟨⟨by omega, hstep⟩, m2, hm2, hL⟩, by first | omega | (simp only; omega) | (simp only [List.length_cons, List.length_append]; omega), ?_, ?_⟩
      · repeat (first | exact trivial | (refine And.intro (by (conv => lhs; whnf) <;> (conv => rhs; whnf) <;> (first | rfl)) ?_))
      · repeat (first | exact trivial | (refine And.intro (by (conv => lhs; whnf) <;> (conv => rhs; whnf) <;> (first | rfl)) ?_))
    have hj1 : j < O.1.length := by omega
    obtain ⟨aj, cs, eaj, hl9, hcl, hx⟩ := hsl.elem j _ (List.getElem?_eq_getElem hj1)
    have htk : O.1.take (j + 1) = O.1.take j ++ [O.1[j]] := by rw [List.take_add_one, List.getElem?_eq_getElem hj1]; rfl
    have hdr : O.1 = O.1.take j ++ O.1[j] :: O.1.drop (j + 1) := by rw [← List.drop_eq_getElem_cons hj1, List.take_append_drop]
    generalize O.1[j] = x at *
    unfold isW at hx
    subst hx
    have hk0 : mcell m2 ((aj.add (scale j 9)).add 0) = some (.int .i64 x.2.kind) := hcl 0 _ rfl
    have hk1 : mcell m2 ((aj.add (scale j 9)).add 1) = some (.int .i64 x.1) := hcl 1 _ rfl
    have hk6 : mcell m2 ((aj.add (scale j 9)).add 6) = some (.string (bs x.2.name)) := hcl 6 _ rfl
    conv => whnf
    repeat ((first | refine Idx2Req.mk j aj rfl (by omega) eaj ?_ | refine LdReq.one hX rfl rfl hL hk0 ?_ | refine zT ?_ | refine zF ?_ | refine zL hX hL ?_ | refine zB hX hL ?_ | (refine zS hX hL ?_; clear hL; intro w hL) | refine zI ?_ | refine zG hX ?_ | refine zO ?_); conv => whnf)
    refine LoopReq.inv hX (fun k : Nat => [(12, .bool (!decide (x.2.kind = 11) || (l.take k).any fun y => decide (y.1 = x.2.name))), (82, .int .i64 k)]) [0, 7, 8, 11, 50, 51, 70, 71, 81]
      (fun k w => k ≤ l.length ∧ Ev.Loc m [] w0 m2 [] w) (fun k => l.length - k) 0 ⟨Nat.zero_le _, hL⟩ ⟨?m1, rfl, trivial⟩ ?_
    case m1 =>
      conv => lhs; whnf
      simp
    clear hL
    rintro k w f4 ⟨hk, hL⟩
    conv => whnf
    repeat ((first | refine zT ?_ | refine zF ?_ | refine zL hX hL ?_ | refine zB hX hL ?_ | (refine zS hX hL ?_; clear hL; intro w hL) | refine zI ?_ | refine zG hX ?_ | refine zO ?_); conv => whnf)
    refine BrReq.dec (fun hltk => ?_) (fun hltk => ?_)
    · have hk1' : k < l.length := by omega
      obtain ⟨ak, eak, ck0, -⟩ := row hk1'
      have ck0 := mcell_le hm2 ck0
      have hak : ((l.take (k + 1)).any fun y => decide (y.1 = x.2.name)) = (((l.take k).any fun y => decide (y.1 = x.2.name)) || decide (nmM l k = x.2.name)) := by
        rw [List.take_add_one, List.any_append, List.getElem?_eq_getElem hk1']
        have : nmM l k = l[k].1 := by unfold nmM; rw [List.getD_eq_getElem?_getD, List.getElem?_eq_getElem hk1']; rfl
        rw [this]; simp
      have hnx : (!decide (x.2.kind = 11) || (l.take (k + 1)).any fun y => decide (y.1 = x.2.name)) = ((!decide (x.2.kind = 11) || (l.take k).any fun y => decide (y.1 = x.2.name)) || decide (nmM l k = x.2.name)) := by rw [hak, Bool.or_assoc]
      generalize (!decide (x.2.kind = 11) || (l.take k).any fun y => decide (y.1 = x.2.name)) = th at *
      conv => whnf
      repeat ((first | refine zT ?_ | refine zF ?_ | refine zL hX hL ?_ | refine zB hX hL ?_ | (refine zS hX hL ?_; clear hL; intro w hL) | refine zI ?_ | refine zG hX ?_ | refine zO ?_); conv => whnf)
      refine DrawReq.plan hX (.fst 0 (.fst 1 (.fst 2 (.fst 3 (.fst 4 (.fst 5 (.fst 6 (.fst 7 (.fst 8 (.fst 9 (.fst 10 (.fst 11 (.fst 12 (.fst 13 (.fst 14 (.done)))))))))))))))) _ (by kernel_rfl) (by kernel_rfl) hL id ?_
      clear hL
      intro w hL
      cases th with
      | true =>
        conv => whnf
        repeat ((first | refine zQ hX ?_ | refine zR hX ?_ | refine zA ?_ | refine zT ?_ | refine zF ?_ | refine zL hX hL ?_ | refine zB hX hL ?_ | (refine zS hX hL ?_; clear hL; intro w hL) | refine zI ?_ | refine zG hX ?_ | refine zO ?_); conv => whnf)
        refine ⟨k + 1, ⟨by omega, hL⟩, by first | omega | (simp only; omega) | (simp only [List.length_cons, List.length_append]; omega), ?_, ?_⟩
        · repeat (first | exact trivial | (refine And.intro (by (conv => lhs; whnf) <;> (conv => rhs; whnf) <;> (first | rfl | ((rw [hnx]; rfl)))) ?_))
        · repeat (first | exact trivial | (refine And.intro (by (conv => lhs; whnf) <;> (conv => rhs; whnf) <;> (first | rfl | ((rw [hnx]; rfl)))) ?_))
      | false =>
        conv => whnf
        repeat ((first | refine Idx2Req.mk k ak rfl (by omega) eak ?_ | refine Idx2Req.mk j aj rfl (by omega) eaj ?_ | refine QLdReq.one hX rfl rfl ck0 ?_ | refine QLdReq.one hX rfl rfl hk6 ?_ | refine UGenReq.strEq rfl rfl rfl ?_ | refine zQ hX ?_ | refine zR hX ?_ | refine zA ?_ | refine zT ?_ | refine zF ?_ | refine zL hX hL ?_ | refine zB hX hL ?_ | (refine zS hX hL ?_; clear hL; intro w hL) | refine zI ?_ | refine zG hX ?_ | refine zO ?_); conv => whnf)
        rw [bs_beq]
        conv => whnf
        repeat ((first | refine zQ hX ?_ | refine zR hX ?_ | refine zA ?_ | refine zT ?_ | refine zF ?_ | refine zL hX hL ?_ | refine zB hX hL ?_ | (refine zS hX hL ?_; clear hL; intro w hL) | refine zI ?_ | refine zG hX ?_ | refine zO ?_); conv => whnf)
        refine ⟨k + 1, ⟨by omega, hL⟩, by first | omega | (simp only; omega) | (simp only [List.length_cons, List.length_append]; omega), ?_, ?_⟩
        · repeat (first | exact trivial | (refine And.intro (by (conv => lhs; whnf) <;> (conv => rhs; whnf) <;> (first | rfl | ((rw [hnx]; rfl)))) ?_))
        · repeat (first | exact trivial | (refine And.intro (by (conv => lhs; whnf) <;> (conv => rhs; whnf) <;> (first | rfl | ((rw [hnx]; rfl)))) ?_))
    have ek : k = l.length := by omega
    subst ek
    rw [List.take_length]
    have hany : (l.any fun y => decide (y.1 = x.2.name)) = true ↔ idxM l x.2.name ≠ none := by
      rw [Ne, idxM_none, List.any_eq_true]
      constructor
      · rintro ⟨y, hy, he⟩ hn
        obtain ⟨q, hq, rfl⟩ := List.getElem_of_mem hy
        refine hn q hq ?_
        unfold nmM; rw [List.getD_eq_getElem?_getD, List.getElem?_eq_getElem hq]
        simpa using he
      · intro hn
        refine Classical.byContradiction fun hc => hn fun q hq he => hc ⟨l[q], List.getElem_mem hq, ?_⟩
        unfold nmM at he; rw [List.getD_eq_getElem?_getD, List.getElem?_eq_getElem hq] at he
        simpa using he
    cases hth : (!decide (x.2.kind = 11) || l.any fun y => decide (y.1 = x.2.name)) with
    | true =>
      have hgood : ¬ (x.2.kind = 11 ∧ idxM l x.2.name = none) := by
        rintro ⟨h1', h2'⟩
        rw [Bool.or_eq_true] at hth
        rcases hth with h | h
        · simp [h1'] at h
        · exact hany.1 h h2'
      have hstep : ∀ y ∈ O.1.take (j + 1), ¬ (y.2.kind = 11 ∧ idxM l y.2.name = none) := fun y hy => by
        rw [htk] at hy
        rcases List.mem_append.1 hy with hy | hy
        · exact hno y hy
        · rw [List.mem_singleton.1 hy]; exact hgood
      conv => whnf
      repeat ((first | refine zT ?_ | refine zF ?_ | refine zL hX hL ?_ | refine zB hX hL ?_ | (refine zS hX hL ?_; clear hL; intro w hL) | refine zI ?_ | refine zG hX ?_ | refine zO ?_); conv => whnf)
      refine ⟨j + 1, ⟨⟨by omega, hstep⟩, hL⟩, by first | omega | (simp only; omega) | (simp only [List.length_cons, List.length_append]; omega), ?_, ?_⟩
      · repeat (first | exact trivial | (refine And.intro (by (conv => lhs; whnf) <;> (conv => rhs; whnf) <;> (first | rfl)) ?_))
      · repeat (first | exact trivial | (refine And.intro (by (conv => lhs; whnf) <;> (conv => rhs; whnf) <;> (first | rfl)) ?_))
    | false =>
      rw [Bool.or_eq_false_iff] at hth
      have hk11 : x.2.kind = 11 := by simpa using hth.1
      have hxn : idxM l x.2.name = none := by
        refine Classical.byContradiction fun hn => ?_
        rw [hany.2 hn] at hth
        cases hth.2
      rw [hdr, chkW_bad _ hno hk11 hxn] at hc2
      have he := early_2 hn20 h1 hi1 h0 (by rw [hc2]; show (5 : Int) ≠ 0; decide)
      rw [he, hc2]
      conv => whnf
      repeat ((first | refine zT ?_ | refine zF ?_ | refine zL hX hL ?_ | refine zB hX hL ?_ | (refine zS hX hL ?_; clear hL; intro w hL) | refine zI ?_ | refine zG hX ?_ | refine zO ?_); conv => whnf)
      refine DrawReq.plan hX (.fst 0 (.fst 1 (.fst 2 (.fst 3 (.fst 4 (.fst 5 (.fst 6 (.fst 7 (.fst 8 (.done)))))))))) _ (by kernel_rfl) (by kernel_rfl) hL id ?_
      clear hL
      intro w hL
      conv => whnf
      repeat ((first | refine Idx2Req.mk j aj rfl (by omega) eaj ?_ | refine QLdReq.one hX rfl rfl hk1 ?_ | refine zQ hX ?_ | refine zR hX ?_ | refine zA ?_ | refine zT ?_ | refine zF ?_ | refine zL hX hL ?_ | refine zB hX hL ?_ | (refine zS hX hL ?_; clear hL; intro w hL) | refine zI ?_ | refine zG hX ?_ | refine zO ?_); conv => whnf)
      exact RetReq.mk hL ⟨rfl, rfl⟩
  have ei : i = l.length := by omega
  subst ei
  have h2 := h0
  clear h0
  conv => whnf
  repeat ((first | refine zT ?_ | refine zF ?_ | refine zL hX hL ?_ | refine zB hX hL ?_ | (refine zS hX hL ?_; clear hL; intro w hL) | refine zI ?_ | refine zG hX ?_ | refine zO ?_); conv => whnf)
  refine LoopReq.inv hX (fun i : Nat => [(112, .int .i64 i)]) [0, 111]
    (fun i w => (i ≤ l.length ∧ ∀ k, k < i → cycM l k = false) ∧ ∃ m1, Mem.Le m m1 ∧ Ev.Loc m [] w0 m1 [] w) (fun i => l.length - i) 0
    ⟨⟨Nat.zero_le _, fun k h => by omega⟩, m1, hm1, hL⟩ ⟨rfl, trivial⟩ ?_
  clear hL hm1 m1
  rintro i w f5 ⟨⟨hi, h0⟩, m1, hm1, hL⟩
  conv => whnf
  repeat ((first | refine zT ?_ | refine zF ?_ | refine zL hX hL ?_ | refine zB hX hL ?_ | (refine zS hX hL ?_; clear hL; intro w hL) | refine zI ?_ | refine zG hX ?_ | refine zO ?_); conv => whnf)
  refine BrReq.dec (fun hlt => ?_) (fun hlt => ?_)
  · have hi1 : i < l.length := by omega
    conv => whnf
    repeat ((first | refine zT ?_ | refine zF ?_ | refine zL hX hL ?_ | refine zB hX hL ?_ | (refine zS hX hL ?_; clear hL; intro w hL) | refine zI ?_ | refine zG hX ?_ | refine zO ?_); conv => whnf)
    refine CallReq.pure (hcy hm1 i hi1) hL ?_
    clear hL
    rintro u m2 w hL hm2 rfl
    cases hci : cycM l i with
    | true =>
      rw [early_3 hn20 h1 h2 hi1 h0 hci]
      conv => whnf
      repeat ((first | refine zT ?_ | refine zF ?_ | refine zL hX hL ?_ | refine zB hX hL ?_ | (refine zS hX hL ?_; clear hL; intro w hL) | refine zI ?_ | refine zG hX ?_ | refine zO ?_); conv => whnf)
      exact RetReq.mk hL ⟨rfl, rfl⟩
    | false =>
      have hstep : ∀ q, q < i + 1 → cycM l q = false := fun q hq => by
        by_cases e : q = i
        · subst e; exact hci
        · exact h0 q (by omega)
      conv => whnf
      repeat ((first | refine zT ?_ | refine zF ?_ | refine zL hX hL ?_ | refine zB hX hL ?_ | (refine zS hX hL ?_; clear hL; intro w hL) | refine zI ?_ | refine zG hX ?_ | refine zO ?_); conv => whnf)
      refine ⟨i + 1, ⟨⟨by omega, hstep⟩, m2, hm1.trans hm2, hL⟩, by first | omega | (simp only; omega) | (simp only [List.length_cons, List.length_append]; omega), ?_, ?_⟩
      · repeat (first | exact trivial | (refine And.intro (by (conv => lhs; whnf) <;> (conv => rhs; whnf) <;> (first | rfl)) ?_))
      · repeat (first | exact trivial | (refine And.intro (by (conv => lhs; whnf) <;> (conv => rhs; whnf) <;> (first | rfl)) ?_))
  have ei : i = l.length := by omega
  subst ei
  rw [early_4 hn20 h1 h2 h0]
  conv => whnf
  repeat ((first | refine zT ?_ | refine zF ?_ | refine zL hX hL ?_ | refine zB hX hL ?_ | (refine zS hX hL ?_; clear hL; intro w hL) | refine zI ?_ | refine zG hX ?_ | refine zO ?_); conv => whnf)
  exact RetReq.mk hL ⟨rfl, rfl⟩
end Go.Proofs.YtemdkfohlppckaaGreatDoor.ma
