/- Formulas: the document's answer, walked: less, Holds, Formed, Same. Conditions: none. -/
import Derived.Test.YtnpgllgmcdhmcaaFoParts

namespace Go.Proofs.Ytnpgllgmcdhmcaa.fo
open Go Go.Ev Go.Proofs

theorem has_fn (m : Mem) (v : Value) (l : List Int) (x : Int) (hv : SlI m .i64 v l) : FnV Try.prog 33 [v, .int .i64 x] m (.bool (decide (x ∈ l))) := by
  have hmx : maxLen = 9223372036854775807 := rfl
  have hv' := hv
  obtain ⟨A, n, c, rfl, hn, hc, hm, -⟩ := hv
  have he := hv'.cell.2
  refine Fn.enter (N := 18) hX Try.func33 rfl rfl (by show _ ≤ _; simp) (fun w0 hL => ?_)
  conv => whnf
  conv => whnf
  repeat ((first | refine zT ?_ | refine zF ?_ | refine zL hX hL ?_ | refine zB hX hL ?_ | (refine zS hX hL ?_; clear hL; intro w hL) | refine zI ?_ | refine zG hX ?_ | refine zO ?_); conv => whnf)
  refine LoopReq.inv hX (fun j : Nat => [(8, .int .i64 j)]) [0, 1, 7]
    (fun j w => (j ≤ n ∧ ∀ i, i < j → l[i]? ≠ some x) ∧ Ev.Loc m [] w0 m [] w) (fun j => n - j) 0
    ⟨⟨by omega, fun i h => absurd h (by omega)⟩, hL⟩ ⟨rfl, trivial⟩ ?_
  clear hL
  rintro j w g ⟨⟨hj, hdone⟩, hL⟩
  conv => whnf
  repeat ((first | refine zT ?_ | refine zF ?_ | refine zL hX hL ?_ | refine zB hX hL ?_ | (refine zS hX hL ?_; clear hL; intro w hL) | refine zI ?_ | refine zG hX ?_ | refine zO ?_); conv => whnf)
  refine BrReq.dec (fun hlt => ?_) (fun hlt => ?_)
  · have hj' : j < l.length := by omega
    have hgj := List.getElem?_eq_getElem hj'
    obtain ⟨a, rfl, hcell⟩ := he j _ hgj
    conv => whnf
    repeat ((first | refine Idx2Req.mk j a rfl (by omega) rfl ?_ | (refine LdReq.one hX rfl rfl hL (by rw [scale_eq, Nat.mul_one]; exact hcell) ?_) | refine zT ?_ | refine zF ?_ | refine zL hX hL ?_ | refine zB hX hL ?_ | (refine zS hX hL ?_; clear hL; intro w hL) | refine zI ?_ | refine zG hX ?_ | refine zO ?_); conv => whnf)
    refine BrReq.dec (fun hb => ?_) (fun hb => ?_)
    · conv => whnf
      repeat ((first | refine zT ?_ | refine zF ?_ | refine zL hX hL ?_ | refine zB hX hL ?_ | (refine zS hX hL ?_; clear hL; intro w hL) | refine zI ?_ | refine zG hX ?_ | refine zO ?_); conv => whnf)
      exact RetReq.bool hL (decide_eq_true (by rw [← hb]; exact List.getElem_mem hj')).symm
    · have hd : ∀ i, i < j + 1 → l[i]? ≠ some x := by
        intro i hi
        by_cases e : i = j
        · subst e; rw [hgj]; intro h; injection h with h; exact hb h
        · exact hdone i (by omega)
      conv => whnf
      repeat ((first | refine zT ?_ | refine zF ?_ | refine zL hX hL ?_ | refine zB hX hL ?_ | (refine zS hX hL ?_; clear hL; intro w hL) | refine zI ?_ | refine zG hX ?_ | refine zO ?_); conv => whnf)
      refine ⟨j + 1, ⟨⟨by omega, hd⟩, hL⟩, by first | omega | (simp only; omega) | (simp only [List.length_cons, List.length_append]; omega), ?_, ?_⟩
      · repeat (first | exact trivial | (refine And.intro (by (conv => lhs; whnf) <;> (conv => rhs; whnf) <;> (first | rfl)) ?_))
      · repeat (first | exact trivial | (refine And.intro (by (conv => lhs; whnf) <;> (conv => rhs; whnf) <;> (first | rfl)) ?_))
  · conv => whnf
    repeat ((first | refine zT ?_ | refine zF ?_ | refine zL hX hL ?_ | refine zB hX hL ?_ | (refine zS hX hL ?_; clear hL; intro w hL) | refine zI ?_ | refine zG hX ?_ | refine zO ?_); conv => whnf)
    refine RetReq.bool hL (decide_eq_false fun h => ?_).symm
    obtain ⟨i, hi, e⟩ := List.getElem_of_mem h
    exact hdone i (by omega) (by rw [List.getElem?_eq_getElem hi, e])

theorem equal_fn (m : Mem) (v1 v2 : Value) (l1 l2 : List Int) (h1 : SlI m .i64 v1 l1) (h2 : SlI m .i64 v2 l2) : FnV Try.prog 35 [v1, v2] m (.bool (decide (l1 = l2))) := by
  have hmx : maxLen = 9223372036854775807 := rfl
  have h1' := h1
  have h2' := h2
  obtain ⟨A1, n1, c1, rfl, hn1, hc1, hm1, -⟩ := h1
  obtain ⟨A2, n2, c2, rfl, hn2, hc2, hm2, -⟩ := h2
  have he1 := h1'.cell.2
  have he2 := h2'.cell.2
  refine Fn.enter (N := 26) hX Try.func35 rfl rfl (by show _ ≤ _; simp) (fun w0 hL => ?_)
  conv => whnf
  conv => whnf
  repeat ((first | refine zT ?_ | refine zF ?_ | refine zL hX hL ?_ | refine zB hX hL ?_ | (refine zS hX hL ?_; clear hL; intro w hL) | refine zI ?_ | refine zG hX ?_ | refine zO ?_); conv => whnf)
  refine BrReq.dec (fun hne => ?_) (fun hne => ?_)
  · conv => whnf
    repeat ((first | refine zT ?_ | refine zF ?_ | refine zL hX hL ?_ | refine zB hX hL ?_ | (refine zS hX hL ?_; clear hL; intro w hL) | refine zI ?_ | refine zG hX ?_ | refine zO ?_); conv => whnf)
    exact RetReq.bool hL (decide_eq_false (fun e => hne (by rw [hn1, hn2, e]))).symm
  · have hlen : l1.length = l2.length := by omega
    conv => whnf
    repeat ((first | refine zT ?_ | refine zF ?_ | refine zL hX hL ?_ | refine zB hX hL ?_ | (refine zS hX hL ?_; clear hL; intro w hL) | refine zI ?_ | refine zG hX ?_ | refine zO ?_); conv => whnf)
    refine LoopReq.inv hX (fun j : Nat => [(13, .int .i64 j)]) [0, 1, 12]
      (fun j w => (j ≤ n1 ∧ l1.take j = l2.take j) ∧ Ev.Loc m [] w0 m [] w) (fun j => n1 - j) 0
      ⟨⟨by omega, rfl⟩, hL⟩ ⟨rfl, trivial⟩ ?_
    clear hL
    rintro j w f ⟨⟨hj, hs⟩, hL⟩
    conv => whnf
    repeat ((first | refine zT ?_ | refine zF ?_ | refine zL hX hL ?_ | refine zB hX hL ?_ | (refine zS hX hL ?_; clear hL; intro w hL) | refine zI ?_ | refine zG hX ?_ | refine zO ?_); conv => whnf)
    refine BrReq.dec (fun hlt => ?_) (fun hlt => ?_)
    · have hj1 : j < l1.length := by omega
      have hj2 : j < l2.length := by omega
      obtain ⟨a1, rfl, hx1⟩ := he1 j _ (List.getElem?_eq_getElem hj1)
      obtain ⟨a2, rfl, hx2⟩ := he2 j _ (List.getElem?_eq_getElem hj2)
      conv => whnf
      repeat ((first | refine zT ?_ | refine zF ?_ | refine zL hX hL ?_ | refine zB hX hL ?_ | (refine zS hX hL ?_; clear hL; intro w hL) | refine zI ?_ | refine zG hX ?_ | refine zO ?_); conv => whnf)
      refine DrawReq.plan hX (.fst 0 (.fst 1 (.fst 2 (.fst 3 (.fst 4 (.fst 5 (.fst 6 (.fst 7 (.fst 8 (.done)))))))))) [] (by kernel_rfl) (by kernel_rfl) hL id ?_
      clear hL
      intro w hL
      conv => whnf
      repeat ((first | refine Idx2Req.mk j a1 rfl (by omega) rfl ?_ | refine Idx2Req.mk j a2 rfl (by omega) rfl ?_ | (refine QLdReq.one hX rfl rfl (by rw [scale_eq, Nat.mul_one]; exact hx1) ?_) | (refine QLdReq.one hX rfl rfl (by rw [scale_eq, Nat.mul_one]; exact hx2) ?_) | refine zQ hX ?_ | refine zR hX ?_ | refine zA ?_ | refine zT ?_ | refine zF ?_ | refine zL hX hL ?_ | refine zB hX hL ?_ | (refine zS hX hL ?_; clear hL; intro w hL) | refine zI ?_ | refine zG hX ?_ | refine zO ?_); conv => whnf)
      refine BrReq.dec (fun hd => ?_) (fun hd => ?_)
      · conv => whnf
        repeat ((first | refine zT ?_ | refine zF ?_ | refine zL hX hL ?_ | refine zB hX hL ?_ | (refine zS hX hL ?_; clear hL; intro w hL) | refine zI ?_ | refine zG hX ?_ | refine zO ?_); conv => whnf)
        refine RetReq.bool hL (decide_eq_false (fun e => hd ?_)).symm
        subst e; rfl
      · have hd' : l1[j] = l2[j] := Classical.not_not.1 hd
        have hs2 : l1.take (j + 1) = l2.take (j + 1) := by rw [List.take_succ_eq_append_getElem hj1, List.take_succ_eq_append_getElem hj2, hs, hd']
        conv => whnf
        repeat ((first | refine zT ?_ | refine zF ?_ | refine zL hX hL ?_ | refine zB hX hL ?_ | (refine zS hX hL ?_; clear hL; intro w hL) | refine zI ?_ | refine zG hX ?_ | refine zO ?_); conv => whnf)
        refine ⟨j + 1, ⟨⟨by omega, hs2⟩, hL⟩, by first | omega | (simp only; omega) | (simp only [List.length_cons, List.length_append]; omega), ?_, ?_⟩
        · repeat (first | exact trivial | (refine And.intro (by (conv => lhs; whnf) <;> (conv => rhs; whnf) <;> (first | rfl)) ?_))
        · repeat (first | exact trivial | (refine And.intro (by (conv => lhs; whnf) <;> (conv => rhs; whnf) <;> (first | rfl)) ?_))
    · have ej : j = l1.length := by omega
      have e : l1 = l2 := by
        rw [ej, List.take_length, hlen, List.take_length] at hs; exact hs
      conv => whnf
      repeat ((first | refine zT ?_ | refine zF ?_ | refine zL hX hL ?_ | refine zB hX hL ?_ | (refine zS hX hL ?_; clear hL; intro w hL) | refine zI ?_ | refine zG hX ?_ | refine zO ?_); conv => whnf)
      exact RetReq.bool hL (decide_eq_true e).symm

theorem equalF_fn (m : Mem) (v1 v2 : Value) (f1 f2 : List (List Int)) (h1 : FmV m v1 f1) (h2 : FmV m v2 f2) :
    FnV Try.prog 34 [v1, v2, .func (.func 35) #[] #[]] m (.bool (decide (f1 = f2))) := by
  have hmx : maxLen = 9223372036854775807 := rfl
  have h1' := h1
  have h2' := h2
  obtain ⟨A1, n1, c1, rfl, hn1, hc1, hm1, -⟩ := h1
  obtain ⟨A2, n2, c2, rfl, hn2, hc2, hm2, -⟩ := h2
  refine Fn.enter (N := 32) hX Try.func34 rfl rfl (by show _ ≤ _; simp) (fun w0 hL => ?_)
  conv => whnf
  conv => whnf
  repeat ((first | refine zT ?_ | refine zF ?_ | refine zL hX hL ?_ | refine zB hX hL ?_ | (refine zS hX hL ?_; clear hL; intro w hL) | refine zI ?_ | refine zG hX ?_ | refine zO ?_); conv => whnf)
  refine BrReq.dec (fun hne => ?_) (fun hne => ?_)
  · conv => whnf
    repeat ((first | refine zT ?_ | refine zF ?_ | refine zL hX hL ?_ | refine zB hX hL ?_ | (refine zS hX hL ?_; clear hL; intro w hL) | refine zI ?_ | refine zG hX ?_ | refine zO ?_); conv => whnf)
    exact RetReq.bool hL (decide_eq_false (fun e => hne (by rw [hn1, hn2, e]))).symm
  · have hlen : f1.length = f2.length := by omega
    conv => whnf
    repeat ((first | refine zT ?_ | refine zF ?_ | refine zL hX hL ?_ | refine zB hX hL ?_ | (refine zS hX hL ?_; clear hL; intro w hL) | refine zI ?_ | refine zG hX ?_ | refine zO ?_); conv => whnf)
    refine LoopReq.inv hX (fun j : Nat => [(17, .int .i64 j)]) [1, 2, 15, 16]
      (fun j w => (j ≤ n1 ∧ f1.take j = f2.take j) ∧ Ev.Loc m [] w0 m [] w) (fun j => n1 - j) 0
      ⟨⟨by omega, rfl⟩, hL⟩ ⟨rfl, trivial⟩ ?_
    clear hL
    rintro j w f ⟨⟨hj, hs⟩, hL⟩
    conv => whnf
    repeat ((first | refine zT ?_ | refine zF ?_ | refine zL hX hL ?_ | refine zB hX hL ?_ | (refine zS hX hL ?_; clear hL; intro w hL) | refine zI ?_ | refine zG hX ?_ | refine zO ?_); conv => whnf)
    refine BrReq.dec (fun hlt => ?_) (fun hlt => ?_)
    · have hj1 : j < f1.length := by omega
      have hj2 : j < f2.length := by omega
      obtain ⟨a1, A3, n3, c3, rfl, hx1, hp1⟩ := h1'.at_ hj1
      obtain ⟨a2, A4, n4, c4, rfl, hx2, hp2⟩ := h2'.at_ hj2
      conv => whnf
      repeat ((first | refine Idx2Req.mk j a1 rfl (by omega) rfl ?_ | refine Idx2Req.mk j a2 rfl (by omega) rfl ?_ | refine LdReq.one hX rfl rfl hL hx1 ?_ | refine LdReq.one hX rfl rfl hL hx2 ?_ | refine zT ?_ | refine zF ?_ | refine zL hX hL ?_ | refine zB hX hL ?_ | (refine zS hX hL ?_; clear hL; intro w hL) | refine zI ?_ | refine zG hX ?_ | refine zO ?_); conv => whnf)
      refine CallReq.val (equal_fn m _ _ _ _ hp1 hp2) hL ?_
      clear hL
      intro w hL
      conv => whnf
      repeat ((first | refine zT ?_ | refine zF ?_ | refine zL hX hL ?_ | refine zB hX hL ?_ | (refine zS hX hL ?_; clear hL; intro w hL) | refine zI ?_ | refine zG hX ?_ | refine zO ?_); conv => whnf)
      refine BrReq.not ?_
      refine BrReq.dec (fun hd => ?_) (fun hd => ?_)
      · have hs2 : f1.take (j + 1) = f2.take (j + 1) := by rw [List.take_succ_eq_append_getElem hj1, List.take_succ_eq_append_getElem hj2, hs, hd]
        conv => whnf
        repeat ((first | refine zT ?_ | refine zF ?_ | refine zL hX hL ?_ | refine zB hX hL ?_ | (refine zS hX hL ?_; clear hL; intro w hL) | refine zI ?_ | refine zG hX ?_ | refine zO ?_); conv => whnf)
        refine ⟨j + 1, ⟨⟨by omega, hs2⟩, hL⟩, by first | omega | (simp only; omega) | (simp only [List.length_cons, List.length_append]; omega), ?_, ?_⟩
        · repeat (first | exact trivial | (refine And.intro (by (conv => lhs; whnf) <;> (conv => rhs; whnf) <;> (first | rfl)) ?_))
        · repeat (first | exact trivial | (refine And.intro (by (conv => lhs; whnf) <;> (conv => rhs; whnf) <;> (first | rfl)) ?_))
      · conv => whnf
        repeat ((first | refine zT ?_ | refine zF ?_ | refine zL hX hL ?_ | refine zB hX hL ?_ | (refine zS hX hL ?_; clear hL; intro w hL) | refine zI ?_ | refine zG hX ?_ | refine zO ?_); conv => whnf)
        refine RetReq.bool hL (decide_eq_false (fun e => hd ?_)).symm
        subst e; rfl
    · have ej : j = f1.length := by omega
      have e : f1 = f2 := by
        rw [ej, List.take_length, hlen, List.take_length] at hs; exact hs
      conv => whnf
      repeat ((first | refine zT ?_ | refine zF ?_ | refine zL hX hL ?_ | refine zB hX hL ?_ | (refine zS hX hL ?_; clear hL; intro w hL) | refine zI ?_ | refine zG hX ?_ | refine zO ?_); conv => whnf)
      exact RetReq.bool hL (decide_eq_true e).symm

theorem same_fn (m : Mem) (v1 v2 : Value) (f1 f2 : List (List Int)) (h1 : FmV m v1 f1) (h2 : FmV m v2 f2) : FnV Try.prog 15 [v1, v2] m (.bool (decide (f1 = f2))) := by
  have h1' := h1
  have h2' := h2
  obtain ⟨A1, n1, c1, rfl, -⟩ := h1
  obtain ⟨A2, n2, c2, rfl, -⟩ := h2
  refine Fn.enter (N := 8) hX Try.func15 rfl rfl (by show _ ≤ _; simp) (fun w0 hL => ?_)
  conv => whnf
  conv => whnf
  repeat ((first | refine zT ?_ | refine zF ?_ | refine zL hX hL ?_ | refine zB hX hL ?_ | (refine zS hX hL ?_; clear hL; intro w hL) | refine zI ?_ | refine zG hX ?_ | refine zO ?_); conv => whnf)
  refine CallReq.val (equalF_fn m _ _ _ _ h1' h2') hL ?_
  clear hL
  intro w hL
  conv => whnf
  repeat ((first | refine zT ?_ | refine zF ?_ | refine zL hX hL ?_ | refine zB hX hL ?_ | (refine zS hX hL ?_; clear hL; intro w hL) | refine zI ?_ | refine zG hX ?_ | refine zO ?_); conv => whnf)
  exact RetReq.bool hL rfl

theorem refSame_fn (m : Mem) (v1 v2 : Value) (f1 f2 : List (List Int)) (h1 : FmV m v1 f1) (h2 : FmV m v2 f2) : FnV Try.prog 12 [v1, v2] m (.bool (decide (f1 = f2))) := by
  have hmx : maxLen = 9223372036854775807 := rfl
  have h1' := h1
  have h2' := h2
  obtain ⟨A1, n1, c1, rfl, hn1, hc1, hm1, -⟩ := h1
  obtain ⟨A2, n2, c2, rfl, hn2, hc2, hm2, -⟩ := h2
  refine Fn.enter (N := 53) hX Try.func12 rfl rfl (by show _ ≤ _; simp) (fun w0 hL => ?_)
  conv => whnf
  conv => whnf
  repeat ((first | refine zT ?_ | refine zF ?_ | refine zL hX hL ?_ | refine zB hX hL ?_ | (refine zS hX hL ?_; clear hL; intro w hL) | refine zI ?_ | refine zG hX ?_ | refine zO ?_); conv => whnf)
  refine BrReq.dec (fun hne => ?_) (fun hne => ?_)
  · conv => whnf
    repeat ((first | refine zT ?_ | refine zF ?_ | refine zL hX hL ?_ | refine zB hX hL ?_ | (refine zS hX hL ?_; clear hL; intro w hL) | refine zI ?_ | refine zG hX ?_ | refine zO ?_); conv => whnf)
    exact RetReq.bool hL (decide_eq_false (fun e => hne (by rw [hn1, hn2, e]))).symm
  · have hlen : f1.length = f2.length := by omega
    conv => whnf
    repeat ((first | refine zT ?_ | refine zF ?_ | refine zL hX hL ?_ | refine zB hX hL ?_ | (refine zS hX hL ?_; clear hL; intro w hL) | refine zI ?_ | refine zG hX ?_ | refine zO ?_); conv => whnf)
    refine LoopReq.inv hX (fun j : Nat => [(14, .int .i64 j)]) [0, 1, 13]
      (fun j w => (j ≤ n1 ∧ f1.take j = f2.take j) ∧ Ev.Loc m [] w0 m [] w) (fun j => n1 - j) 0
      ⟨⟨by omega, rfl⟩, hL⟩ ⟨rfl, trivial⟩ ?_
    clear hL
    rintro j w f ⟨⟨hj, hs⟩, hL⟩
    conv => whnf
    repeat ((first | refine zT ?_ | refine zF ?_ | refine zL hX hL ?_ | refine zB hX hL ?_ | (refine zS hX hL ?_; clear hL; intro w hL) | refine zI ?_ | refine zG hX ?_ | refine zO ?_); conv => whnf)
    refine BrReq.dec (fun hlt => ?_) (fun hlt => ?_)
    · have hj1 : j < f1.length := by omega
      have hj2 : j < f2.length := by omega
      obtain ⟨a1, A3, n3, c3, rfl, hx1, hp1⟩ := h1'.at_ hj1
      obtain ⟨a2, A4, n4, c4, rfl, hx2, hp2⟩ := h2'.at_ hj2
      have hpn1 := hp1.len
      have hpn2 := hp2.len
      have he1 := hp1.cell.2
      have he2 := hp2.cell.2
      conv => whnf
      repeat ((first | refine zT ?_ | refine zF ?_ | refine zL hX hL ?_ | refine zB hX hL ?_ | (refine zS hX hL ?_; clear hL; intro w hL) | refine zI ?_ | refine zG hX ?_ | refine zO ?_); conv => whnf)
      refine DrawReq.plan hX (.fst 0 (.fst 1 (.fst 2 (.fst 3 (.fst 4 (.fst 5 (.fst 6 (.fst 7 (.fst 8 (.fst 9 (.fst 10 (.done)))))))))))) [] (by kernel_rfl) (by kernel_rfl) hL id ?_
      clear hL
      intro w hL
      conv => whnf
      repeat ((first | refine Idx2Req.mk j a1 rfl (by omega) rfl ?_ | refine Idx2Req.mk j a2 rfl (by omega) rfl ?_ | refine QLdReq.one hX rfl rfl hx1 ?_ | refine QLdReq.one hX rfl rfl hx2 ?_ | refine zQ hX ?_ | refine zR hX ?_ | refine zA ?_ | refine zT ?_ | refine zF ?_ | refine zL hX hL ?_ | refine zB hX hL ?_ | (refine zS hX hL ?_; clear hL; intro w hL) | refine zI ?_ | refine zG hX ?_ | refine zO ?_); conv => whnf)
      refine BrReq.dec (fun hd => ?_) (fun hd => ?_)
      · conv => whnf
        repeat ((first | refine zT ?_ | refine zF ?_ | refine zL hX hL ?_ | refine zB hX hL ?_ | (refine zS hX hL ?_; clear hL; intro w hL) | refine zI ?_ | refine zG hX ?_ | refine zO ?_); conv => whnf)
        refine RetReq.bool hL (decide_eq_false (fun e => hd ?_)).symm
        subst e; omega
      · have hln : f1[j].length = f2[j].length := by omega
        conv => whnf
        repeat ((first | refine Idx2Req.mk j a1 rfl (by omega) rfl ?_ | refine LdReq.one hX rfl rfl hL hx1 ?_ | refine zT ?_ | refine zF ?_ | refine zL hX hL ?_ | refine zB hX hL ?_ | (refine zS hX hL ?_; clear hL; intro w hL) | refine zI ?_ | refine zG hX ?_ | refine zO ?_); conv => whnf)
        refine LoopReq.inv hX (fun k : Nat => [(33, .int .i64 k)]) [0, 1, 5, 13, 14, 32]
          (fun k w => (k ≤ n3 ∧ f1[j].take k = f2[j].take k) ∧ Ev.Loc m [] w0 m [] w) (fun k => n3 - k) 0
          ⟨⟨by omega, rfl⟩, hL⟩ ⟨rfl, trivial⟩ ?_
        clear hL
        rintro k w g ⟨⟨hk, hs3⟩, hL⟩
        conv => whnf
        repeat ((first | refine zT ?_ | refine zF ?_ | refine zL hX hL ?_ | refine zB hX hL ?_ | (refine zS hX hL ?_; clear hL; intro w hL) | refine zI ?_ | refine zG hX ?_ | refine zO ?_); conv => whnf)
        refine BrReq.dec (fun hlt2 => ?_) (fun hlt2 => ?_)
        · have hk1 : k < f1[j].length := by omega
          have hk2 : k < f2[j].length := by omega
          obtain ⟨b1, rfl, hy1⟩ := he1 k _ (List.getElem?_eq_getElem hk1)
          obtain ⟨b2, rfl, hy2⟩ := he2 k _ (List.getElem?_eq_getElem hk2)
          conv => whnf
          repeat ((first | refine zT ?_ | refine zF ?_ | refine zL hX hL ?_ | refine zB hX hL ?_ | (refine zS hX hL ?_; clear hL; intro w hL) | refine zI ?_ | refine zG hX ?_ | refine zO ?_); conv => whnf)
          refine DrawReq.plan hX (.fst 0 (.fst 1 (.fst 2 (.fst 3 (.fst 4 (.fst 5 (.fst 6 (.fst 7 (.fst 8 (.fst 9 (.fst 10 (.fst 11 (.fst 12 (.fst 13 (.fst 14 (.done)))))))))))))))) [] (by kernel_rfl) (by kernel_rfl) hL id ?_
          clear hL
          intro w hL
          conv => whnf
          repeat ((first | refine Idx2Req.mk j a1 rfl (by omega) rfl ?_ | refine Idx2Req.mk j a2 rfl (by omega) rfl ?_ | refine QLdReq.one hX rfl rfl hx1 ?_ | refine QLdReq.one hX rfl rfl hx2 ?_ | refine Idx2Req.mk k b1 rfl (by omega) rfl ?_ | refine Idx2Req.mk k b2 rfl (by omega) rfl ?_ | (refine QLdReq.one hX rfl rfl (by rw [scale_eq, Nat.mul_one]; exact hy1) ?_) | (refine QLdReq.one hX rfl rfl (by rw [scale_eq, Nat.mul_one]; exact hy2) ?_) | refine zQ hX ?_ | refine zR hX ?_ | refine zA ?_ | refine zT ?_ | refine zF ?_ | refine zL hX hL ?_ | refine zB hX hL ?_ | (refine zS hX hL ?_; clear hL; intro w hL) | refine zI ?_ | refine zG hX ?_ | refine zO ?_); conv => whnf)
          refine BrReq.dec (fun hd2 => ?_) (fun hd2 => ?_)
          · conv => whnf
            repeat ((first | refine zT ?_ | refine zF ?_ | refine zL hX hL ?_ | refine zB hX hL ?_ | (refine zS hX hL ?_; clear hL; intro w hL) | refine zI ?_ | refine zG hX ?_ | refine zO ?_); conv => whnf)
            refine RetReq.bool hL (decide_eq_false (fun e => hd2 ?_)).symm
            subst e; rfl
          · have hd' : f1[j][k] = f2[j][k] := Classical.not_not.1 hd2
            have hs4 : f1[j].take (k + 1) = f2[j].take (k + 1) := by rw [List.take_succ_eq_append_getElem hk1, List.take_succ_eq_append_getElem hk2, hs3, hd']
            conv => whnf
            repeat ((first | refine zT ?_ | refine zF ?_ | refine zL hX hL ?_ | refine zB hX hL ?_ | (refine zS hX hL ?_; clear hL; intro w hL) | refine zI ?_ | refine zG hX ?_ | refine zO ?_); conv => whnf)
            refine ⟨k + 1, ⟨⟨by omega, hs4⟩, hL⟩, by first | omega | (simp only; omega) | (simp only [List.length_cons, List.length_append]; omega), ?_, ?_⟩
            · repeat (first | exact trivial | (refine And.intro (by (conv => lhs; whnf) <;> (conv => rhs; whnf) <;> (first | rfl)) ?_))
            · repeat (first | exact trivial | (refine And.intro (by (conv => lhs; whnf) <;> (conv => rhs; whnf) <;> (first | rfl)) ?_))
        · have ek : k = f1[j].length := by omega
          have e : f1[j] = f2[j] := by
            rw [ek, List.take_length, hln, List.take_length] at hs3; exact hs3
          have hs2 : f1.take (j + 1) = f2.take (j + 1) := by rw [List.take_succ_eq_append_getElem hj1, List.take_succ_eq_append_getElem hj2, hs, e]
          conv => whnf
          repeat ((first | refine zT ?_ | refine zF ?_ | refine zL hX hL ?_ | refine zB hX hL ?_ | (refine zS hX hL ?_; clear hL; intro w hL) | refine zI ?_ | refine zG hX ?_ | refine zO ?_); conv => whnf)
          refine ⟨j + 1, ⟨⟨by omega, hs2⟩, hL⟩, by first | omega | (simp only; omega) | (simp only [List.length_cons, List.length_append]; omega), ?_, ?_⟩
          · repeat (first | exact trivial | (refine And.intro (by (conv => lhs; whnf) <;> (conv => rhs; whnf) <;> (first | rfl)) ?_))
          · repeat (first | exact trivial | (refine And.intro (by (conv => lhs; whnf) <;> (conv => rhs; whnf) <;> (first | rfl)) ?_))
    · have ej : j = f1.length := by omega
      have e : f1 = f2 := by
        rw [ej, List.take_length, hlen, List.take_length] at hs; exact hs
      conv => whnf
      repeat ((first | refine zT ?_ | refine zF ?_ | refine zL hX hL ?_ | refine zB hX hL ?_ | (refine zS hX hL ?_; clear hL; intro w hL) | refine zI ?_ | refine zG hX ?_ | refine zO ?_); conv => whnf)
      exact RetReq.bool hL (decide_eq_true e).symm


theorem less_fn (m : Mem) (v1 v2 : Value) (l1 l2 : List Int) (h1 : SlI m .i64 v1 l1) (h2 : SlI m .i64 v2 l2) : FnV Try.prog 20 [v1, v2] m (.bool (dec (lessP l1 l2))) := by
  have hmx : maxLen = 9223372036854775807 := rfl
  have h1' := h1
  have h2' := h2
  obtain ⟨A1, n1, c1, rfl, hn1, hc1, hm1, -⟩ := h1
  obtain ⟨A2, n2, c2, rfl, hn2, hc2, hm2, -⟩ := h2
  have he1 := h1'.cell.2
  have he2 := h2'.cell.2
  subst hn1 hn2
  refine Fn.enter (N := 40) hX Try.func20 rfl rfl (by show _ ≤ _; simp) (fun w0 hL => ?_)
  conv => whnf
  conv => whnf
  repeat ((first | refine zT ?_ | refine zF ?_ | refine zL hX hL ?_ | refine zB hX hL ?_ | (refine zS hX hL ?_; clear hL; intro w hL) | refine zI ?_ | refine zG hX ?_ | refine zO ?_); conv => whnf)
  refine BrReq.dec (fun hne => ?_) (fun hne => ?_)
  · have hne' : l1.length ≠ l2.length := by omega
    conv => whnf
    repeat ((first | refine zT ?_ | refine zF ?_ | refine zL hX hL ?_ | refine zB hX hL ?_ | (refine zS hX hL ?_; clear hL; intro w hL) | refine zI ?_ | refine zG hX ?_ | refine zO ?_); conv => whnf)
    refine RetReq.bool hL ?_
    by_cases hlt : l1.length < l2.length
    · rw [dec_t (.inl hlt), decide_eq_true (by omega)]
    · rw [dec_f (fun h => h.elim (fun h => hlt h) fun h => hne' h.1), decide_eq_false (by omega)]
  · have hlen : l1.length = l2.length := by omega
    have hv : dec (lessP l1 l2) = lexB l1 l2 := by
      cases hb : lexB l1 l2 with
      | true => exact dec_t (.inr ⟨hlen, hb⟩)
      | false => exact dec_f fun h => h.elim (fun h => by omega) fun h => by rw [hb] at h; cases h.2
    rw [hv]
    conv => whnf
    repeat ((first | refine zT ?_ | refine zF ?_ | refine zL hX hL ?_ | refine zB hX hL ?_ | (refine zS hX hL ?_; clear hL; intro w hL) | refine zI ?_ | refine zG hX ?_ | refine zO ?_); conv => whnf)
    refine LoopReq.inv hX (fun j : Nat => [(18, .int .i64 j)]) [0, 1, 17]
      (fun j w => (j ≤ l1.length ∧ lexB (l1.drop j) (l2.drop j) = lexB l1 l2) ∧ Ev.Loc m [] w0 m [] w) (fun j => l1.length - j) 0
      ⟨⟨by omega, rfl⟩, hL⟩ ⟨rfl, trivial⟩ ?_
    clear hL
    rintro j w f ⟨⟨hj, hlx⟩, hL⟩
    conv => whnf
    repeat ((first | refine zT ?_ | refine zF ?_ | refine zL hX hL ?_ | refine zB hX hL ?_ | (refine zS hX hL ?_; clear hL; intro w hL) | refine zI ?_ | refine zG hX ?_ | refine zO ?_); conv => whnf)
    refine BrReq.dec (fun hlt => ?_) (fun hlt => ?_)
    · have hj1 : j < l1.length := by omega
      have hj2 : j < l2.length := by omega
      obtain ⟨a1, rfl, hx1⟩ := he1 j _ (List.getElem?_eq_getElem hj1)
      obtain ⟨a2, rfl, hx2⟩ := he2 j _ (List.getElem?_eq_getElem hj2)
      rw [List.drop_eq_getElem_cons hj1, List.drop_eq_getElem_cons hj2, lexB] at hlx
      conv => whnf
      repeat ((first | refine zT ?_ | refine zF ?_ | refine zL hX hL ?_ | refine zB hX hL ?_ | (refine zS hX hL ?_; clear hL; intro w hL) | refine zI ?_ | refine zG hX ?_ | refine zO ?_); conv => whnf)
      refine DrawReq.plan hX (.fst 0 (.fst 1 (.fst 2 (.fst 3 (.fst 4 (.fst 5 (.fst 6 (.fst 7 (.fst 8 (.done)))))))))) [] (by kernel_rfl) (by kernel_rfl) hL id ?_
      clear hL
      intro w hL
      conv => whnf
      repeat ((first | refine Idx2Req.mk j a1 rfl (by omega) rfl ?_ | refine Idx2Req.mk j a2 rfl (by omega) rfl ?_ | (refine QLdReq.one hX rfl rfl (by rw [scale_eq, Nat.mul_one]; exact hx1) ?_) | (refine QLdReq.one hX rfl rfl (by rw [scale_eq, Nat.mul_one]; exact hx2) ?_) | refine zQ hX ?_ | refine zR hX ?_ | refine zA ?_ | refine zT ?_ | refine zF ?_ | refine zL hX hL ?_ | refine zB hX hL ?_ | (refine zS hX hL ?_; clear hL; intro w hL) | refine zI ?_ | refine zG hX ?_ | refine zO ?_); conv => whnf)
      refine BrReq.dec (fun hd => ?_) (fun hd => ?_)
      · have hd' : l1[j] ≠ l2[j] := hd
        rw [if_neg hd'] at hlx
        rw [← hlx]
        conv => whnf
        repeat ((first | refine zT ?_ | refine zF ?_ | refine zL hX hL ?_ | refine zB hX hL ?_ | (refine zS hX hL ?_; clear hL; intro w hL) | refine zI ?_ | refine zG hX ?_ | refine zO ?_); conv => whnf)
        refine DrawReq.plan hX (.fst 0 (.fst 1 (.fst 2 (.fst 3 (.fst 4 (.fst 5 (.fst 6 (.fst 7 (.fst 8 (.fst 9 (.done))))))))))) [] (by kernel_rfl) (by kernel_rfl) hL id ?_
        clear hL
        intro w hL
        conv => whnf
        repeat ((first | refine Idx2Req.mk j a1 rfl (by omega) rfl ?_ | refine Idx2Req.mk j a2 rfl (by omega) rfl ?_ | (refine QLdReq.one hX rfl rfl (by rw [scale_eq, Nat.mul_one]; exact hx1) ?_) | (refine QLdReq.one hX rfl rfl (by rw [scale_eq, Nat.mul_one]; exact hx2) ?_) | refine zQ hX ?_ | refine zR hX ?_ | refine zA ?_ | refine zT ?_ | refine zF ?_ | refine zL hX hL ?_ | refine zB hX hL ?_ | (refine zS hX hL ?_; clear hL; intro w hL) | refine zI ?_ | refine zG hX ?_ | refine zO ?_); conv => whnf)
        exact RetReq.bool hL rfl
      · have hd' : l1[j] = l2[j] := Classical.byContradiction fun h => hd h
        rw [if_pos hd'] at hlx
        conv => whnf
        repeat ((first | refine zT ?_ | refine zF ?_ | refine zL hX hL ?_ | refine zB hX hL ?_ | (refine zS hX hL ?_; clear hL; intro w hL) | refine zI ?_ | refine zG hX ?_ | refine zO ?_); conv => whnf)
        refine ⟨j + 1, ⟨⟨by omega, hlx⟩, hL⟩, by first | omega | (simp only; omega) | (simp only [List.length_cons, List.length_append]; omega), ?_, ?_⟩
        · repeat (first | exact trivial | (refine And.intro (by (conv => lhs; whnf) <;> (conv => rhs; whnf) <;> (first | rfl)) ?_))
        · repeat (first | exact trivial | (refine And.intro (by (conv => lhs; whnf) <;> (conv => rhs; whnf) <;> (first | rfl)) ?_))
    · have ej : j = l1.length := by omega
      have hz : lexB l1 l2 = false := by rw [← hlx, ej, List.drop_length]; rw [lexB]; simp
      rw [hz]
      conv => whnf
      repeat ((first | refine zT ?_ | refine zF ?_ | refine zL hX hL ?_ | refine zB hX hL ?_ | (refine zS hX hL ?_; clear hL; intro w hL) | refine zI ?_ | refine zG hX ?_ | refine zO ?_); conv => whnf)
      exact RetReq.bool hL rfl

noncomputable def subB (p S : Prt) : Bool := p.all fun n => decide (n ∈ S)
theorem subB_iff {p S : Prt} : subB p S = true ↔ subP p S := by
  unfold subB subP
  rw [List.all_eq_true]
  exact ⟨fun h n hn => of_decide_eq_true (h n hn), fun h n hn => decide_eq_true (h n hn)⟩
theorem refHolds_fn (m : Mem) (v1 v2 : Value) (f1 : List (List Int)) (l2 : List Int) (h1 : FmV m v1 f1) (h2 : SlI m .i64 v2 l2) : FnV Try.prog 21 [v1, v2] m (.bool (dec (holdsP f1 l2))) := by
  have hmx : maxLen = 9223372036854775807 := rfl
  have h1' := h1
  have h2' := h2
  obtain ⟨A1, n1, c1, rfl, hn1, hc1, hm1, -⟩ := h1
  obtain ⟨A2, n2, c2, rfl, hn2, hc2, hm2, -⟩ := h2
  refine Fn.enter (N := 36) hX Try.func21 rfl rfl (by show _ ≤ _; simp) (fun w0 hL => ?_)
  conv => whnf
  conv => whnf
  repeat ((first | refine zT ?_ | refine zF ?_ | refine zL hX hL ?_ | refine zB hX hL ?_ | (refine zS hX hL ?_; clear hL; intro w hL) | refine zI ?_ | refine zG hX ?_ | refine zO ?_); conv => whnf)
  refine LoopReq.inv hX (fun j : Nat => [(10, .int .i64 j)]) [0, 1, 9]
    (fun j w => (j ≤ n1 ∧ ∀ p ∈ f1.take j, ¬ subP p l2) ∧ Ev.Loc m [] w0 m [] w) (fun j => n1 - j) 0
    ⟨⟨by omega, fun p hp => by simp at hp⟩, hL⟩ ⟨rfl, trivial⟩ ?_
  clear hL
  rintro j w f ⟨⟨hj, hno⟩, hL⟩
  conv => whnf
  repeat ((first | refine zT ?_ | refine zF ?_ | refine zL hX hL ?_ | refine zB hX hL ?_ | (refine zS hX hL ?_; clear hL; intro w hL) | refine zI ?_ | refine zG hX ?_ | refine zO ?_); conv => whnf)
  refine BrReq.dec (fun hlt => ?_) (fun hlt => ?_)
  · have hj1 : j < f1.length := by omega
    obtain ⟨a1, A3, n3, c3, rfl, hx1, hp1⟩ := h1'.at_ hj1
    have hpn1 := hp1.len
    have he1 := hp1.cell.2
    conv => whnf
    repeat ((first | refine Idx2Req.mk j a1 rfl (by omega) rfl ?_ | refine LdReq.one hX rfl rfl hL hx1 ?_ | refine zT ?_ | refine zF ?_ | refine zL hX hL ?_ | refine zB hX hL ?_ | (refine zS hX hL ?_; clear hL; intro w hL) | refine zI ?_ | refine zG hX ?_ | refine zO ?_); conv => whnf)
    refine LoopReq.inv hX (fun s : Nat × Bool => [(6, .bool s.2), (18, .int .i64 s.1)]) [0, 1, 5, 9, 10, 17]
      (fun s w => (s.1 ≤ n3 ∧ s.2 = subB (f1[j].take s.1) l2) ∧ Ev.Loc m [] w0 m [] w) (fun s => n3 - s.1) (0, true)
      ⟨⟨by omega, rfl⟩, hL⟩ ⟨rfl, rfl, trivial⟩ ?_
    clear hL
    rintro ⟨k, b⟩ w g ⟨⟨hk, hbv⟩, hL⟩
    simp only at hk hbv
    conv => whnf
    repeat ((first | refine zT ?_ | refine zF ?_ | refine zL hX hL ?_ | refine zB hX hL ?_ | (refine zS hX hL ?_; clear hL; intro w hL) | refine zI ?_ | refine zG hX ?_ | refine zO ?_); conv => whnf)
    refine BrReq.dec (fun hlt2 => ?_) (fun hlt2 => ?_)
    · have hk1 : k < f1[j].length := by simp only at hlt2; omega
      obtain ⟨b1, rfl, hy1⟩ := he1 k _ (List.getElem?_eq_getElem hk1)
      have hnx : subB (f1[j].take (k + 1)) l2 = (subB (f1[j].take k) l2 && decide (f1[j][k] ∈ l2)) := by
        rw [take_succ' hk1]; unfold subB; rw [List.all_append]; simp
      rw [← hbv] at hnx
      conv => whnf
      repeat ((first | refine zT ?_ | refine zF ?_ | refine zL hX hL ?_ | refine zB hX hL ?_ | (refine zS hX hL ?_; clear hL; intro w hL) | refine zI ?_ | refine zG hX ?_ | refine zO ?_); conv => whnf)
      refine BrReq.bool (fun hb => ?_) (fun hb => ?_)
      · conv => whnf
        repeat ((first | refine Idx2Req.mk j a1 rfl (by omega) rfl ?_ | refine LdReq.one hX rfl rfl hL hx1 ?_ | (refine Idx2Req.mk k b1 rfl (by simp only at hlt2; omega) rfl ?_) | (refine LdReq.one hX rfl rfl hL (by rw [scale_eq, Nat.mul_one]; exact hy1) ?_) | refine zT ?_ | refine zF ?_ | refine zL hX hL ?_ | refine zB hX hL ?_ | (refine zS hX hL ?_; clear hL; intro w hL) | refine zI ?_ | refine zG hX ?_ | refine zO ?_); conv => whnf)
        refine CallReq.val (has_fn m _ _ _ h2') hL ?_
        clear hL
        intro w hL
        subst hb
        rw [Bool.true_and] at hnx
        conv => whnf
        repeat ((first | refine zT ?_ | refine zF ?_ | refine zL hX hL ?_ | refine zB hX hL ?_ | (refine zS hX hL ?_; clear hL; intro w hL) | refine zI ?_ | refine zG hX ?_ | refine zO ?_); conv => whnf)
        refine ⟨(k + 1, decide (f1[j][k] ∈ l2)), ⟨⟨by simp only at hlt2 ⊢; omega, hnx.symm⟩, hL⟩, by first | omega | (simp only; omega) | (simp only [List.length_cons, List.length_append]; omega), ?_, ?_⟩
        · repeat (first | exact trivial | (refine And.intro (by (conv => lhs; whnf) <;> (conv => rhs; whnf) <;> (first | rfl)) ?_))
        · repeat (first | exact trivial | (refine And.intro (by (conv => lhs; whnf) <;> (conv => rhs; whnf) <;> (first | rfl)) ?_))
      · subst hb
        rw [Bool.false_and] at hnx
        conv => whnf
        repeat ((first | refine zT ?_ | refine zF ?_ | refine zL hX hL ?_ | refine zB hX hL ?_ | (refine zS hX hL ?_; clear hL; intro w hL) | refine zI ?_ | refine zG hX ?_ | refine zO ?_); conv => whnf)
        refine ⟨(k + 1, false), ⟨⟨by simp only at hlt2 ⊢; omega, hnx.symm⟩, hL⟩, by first | omega | (simp only; omega) | (simp only [List.length_cons, List.length_append]; omega), ?_, ?_⟩
        · repeat (first | exact trivial | (refine And.intro (by (conv => lhs; whnf) <;> (conv => rhs; whnf) <;> (first | rfl)) ?_))
        · repeat (first | exact trivial | (refine And.intro (by (conv => lhs; whnf) <;> (conv => rhs; whnf) <;> (first | rfl)) ?_))
    · have ek : k = f1[j].length := by simp only at hlt2; omega
      rw [ek, List.take_length] at hbv
      conv => whnf
      repeat ((first | refine zT ?_ | refine zF ?_ | refine zL hX hL ?_ | refine zB hX hL ?_ | (refine zS hX hL ?_; clear hL; intro w hL) | refine zI ?_ | refine zG hX ?_ | refine zO ?_); conv => whnf)
      refine BrReq.bool (fun hb => ?_) (fun hb => ?_)
      · have hh : holdsP f1 l2 := ⟨f1[j], List.getElem_mem hj1, subB_iff.1 (hbv.symm.trans hb)⟩
        rw [dec_t hh]
        conv => whnf
        repeat ((first | refine zT ?_ | refine zF ?_ | refine zL hX hL ?_ | refine zB hX hL ?_ | (refine zS hX hL ?_; clear hL; intro w hL) | refine zI ?_ | refine zG hX ?_ | refine zO ?_); conv => whnf)
        exact RetReq.bool hL rfl
      · have hstep : ∀ p ∈ f1.take (j + 1), ¬ subP p l2 := fun p hp hs => by
          rw [take_succ' hj1] at hp
          rcases List.mem_append.1 hp with hp | hp
          · exact hno p hp hs
          · rw [List.mem_singleton.1 hp] at hs
            have := subB_iff.2 hs
            have hb' : b = false := hb
            rw [← hbv, hb'] at this; cases this
        conv => whnf
        repeat ((first | refine zT ?_ | refine zF ?_ | refine zL hX hL ?_ | refine zB hX hL ?_ | (refine zS hX hL ?_; clear hL; intro w hL) | refine zI ?_ | refine zG hX ?_ | refine zO ?_); conv => whnf)
        refine ⟨j + 1, ⟨⟨by omega, hstep⟩, hL⟩, by first | omega | (simp only; omega) | (simp only [List.length_cons, List.length_append]; omega), ?_, ?_⟩
        · repeat (first | exact trivial | (refine And.intro (by (conv => lhs; whnf) <;> (conv => rhs; whnf) <;> (first | rfl)) ?_))
        · repeat (first | exact trivial | (refine And.intro (by (conv => lhs; whnf) <;> (conv => rhs; whnf) <;> (first | rfl)) ?_))
  · have ej : j = f1.length := by omega
    rw [ej, List.take_length] at hno
    have hh : ¬ holdsP f1 l2 := fun ⟨p, hp, hs⟩ => hno p hp hs
    rw [dec_f hh]
    conv => whnf
    repeat ((first | refine zT ?_ | refine zF ?_ | refine zL hX hL ?_ | refine zB hX hL ?_ | (refine zS hX hL ?_; clear hL; intro w hL) | refine zI ?_ | refine zG hX ?_ | refine zO ?_); conv => whnf)
    exact RetReq.bool hL rfl

set_option maxHeartbeats 4000000 in
theorem refFormed_fn (m : Mem) (v1 : Value) (f1 : List (List Int)) (h1 : FmV m v1 f1) : Fn0 Try.prog 7 [v1] m fun _ u => u = .bool (dec (FormedP f1)) := by
  have hmx : maxLen = 9223372036854775807 := rfl
  have h1' := h1
  obtain ⟨A1, n1, c1, rfl, hn1, hc1, hm1, -⟩ := h1
  refine Fn.enter (N := 81) hX Try.func7 rfl rfl (by show _ ≤ _; simp) (fun w0 hL => ?_)
  conv => whnf
  conv => whnf
  repeat ((first | refine zT ?_ | refine zF ?_ | refine zL hX hL ?_ | refine zB hX hL ?_ | (refine zS hX hL ?_; clear hL; intro w hL) | refine zI ?_ | refine zG hX ?_ | refine zO ?_); conv => whnf)
  refine LoopReq.inv hX (fun j : Nat => [(8, .int .i64 j)]) [0, 7]
    (fun j w => (j ≤ n1 ∧ FormedP (f1.take j)) ∧ Ev.Loc m [] w0 m [] w) (fun j => n1 - j) 0
    ⟨⟨by omega, by rw [List.take_zero]; exact FormedP.nil⟩, hL⟩ ⟨rfl, trivial⟩ ?_
  clear hL
  rintro j w f ⟨⟨hj, hfm⟩, hL⟩
  conv => whnf
  repeat ((first | refine zT ?_ | refine zF ?_ | refine zL hX hL ?_ | refine zB hX hL ?_ | (refine zS hX hL ?_; clear hL; intro w hL) | refine zI ?_ | refine zG hX ?_ | refine zO ?_); conv => whnf)
  refine BrReq.dec (fun hlt => ?_) (fun hlt => ?_)
  · have hj1 : j < f1.length := by omega
    obtain ⟨a1, A3, n3, c3, rfl, hx1, hp1⟩ := h1'.at_ hj1
    have hpn1 := hp1.len
    have he1 := hp1.cell.2
    conv => whnf
    repeat ((first | refine Idx2Req.mk j a1 rfl (by omega) rfl ?_ | refine LdReq.one hX rfl rfl hL hx1 ?_ | refine zT ?_ | refine zF ?_ | refine zL hX hL ?_ | refine zB hX hL ?_ | (refine zS hX hL ?_; clear hL; intro w hL) | refine zI ?_ | refine zG hX ?_ | refine zO ?_); conv => whnf)
    refine LoopReq.inv hX (fun k : Nat => [(16, .int .i64 k)]) [0, 3, 7, 8, 15]
      (fun k w => (k ≤ n3 ∧ Rises (f1[j].take k)) ∧ Ev.Loc m [] w0 m [] w) (fun k => n3 - k) 0
      ⟨⟨by omega, by simp [Rises]⟩, hL⟩ ⟨rfl, trivial⟩ ?_
    clear hL
    rintro k w g ⟨⟨hk, hri⟩, hL⟩
    conv => whnf
    repeat ((first | refine zT ?_ | refine zF ?_ | refine zL hX hL ?_ | refine zB hX hL ?_ | (refine zS hX hL ?_; clear hL; intro w hL) | refine zI ?_ | refine zG hX ?_ | refine zO ?_); conv => whnf)
    refine BrReq.dec (fun hlt2 => ?_) (fun hlt2 => ?_)
    · have hk1 : k < f1[j].length := by omega
      obtain ⟨b1, rfl, hy1⟩ := he1 k _ (List.getElem?_eq_getElem hk1)
      conv => whnf
      repeat ((first | refine zT ?_ | refine zF ?_ | refine zL hX hL ?_ | refine zB hX hL ?_ | (refine zS hX hL ?_; clear hL; intro w hL) | refine zI ?_ | refine zG hX ?_ | refine zO ?_); conv => whnf)
      have hk0 : 0 < k → mcell m (b1.add (scale (k - 1) 1)) = some (.int .i64 f1[j][k - 1]) := fun h0 => by
        obtain ⟨b2, e, hy2⟩ := he1 (k - 1) _ (List.getElem?_eq_getElem (by omega))
        injection e with e; subst e
        rw [scale_eq, Nat.mul_one]; exact hy2
      have hjm : f1[j] ∈ f1 := List.getElem_mem hj1
      refine DrawReq.plan hX (.fst 0 (.fst 1 (.fst 2 (.fst 3 (.fst 4 (.fst 5 (.fst 6 (.fst 7 (.fst 8 (.fst 9 (.fst 10 (.fst 11 (.fst 12 (.fst 13 (.fst 14 (.fst 15 (.fst 16 (.fst 17 (.fst 18 (.fst 19 (.fst 20 (.fst 21 (.fst 22 (.fst 23 (.fst 24 (.fst 25 (.fst 26 (.fst 27 (.fst 28 (.fst 29 (.done))))))))))))))))))))))))))))))) [] (by kernel_rfl) (by kernel_rfl) hL id ?_
      clear hL
      intro w hL
      conv => whnf
      repeat ((first | refine Idx2Req.mk j a1 rfl (by omega) rfl ?_ | refine QLdReq.one hX rfl rfl hx1 ?_ | refine Idx2Req.mk k b1 rfl (by omega) rfl ?_ | (refine QLdReq.one hX rfl rfl (by rw [scale_eq, Nat.mul_one]; exact hy1) ?_) | refine Idx2Req.mk (k - 1) b1 (by omega) (by omega) rfl ?_ | refine QLdReq.one hX rfl rfl (hk0 (by omega)) ?_ | refine zQ hX ?_ | refine zR hX ?_ | refine zA ?_ | refine zT ?_ | refine zF ?_ | refine zL hX hL ?_ | refine zB hX hL ?_ | (refine zS hX hL ?_; clear hL; intro w hL) | refine zI ?_ | refine zG hX ?_ | refine zO ?_); conv => whnf)
      refine BrReq.dec (fun hz => ?_) (fun hz => ?_)
      · have hno : ¬ FormedP f1 := fun hf => by have := (hf.rises _ hjm).1 _ (List.getElem_mem hk1); omega
        rw [dec_f hno]
        conv => whnf
        repeat ((first | refine Idx2Req.mk j a1 rfl (by omega) rfl ?_ | refine QLdReq.one hX rfl rfl hx1 ?_ | refine Idx2Req.mk k b1 rfl (by omega) rfl ?_ | (refine QLdReq.one hX rfl rfl (by rw [scale_eq, Nat.mul_one]; exact hy1) ?_) | refine Idx2Req.mk (k - 1) b1 (by omega) (by omega) rfl ?_ | refine QLdReq.one hX rfl rfl (hk0 (by omega)) ?_ | refine zQ hX ?_ | refine zR hX ?_ | refine zA ?_ | refine zT ?_ | refine zF ?_ | refine zL hX hL ?_ | refine zB hX hL ?_ | (refine zS hX hL ?_; clear hL; intro w hL) | refine zI ?_ | refine zG hX ?_ | refine zO ?_); conv => whnf)
        exact RetReq.mk hL ⟨rfl, rfl⟩
      · conv => whnf
        repeat ((first | refine Idx2Req.mk j a1 rfl (by omega) rfl ?_ | refine QLdReq.one hX rfl rfl hx1 ?_ | refine Idx2Req.mk k b1 rfl (by omega) rfl ?_ | (refine QLdReq.one hX rfl rfl (by rw [scale_eq, Nat.mul_one]; exact hy1) ?_) | refine Idx2Req.mk (k - 1) b1 (by omega) (by omega) rfl ?_ | refine QLdReq.one hX rfl rfl (hk0 (by omega)) ?_ | refine zQ hX ?_ | refine zR hX ?_ | refine zA ?_ | refine zT ?_ | refine zF ?_ | refine zL hX hL ?_ | refine zB hX hL ?_ | (refine zS hX hL ?_; clear hL; intro w hL) | refine zI ?_ | refine zG hX ?_ | refine zO ?_); conv => whnf)
        refine BrReq.dec (fun hz2 => ?_) (fun hz2 => ?_)
        · conv => whnf
          repeat ((first | refine Idx2Req.mk j a1 rfl (by omega) rfl ?_ | refine QLdReq.one hX rfl rfl hx1 ?_ | refine Idx2Req.mk k b1 rfl (by omega) rfl ?_ | (refine QLdReq.one hX rfl rfl (by rw [scale_eq, Nat.mul_one]; exact hy1) ?_) | refine Idx2Req.mk (k - 1) b1 (by omega) (by omega) rfl ?_ | refine QLdReq.one hX rfl rfl (hk0 (by omega)) ?_ | refine zQ hX ?_ | refine zR hX ?_ | refine zA ?_ | refine zT ?_ | refine zF ?_ | refine zL hX hL ?_ | refine zB hX hL ?_ | (refine zS hX hL ?_; clear hL; intro w hL) | refine zI ?_ | refine zG hX ?_ | refine zO ?_); conv => whnf)
          refine BrReq.dec (fun hz3 => ?_) (fun hz3 => ?_)
          · have hno : ¬ FormedP f1 := fun hf => by have := List.pairwise_iff_getElem.1 (hf.rises _ hjm).2 (k - 1) k (by omega) hk1 (by omega); omega
            rw [dec_f hno]
            conv => whnf
            repeat ((first | refine Idx2Req.mk j a1 rfl (by omega) rfl ?_ | refine QLdReq.one hX rfl rfl hx1 ?_ | refine Idx2Req.mk k b1 rfl (by omega) rfl ?_ | (refine QLdReq.one hX rfl rfl (by rw [scale_eq, Nat.mul_one]; exact hy1) ?_) | refine Idx2Req.mk (k - 1) b1 (by omega) (by omega) rfl ?_ | refine QLdReq.one hX rfl rfl (hk0 (by omega)) ?_ | refine zQ hX ?_ | refine zR hX ?_ | refine zA ?_ | refine zT ?_ | refine zF ?_ | refine zL hX hL ?_ | refine zB hX hL ?_ | (refine zS hX hL ?_; clear hL; intro w hL) | refine zI ?_ | refine zG hX ?_ | refine zO ?_); conv => whnf)
            exact RetReq.mk hL ⟨rfl, rfl⟩
          · have hr2 : Rises (f1[j].take (k + 1)) := by
              rw [take_succ' hk1]
              refine rises_snoc hri (by omega) fun q hq => ?_
              rw [take_last (by omega) (by omega), List.getElem?_eq_getElem (by omega)] at hq
              cases hq; omega
            conv => whnf
            repeat ((first | refine Idx2Req.mk j a1 rfl (by omega) rfl ?_ | refine QLdReq.one hX rfl rfl hx1 ?_ | refine Idx2Req.mk k b1 rfl (by omega) rfl ?_ | (refine QLdReq.one hX rfl rfl (by rw [scale_eq, Nat.mul_one]; exact hy1) ?_) | refine Idx2Req.mk (k - 1) b1 (by omega) (by omega) rfl ?_ | refine QLdReq.one hX rfl rfl (hk0 (by omega)) ?_ | refine zQ hX ?_ | refine zR hX ?_ | refine zA ?_ | refine zT ?_ | refine zF ?_ | refine zL hX hL ?_ | refine zB hX hL ?_ | (refine zS hX hL ?_; clear hL; intro w hL) | refine zI ?_ | refine zG hX ?_ | refine zO ?_); conv => whnf)
            refine ⟨k + 1, ⟨⟨by omega, hr2⟩, hL⟩, by first | omega | (simp only; omega) | (simp only [List.length_cons, List.length_append]; omega), ?_, ?_⟩
            · repeat (first | exact trivial | (refine And.intro (by (conv => lhs; whnf) <;> (conv => rhs; whnf) <;> (first | rfl)) ?_))
            · repeat (first | exact trivial | (refine And.intro (by (conv => lhs; whnf) <;> (conv => rhs; whnf) <;> (first | rfl)) ?_))
        · have hr2 : Rises (f1[j].take (k + 1)) := by
            rw [take_succ' hk1]
            have : k = 0 := by omega
            refine rises_snoc hri (by omega) fun q hq => by rw [this] at hq; simp at hq
          conv => whnf
          repeat ((first | refine Idx2Req.mk j a1 rfl (by omega) rfl ?_ | refine QLdReq.one hX rfl rfl hx1 ?_ | refine Idx2Req.mk k b1 rfl (by omega) rfl ?_ | (refine QLdReq.one hX rfl rfl (by rw [scale_eq, Nat.mul_one]; exact hy1) ?_) | refine Idx2Req.mk (k - 1) b1 (by omega) (by omega) rfl ?_ | refine QLdReq.one hX rfl rfl (hk0 (by omega)) ?_ | refine zQ hX ?_ | refine zR hX ?_ | refine zA ?_ | refine zT ?_ | refine zF ?_ | refine zL hX hL ?_ | refine zB hX hL ?_ | (refine zS hX hL ?_; clear hL; intro w hL) | refine zI ?_ | refine zG hX ?_ | refine zO ?_); conv => whnf)
          refine ⟨k + 1, ⟨⟨by omega, hr2⟩, hL⟩, by first | omega | (simp only; omega) | (simp only [List.length_cons, List.length_append]; omega), ?_, ?_⟩
          · repeat (first | exact trivial | (refine And.intro (by (conv => lhs; whnf) <;> (conv => rhs; whnf) <;> (first | rfl)) ?_))
          · repeat (first | exact trivial | (refine And.intro (by (conv => lhs; whnf) <;> (conv => rhs; whnf) <;> (first | rfl)) ?_))
    · have ek : k = f1[j].length := by omega
      rw [ek, List.take_length] at hri
      conv => whnf
      repeat ((first | refine zT ?_ | refine zF ?_ | refine zL hX hL ?_ | refine zB hX hL ?_ | (refine zS hX hL ?_; clear hL; intro w hL) | refine zI ?_ | refine zG hX ?_ | refine zO ?_); conv => whnf)
      refine DrawReq.plan hX (.fst 0 (.fst 1 (.fst 2 (.fst 3 (.fst 4 (.fst 5 (.fst 6 (.fst 7 (.fst 8 (.fst 9 (.fst 10 (.fst 11 (.alt 12 (.fst 13 (.fst 14 (.done))) (.stop)))))))))))))) [] (by kernel_rfl) (by kernel_rfl) hL id ?_
      clear hL
      intro w hL
      have hj0 : ∀ i, (hi : i < f1.length) → ∃ A n c, mcell m (a1.add (scale i 1)) = some (.slice A n c) ∧ SlI m .i64 (.slice A n c) f1[i] := fun i hi => by
        obtain ⟨a2, A5, n5, c5, e, hx2, hp2⟩ := h1'.at_ hi
        injection e with e; subst e
        exact ⟨_, _, _, hx2, hp2⟩
      conv => whnf
      repeat ((first | refine Idx2Req.mk j a1 rfl (by omega) rfl ?_ | refine QLdReq.one hX rfl rfl hx1 ?_ | refine zQ hX ?_ | refine zR hX ?_ | refine zA ?_ | refine zT ?_ | refine zF ?_ | refine zL hX hL ?_ | refine zB hX hL ?_ | (refine zS hX hL ?_; clear hL; intro w hL) | refine zI ?_ | refine zG hX ?_ | refine zO ?_); conv => whnf)
      refine BrReq.dec (fun hz => ?_) (fun hz => ?_)
      · have hj2 : j - 1 < f1.length := by omega
        obtain ⟨A5, n5, c5, hx5, hp5⟩ := hj0 (j - 1) hj2
        conv => whnf
        repeat ((first | refine Idx2Req.mk j a1 rfl (by omega) rfl ?_ | refine QLdReq.one hX rfl rfl hx1 ?_ | refine Idx2Req.mk (j - 1) a1 (by omega) (by omega) rfl ?_ | refine QLdReq.one hX rfl rfl hx5 ?_ | refine zQ hX ?_ | refine zR hX ?_ | refine zA ?_ | refine zT ?_ | refine zF ?_ | refine zL hX hL ?_ | refine zB hX hL ?_ | (refine zS hX hL ?_; clear hL; intro w hL) | refine zI ?_ | refine zG hX ?_ | refine zO ?_); conv => whnf)
        refine CallReq.val (less_fn m _ _ _ _ hp5 hp1) hL ?_
        clear hL
        intro w hL
        conv => whnf
        refine SReq.mk hL ?_
        by_cases hls : lessP f1[j - 1] f1[j]
        · rw [dec_t hls]
          conv => whnf
          repeat ((first | refine Idx2Req.mk j a1 rfl (by omega) rfl ?_ | refine QLdReq.one hX rfl rfl hx1 ?_ | refine zQ hX ?_ | refine zR hX ?_ | refine zA ?_ | refine zT ?_ | refine zF ?_ | refine zL hX hL ?_ | refine zB hX hL ?_ | (refine zS hX hL ?_; clear hL; intro w hL) | refine zI ?_ | refine zG hX ?_ | refine zO ?_); conv => whnf)
          refine LoopReq.inv hX (fun k : Nat => [(66, .int .i64 k)]) [0, 3, 7, 8, 65]
            (fun k w => (k ≤ j ∧ ∀ q ∈ f1.take k, ¬ subP q f1[j]) ∧ Ev.Loc m [] w0 m [] w) (fun k => j - k) 0
            ⟨⟨by omega, fun q hq => by simp at hq⟩, hL⟩ ⟨rfl, trivial⟩ ?_
          clear hL
          rintro k w g ⟨⟨hk, hap⟩, hL⟩
          conv => whnf
          repeat ((first | refine zT ?_ | refine zF ?_ | refine zL hX hL ?_ | refine zB hX hL ?_ | (refine zS hX hL ?_; clear hL; intro w hL) | refine zI ?_ | refine zG hX ?_ | refine zO ?_); conv => whnf)
          refine BrReq.dec (fun hlt2 => ?_) (fun hlt2 => ?_)
          · have hk1 : k < f1.length := by omega
            obtain ⟨A6, n6, c6, hx6, hp6⟩ := hj0 k hk1
            conv => whnf
            repeat ((first | refine zT ?_ | refine zF ?_ | refine zL hX hL ?_ | refine zB hX hL ?_ | (refine zS hX hL ?_; clear hL; intro w hL) | refine zI ?_ | refine zG hX ?_ | refine zO ?_); conv => whnf)
            refine DrawReq.plan hX (.fst 0 (.fst 1 (.fst 2 (.fst 3 (.fst 5 (.fst 6 (.fst 7 (.fst 8 (.alt 4 (.alt 9 (.done) (.stop)) (.stop)))))))))) [] (by kernel_rfl) (by kernel_rfl) hL (fun h => h.sublist (List.nil_sublist _)) ?_
            clear hL
            intro w hL
            conv => whnf
            repeat ((first | refine Idx2Req.mk j a1 rfl (by omega) rfl ?_ | refine QLdReq.one hX rfl rfl hx1 ?_ | refine Idx2Req.mk k a1 rfl (by omega) rfl ?_ | refine QLdReq.one hX rfl rfl hx6 ?_ | refine zQ hX ?_ | refine zR hX ?_ | refine zA ?_ | refine zT ?_ | refine zF ?_ | refine zL hX hL ?_ | refine zB hX hL ?_ | (refine zS hX hL ?_; clear hL; intro w hL) | refine zI ?_ | refine zG hX ?_ | refine zO ?_); conv => whnf)
            refine NewReq.mk hL ?_
            clear hL
            intro b73 w hL
            replace hL : Ev.Loc m [] w0 m ([(b73, .cells (toArr [.slice A6 n6 c6]) 34 (0, 0))] ++ []) w := hL
            conv => whnf
            refine SReq.mk (hL.sublist (List.nil_sublist _)) ?_
            conv => whnf
            refine AltReq.one ?_
            conv => whnf
            obtain ⟨m1, hL1, hle1, hf1⟩ := fm_freeze (f := [f1[k]]) (OwnS.full (n := 1) (by decide) rfl) hL rfl (by
              intro i p hp
              cases i with
              | zero => cases hp; exact ⟨_, rfl, hp6⟩
              | succ i => cases hp)
            refine CallReq.pure (refHolds_fn m1 _ _ _ _ hf1 (hp1.le' hle1)) hL1 ?_
            clear hL hL1
            rintro u m' w hL hle rfl
            replace hL := hL.weaken (hle1.trans hle) (Mem.Le.refl _)
            conv => whnf
            refine SReq.mk hL ?_
            by_cases hs : subP f1[k] f1[j]
            · have hh : holdsP [f1[k]] f1[j] := ⟨_, by simp, hs⟩
              have hno : ¬ FormedP f1 := fun hf => List.pairwise_iff_getElem.1 hf.apart k j hk1 hj1 (by omega) hs
              rw [dec_t hh, dec_f hno]
              conv => whnf
              repeat ((first | refine zQ hX ?_ | refine zR hX ?_ | refine zA ?_ | refine zT ?_ | refine zF ?_ | refine zL hX hL ?_ | refine zB hX hL ?_ | (refine zS hX hL ?_; clear hL; intro w hL) | refine zI ?_ | refine zG hX ?_ | refine zO ?_); conv => whnf)
              exact RetReq.mk hL ⟨rfl, rfl⟩
            · have hh : ¬ holdsP [f1[k]] f1[j] := fun ⟨p, hp, h⟩ => by rw [List.mem_singleton.1 hp] at h; exact hs h
              have hap2 : ∀ q ∈ f1.take (k + 1), ¬ subP q f1[j] := fun q hq => by
                rw [take_succ' hk1] at hq
                rcases List.mem_append.1 hq with hq | hq
                · exact hap q hq
                · rw [List.mem_singleton.1 hq]; exact hs
              rw [dec_f hh]
              conv => whnf
              repeat ((first | refine zQ hX ?_ | refine zR hX ?_ | refine zA ?_ | refine zT ?_ | refine zF ?_ | refine zL hX hL ?_ | refine zB hX hL ?_ | (refine zS hX hL ?_; clear hL; intro w hL) | refine zI ?_ | refine zG hX ?_ | refine zO ?_); conv => whnf)
              refine ⟨k + 1, ⟨⟨by omega, hap2⟩, hL⟩, by first | omega | (simp only; omega) | (simp only [List.length_cons, List.length_append]; omega), ?_, ?_⟩
              · repeat (first | exact trivial | (refine And.intro (by (conv => lhs; whnf) <;> (conv => rhs; whnf) <;> (first | rfl)) ?_))
              · repeat (first | exact trivial | (refine And.intro (by (conv => lhs; whnf) <;> (conv => rhs; whnf) <;> (first | rfl)) ?_))
          · have ek2 : k = j := by omega
            rw [ek2] at hap
            have hfm2 : FormedP (f1.take (j + 1)) := by
              rw [take_succ' hj1]
              exact hfm.snoc hri (fun q hq => by rw [take_last (by omega) (by omega), List.getElem?_eq_getElem hj2] at hq; cases hq; exact hls) hap
            conv => whnf
            repeat ((first | refine zT ?_ | refine zF ?_ | refine zL hX hL ?_ | refine zB hX hL ?_ | (refine zS hX hL ?_; clear hL; intro w hL) | refine zI ?_ | refine zG hX ?_ | refine zO ?_); conv => whnf)
            refine ⟨j + 1, ⟨⟨by omega, hfm2⟩, hL⟩, by first | omega | (simp only; omega) | (simp only [List.length_cons, List.length_append]; omega), ?_, ?_⟩
            · repeat (first | exact trivial | (refine And.intro (by (conv => lhs; whnf) <;> (conv => rhs; whnf) <;> (first | rfl)) ?_))
            · repeat (first | exact trivial | (refine And.intro (by (conv => lhs; whnf) <;> (conv => rhs; whnf) <;> (first | rfl)) ?_))
        · have hno : ¬ FormedP f1 := fun hf => hls (List.pairwise_iff_getElem.1 hf.less (j - 1) j hj2 hj1 (by omega))
          rw [dec_f hls, dec_f hno]
          conv => whnf
          repeat ((first | refine Idx2Req.mk j a1 rfl (by omega) rfl ?_ | refine QLdReq.one hX rfl rfl hx1 ?_ | refine zQ hX ?_ | refine zR hX ?_ | refine zA ?_ | refine zT ?_ | refine zF ?_ | refine zL hX hL ?_ | refine zB hX hL ?_ | (refine zS hX hL ?_; clear hL; intro w hL) | refine zI ?_ | refine zG hX ?_ | refine zO ?_); conv => whnf)
          exact RetReq.mk hL ⟨rfl, rfl⟩
      · have ej0 : j = 0 := by omega
        conv => whnf
        repeat ((first | refine Idx2Req.mk j a1 rfl (by omega) rfl ?_ | refine QLdReq.one hX rfl rfl hx1 ?_ | refine zQ hX ?_ | refine zR hX ?_ | refine zA ?_ | refine zT ?_ | refine zF ?_ | refine zL hX hL ?_ | refine zB hX hL ?_ | (refine zS hX hL ?_; clear hL; intro w hL) | refine zI ?_ | refine zG hX ?_ | refine zO ?_); conv => whnf)
        refine LoopReq.inv hX (fun k : Nat => [(66, .int .i64 k)]) [0, 3, 7, 8, 65]
          (fun k w => (k ≤ j ∧ ∀ q ∈ f1.take k, ¬ subP q f1[j]) ∧ Ev.Loc m [] w0 m [] w) (fun k => j - k) 0
          ⟨⟨by omega, fun q hq => by simp at hq⟩, hL⟩ ⟨rfl, trivial⟩ ?_
        clear hL
        rintro k w g ⟨⟨hk, hap⟩, hL⟩
        conv => whnf
        repeat ((first | refine zT ?_ | refine zF ?_ | refine zL hX hL ?_ | refine zB hX hL ?_ | (refine zS hX hL ?_; clear hL; intro w hL) | refine zI ?_ | refine zG hX ?_ | refine zO ?_); conv => whnf)
        refine BrReq.dec (fun hlt2 => ?_) (fun hlt2 => ?_)
        · have hk1 : k < f1.length := by omega
          obtain ⟨A6, n6, c6, hx6, hp6⟩ := hj0 k hk1
          conv => whnf
          repeat ((first | refine zT ?_ | refine zF ?_ | refine zL hX hL ?_ | refine zB hX hL ?_ | (refine zS hX hL ?_; clear hL; intro w hL) | refine zI ?_ | refine zG hX ?_ | refine zO ?_); conv => whnf)
          refine DrawReq.plan hX (.fst 0 (.fst 1 (.fst 2 (.fst 3 (.fst 5 (.fst 6 (.fst 7 (.fst 8 (.alt 4 (.alt 9 (.done) (.stop)) (.stop)))))))))) [] (by kernel_rfl) (by kernel_rfl) hL (fun h => h.sublist (List.nil_sublist _)) ?_
          clear hL
          intro w hL
          conv => whnf
          repeat ((first | refine Idx2Req.mk j a1 rfl (by omega) rfl ?_ | refine QLdReq.one hX rfl rfl hx1 ?_ | refine Idx2Req.mk k a1 rfl (by omega) rfl ?_ | refine QLdReq.one hX rfl rfl hx6 ?_ | refine zQ hX ?_ | refine zR hX ?_ | refine zA ?_ | refine zT ?_ | refine zF ?_ | refine zL hX hL ?_ | refine zB hX hL ?_ | (refine zS hX hL ?_; clear hL; intro w hL) | refine zI ?_ | refine zG hX ?_ | refine zO ?_); conv => whnf)
          refine NewReq.mk hL ?_
          clear hL
          intro b73 w hL
          replace hL : Ev.Loc m [] w0 m ([(b73, .cells (toArr [.slice A6 n6 c6]) 34 (0, 0))] ++ []) w := hL
          conv => whnf
          refine SReq.mk (hL.sublist (List.nil_sublist _)) ?_
          conv => whnf
          refine AltReq.one ?_
          conv => whnf
          obtain ⟨m1, hL1, hle1, hf1⟩ := fm_freeze (f := [f1[k]]) (OwnS.full (n := 1) (by decide) rfl) hL rfl (by
            intro i p hp
            cases i with
            | zero => cases hp; exact ⟨_, rfl, hp6⟩
            | succ i => cases hp)
          refine CallReq.pure (refHolds_fn m1 _ _ _ _ hf1 (hp1.le' hle1)) hL1 ?_
          clear hL hL1
          rintro u m' w hL hle rfl
          replace hL := hL.weaken (hle1.trans hle) (Mem.Le.refl _)
          conv => whnf
          refine SReq.mk hL ?_
          by_cases hs : subP f1[k] f1[j]
          · have hh : holdsP [f1[k]] f1[j] := ⟨_, by simp, hs⟩
            have hno : ¬ FormedP f1 := fun hf => List.pairwise_iff_getElem.1 hf.apart k j hk1 hj1 (by omega) hs
            rw [dec_t hh, dec_f hno]
            conv => whnf
            repeat ((first | refine zQ hX ?_ | refine zR hX ?_ | refine zA ?_ | refine zT ?_ | refine zF ?_ | refine zL hX hL ?_ | refine zB hX hL ?_ | (refine zS hX hL ?_; clear hL; intro w hL) | refine zI ?_ | refine zG hX ?_ | refine zO ?_); conv => whnf)
            exact RetReq.mk hL ⟨rfl, rfl⟩
          · have hh : ¬ holdsP [f1[k]] f1[j] := fun ⟨p, hp, h⟩ => by rw [List.mem_singleton.1 hp] at h; exact hs h
            have hap2 : ∀ q ∈ f1.take (k + 1), ¬ subP q f1[j] := fun q hq => by
              rw [take_succ' hk1] at hq
              rcases List.mem_append.1 hq with hq | hq
              · exact hap q hq
              · rw [List.mem_singleton.1 hq]; exact hs
            rw [dec_f hh]
            conv => whnf
            repeat ((first | refine zQ hX ?_ | refine zR hX ?_ | refine zA ?_ | refine zT ?_ | refine zF ?_ | refine zL hX hL ?_ | refine zB hX hL ?_ | (refine zS hX hL ?_; clear hL; intro w hL) | refine zI ?_ | refine zG hX ?_ | refine zO ?_); conv => whnf)
            refine ⟨k + 1, ⟨⟨by omega, hap2⟩, hL⟩, by first | omega | (simp only; omega) | (simp only [List.length_cons, List.length_append]; omega), ?_, ?_⟩
            · repeat (first | exact trivial | (refine And.intro (by (conv => lhs; whnf) <;> (conv => rhs; whnf) <;> (first | rfl)) ?_))
            · repeat (first | exact trivial | (refine And.intro (by (conv => lhs; whnf) <;> (conv => rhs; whnf) <;> (first | rfl)) ?_))
        · have ek2 : k = j := by omega
          rw [ek2] at hap
          have hfm2 : FormedP (f1.take (j + 1)) := by
            rw [take_succ' hj1]
            exact hfm.snoc hri (fun q hq => by rw [ej0] at hq; simp at hq) hap
          conv => whnf
          repeat ((first | refine zT ?_ | refine zF ?_ | refine zL hX hL ?_ | refine zB hX hL ?_ | (refine zS hX hL ?_; clear hL; intro w hL) | refine zI ?_ | refine zG hX ?_ | refine zO ?_); conv => whnf)
          refine ⟨j + 1, ⟨⟨by omega, hfm2⟩, hL⟩, by first | omega | (simp only; omega) | (simp only [List.length_cons, List.length_append]; omega), ?_, ?_⟩
          · repeat (first | exact trivial | (refine And.intro (by (conv => lhs; whnf) <;> (conv => rhs; whnf) <;> (first | rfl)) ?_))
          · repeat (first | exact trivial | (refine And.intro (by (conv => lhs; whnf) <;> (conv => rhs; whnf) <;> (first | rfl)) ?_))
  · have ej : j = f1.length := by omega
    rw [ej, List.take_length] at hfm
    rw [dec_t hfm]
    conv => whnf
    repeat ((first | refine zT ?_ | refine zF ?_ | refine zL hX hL ?_ | refine zB hX hL ?_ | (refine zS hX hL ?_; clear hL; intro w hL) | refine zI ?_ | refine zG hX ?_ | refine zO ?_); conv => whnf)
    exact RetReq.mk hL ⟨rfl, rfl⟩
end Go.Proofs.Ytnpgllgmcdhmcaa.fo
