/- The document's answers on patterns: great, formed. Conditions: none. -/
import Derived.Test.YtpdiljdklllmjaaGreatTreeForm

namespace Go.Proofs.YtpdiljdklllmjaaGreat.tree
open Go Go.Ev Go.Proofs

theorem refSize_fn (r : Re) : ∀ (m : Mem) (cs : List Value), RepRe m cs r → FnV Tryz.prog 7 [.agg (toArr cs)] m (.int .i64 (sizeR r : Nat)) := by
  induction r using Re.ind with
  | h kd s0 s1 s2 s3 rs lo hi neg ih =>
    intro m cs h
    obtain ⟨A, n, c, rfl, hs, hk, -, -, -, -, hlo, hhi⟩ := h.open
    obtain ⟨hn, hc, hm⟩ := hs.lens
    have hmx : maxLen = 9223372036854775807 := rfl
    have he := hs.elem
    refine Fn.enter (N := 45) hX Tryz.func7 rfl rfl (by show _ ≤ _; simp) (fun w0 hL => ?_)
    conv => whnf
    refine NewReq.mk hL ?_
    clear hL
    intro b1 w hL
    conv => whnf
    conv => whnf
    repeat ((first | refine zT ?_ | refine zF ?_ | refine zL hX hL ?_ | refine zB hX hL ?_ | (refine zS hX hL ?_; clear hL; intro w hL) | refine zI ?_ | refine zG hX ?_ | refine zO ?_); conv => whnf)
    refine LoopReq.inv hX (fun q : Nat × Nat => [(3, .int .i64 q.1), (9, .int .i64 q.2)]) [1, 8]
      (fun q w => (q.2 ≤ n ∧ q.1 = min (sizeL (rs.take q.2)) 1001) ∧ Ev.Loc m [] w0 m [(b1, .cells (toArr (reC kd s0 s1 s2 s3 (.slice A n c) lo hi neg)) 27 (0, 0))] w) (fun q => n - q.2) (0, 0)
      ⟨⟨by simp, rfl⟩, hL⟩ ⟨rfl, rfl, trivial⟩ ?_
    clear hL
    rintro ⟨q, j⟩ w f ⟨⟨hj, hsum⟩, hL⟩
    simp only at hj hsum
    conv => whnf
    repeat ((first | refine zT ?_ | refine zF ?_ | refine zL hX hL ?_ | refine zB hX hL ?_ | (refine zS hX hL ?_; clear hL; intro w hL) | refine zI ?_ | refine zG hX ?_ | refine zO ?_); conv => whnf)
    refine BrReq.dec (fun hlt => ?_) (fun hlt => ?_)
    · have hlt' : j < rs.length := by omega
      have hstep := sizeL_take_succ rs j hlt'
      have hpl := sizeR_le rs[j]
      obtain ⟨a, cs', rfl, hl9, hcells, hrep⟩ := he j _ (List.getElem?_eq_getElem hlt')
      obtain ⟨k1, u0, u1, u2, u3, A1, n1, c1, lo1, hi1, neg1, rfl⟩ := hrep.form
      conv => whnf
      repeat ((first | refine Idx2Req.mk j a rfl (by omega) rfl ?_ | refine LdReq.agg hX rfl rfl hL hl9 hcells ?_ | refine zT ?_ | refine zF ?_ | refine zL hX hL ?_ | refine zB hX hL ?_ | (refine zS hX hL ?_; clear hL; intro w hL) | refine zI ?_ | refine zG hX ?_ | refine zO ?_); conv => whnf)
      refine CallReq.val (ih _ (List.getElem_mem hlt') m _ hrep) hL ?_
      clear hL
      intro w hL
      conv => whnf
      repeat ((first | refine zT ?_ | refine zF ?_ | refine zL hX hL ?_ | refine zB hX hL ?_ | (refine zS hX hL ?_; clear hL; intro w hL) | refine zI ?_ | refine zG hX ?_ | refine zO ?_); conv => whnf)
      refine ⟨(min (q + sizeR rs[j]) 1001, j + 1), ⟨⟨by simp only; omega, by simp only; omega⟩, hL⟩, by first | omega | (simp only; omega), ?_, ?_⟩
      · repeat (first | exact trivial | (refine And.intro (by (conv => lhs; whnf) <;> (conv => rhs; whnf) <;> (first | rfl | (simp only; congr 1; omega))) ?_))
      · repeat (first | exact trivial | (refine And.intro (by (conv => lhs; whnf) <;> (conv => rhs; whnf) <;> (first | rfl | (simp only; congr 1; omega))) ?_))
    have hjn : j = rs.length := by omega
    rw [hjn, List.take_length] at hsum
    have key : ∀ t : Int, 1 ≤ t → t ≤ 2000 → (min t 1001 = timesR kd lo hi) → 0 ≤ (q : Int) * t ∧ (q : Int) * t ≤ 1001 * 2000 ∧ min ((q : Int) * t + 1) 1001 = (sizeR (.mk kd s0 s1 s2 s3 rs lo hi neg) : Int) := by
      intro t h1 h2 h3
      have h4 : (q : Int) * t ≤ 1001 * 2000 := Int.mul_le_mul (by omega) h2 (by omega) (by omega)
      have h5 : 0 ≤ (q : Int) * t := Int.mul_nonneg (by omega) (by omega)
      refine ⟨h5, h4, ?_⟩
      simp only [sizeR, capR]
      by_cases hb : 1000 < sizeL rs
      · rw [if_pos hb]
        have : (1001 : Int) * 1 ≤ (q : Int) * t := Int.mul_le_mul (by omega) h1 (by omega) (by omega)
        omega
      · rw [if_neg hb, ← h3]
        have e : q = sizeL rs := by omega
        rw [← e]
        by_cases ht : t ≤ 1001
        · rw [Int.min_eq_left ht]; omega
        · rw [Int.min_eq_right (by omega : (1001 : Int) ≤ t)]
          by_cases h0 : q = 0
          · subst h0; simp; decide
          · have h6 : (1 : Int) * 1001 ≤ (q : Int) * t := Int.mul_le_mul (by omega) (by omega) (by omega) (by omega)
            omega
    conv => whnf
    repeat ((first | refine zT ?_ | refine zF ?_ | refine zL hX hL ?_ | refine zB hX hL ?_ | (refine zS hX hL ?_; clear hL; intro w hL) | refine zI ?_ | refine zG hX ?_ | refine zO ?_); conv => whnf)
    refine BrReq.dec (fun h7 => ?_) (fun h7 => ?_)
    · have ht7 : timesR kd lo hi = max (min (max lo hi) 1001) 1 := by unfold timesR; rw [if_pos h7]
      rw [ht7] at key
      conv => whnf
      repeat ((first | refine zT ?_ | refine zF ?_ | refine zL hX hL ?_ | refine zB hX hL ?_ | (refine zS hX hL ?_; clear hL; intro w hL) | refine zI ?_ | refine zG hX ?_ | refine zO ?_); conv => whnf)
      refine BrReq.dec (fun hl => ?_) (fun hl => ?_)
      · conv => whnf
        repeat ((first | refine zT ?_ | refine zF ?_ | refine zL hX hL ?_ | refine zB hX hL ?_ | (refine zS hX hL ?_; clear hL; intro w hL) | refine zI ?_ | refine zG hX ?_ | refine zO ?_); conv => whnf)
        refine BrReq.dec (fun hh => ?_) (fun hh => ?_)
        · obtain ⟨k1, k2, k3⟩ := key (min hi 2000) (by omega) (by omega) (by omega)
          conv => whnf
          repeat ((first | refine zT ?_ | refine zF ?_ | refine zL hX hL ?_ | refine zB hX hL ?_ | (refine zS hX hL ?_; clear hL; intro w hL) | refine zI ?_ | refine zG hX ?_ | refine zO ?_); conv => whnf)
          refine ArReq.i64 (by (try simp only); omega) (by (try simp only); omega) ?_
          conv => whnf
          repeat ((first | refine zT ?_ | refine zF ?_ | refine zL hX hL ?_ | refine zB hX hL ?_ | (refine zS hX hL ?_; clear hL; intro w hL) | refine zI ?_ | refine zG hX ?_ | refine zO ?_); conv => whnf)
          refine ArReq.i64 (by (try simp only); omega) (by (try simp only); omega) ?_
          conv => whnf
          repeat ((first | refine zT ?_ | refine zF ?_ | refine zL hX hL ?_ | refine zB hX hL ?_ | (refine zS hX hL ?_; clear hL; intro w hL) | refine zI ?_ | refine zG hX ?_ | refine zO ?_); conv => whnf)
          exact RetReq.int hL.drop k3
        · obtain ⟨k1, k2, k3⟩ := key (min lo 2000) (by omega) (by omega) (by omega)
          conv => whnf
          repeat ((first | refine zT ?_ | refine zF ?_ | refine zL hX hL ?_ | refine zB hX hL ?_ | (refine zS hX hL ?_; clear hL; intro w hL) | refine zI ?_ | refine zG hX ?_ | refine zO ?_); conv => whnf)
          refine ArReq.i64 (by (try simp only); omega) (by (try simp only); omega) ?_
          conv => whnf
          repeat ((first | refine zT ?_ | refine zF ?_ | refine zL hX hL ?_ | refine zB hX hL ?_ | (refine zS hX hL ?_; clear hL; intro w hL) | refine zI ?_ | refine zG hX ?_ | refine zO ?_); conv => whnf)
          refine ArReq.i64 (by (try simp only); omega) (by (try simp only); omega) ?_
          conv => whnf
          repeat ((first | refine zT ?_ | refine zF ?_ | refine zL hX hL ?_ | refine zB hX hL ?_ | (refine zS hX hL ?_; clear hL; intro w hL) | refine zI ?_ | refine zG hX ?_ | refine zO ?_); conv => whnf)
          exact RetReq.int hL.drop k3
      · conv => whnf
        repeat ((first | refine zT ?_ | refine zF ?_ | refine zL hX hL ?_ | refine zB hX hL ?_ | (refine zS hX hL ?_; clear hL; intro w hL) | refine zI ?_ | refine zG hX ?_ | refine zO ?_); conv => whnf)
        refine BrReq.dec (fun hh => ?_) (fun hh => ?_)
        · obtain ⟨k1, k2, k3⟩ := key (min hi 2000) (by omega) (by omega) (by omega)
          conv => whnf
          repeat ((first | refine zT ?_ | refine zF ?_ | refine zL hX hL ?_ | refine zB hX hL ?_ | (refine zS hX hL ?_; clear hL; intro w hL) | refine zI ?_ | refine zG hX ?_ | refine zO ?_); conv => whnf)
          refine ArReq.i64 (by (try simp only); omega) (by (try simp only); omega) ?_
          conv => whnf
          repeat ((first | refine zT ?_ | refine zF ?_ | refine zL hX hL ?_ | refine zB hX hL ?_ | (refine zS hX hL ?_; clear hL; intro w hL) | refine zI ?_ | refine zG hX ?_ | refine zO ?_); conv => whnf)
          refine ArReq.i64 (by (try simp only); omega) (by (try simp only); omega) ?_
          conv => whnf
          repeat ((first | refine zT ?_ | refine zF ?_ | refine zL hX hL ?_ | refine zB hX hL ?_ | (refine zS hX hL ?_; clear hL; intro w hL) | refine zI ?_ | refine zG hX ?_ | refine zO ?_); conv => whnf)
          exact RetReq.int hL.drop k3
        · obtain ⟨k1, k2, k3⟩ := key 1 (by omega) (by omega) (by omega)
          rw [Int.mul_one] at k3
          conv => whnf
          repeat ((first | refine zT ?_ | refine zF ?_ | refine zL hX hL ?_ | refine zB hX hL ?_ | (refine zS hX hL ?_; clear hL; intro w hL) | refine zI ?_ | refine zG hX ?_ | refine zO ?_); conv => whnf)
          exact RetReq.int hL.drop (by simp only; rw [Int.mul_one]; exact k3)
    · have ht7 : timesR kd lo hi = 1 := by unfold timesR; rw [if_neg h7]
      obtain ⟨k1, k2, k3⟩ := key 1 (by omega) (by omega) (by omega)
      rw [Int.mul_one] at k3
      conv => whnf
      repeat ((first | refine zT ?_ | refine zF ?_ | refine zL hX hL ?_ | refine zB hX hL ?_ | (refine zS hX hL ?_; clear hL; intro w hL) | refine zI ?_ | refine zG hX ?_ | refine zO ?_); conv => whnf)
      exact RetReq.int hL.drop k3


set_option maxHeartbeats 2000000 in
theorem refFormed0_fn (r : Re) : ∀ (m : Mem) (cs : List Value), RepRe m cs r → FnV Tryz.prog 19 [.agg (toArr cs)] m (.bool (allR r)) := by
  induction r using Re.ind with
  | h kd s0 s1 s2 s3 rs lo hi neg ih =>
    intro m cs h
    obtain ⟨A, n, c, rfl, hs, hk, -, -, -, -, hlo, hhi⟩ := h.open
    obtain ⟨hn, hc, hm⟩ := hs.lens
    have hmx : maxLen = 9223372036854775807 := rfl
    have he := hs.elem
    have hno : ¬ Own kd s0 s1 s2 s3 n lo hi neg → allR (.mk kd s0 s1 s2 s3 rs lo hi neg) = false := by
      intro h; simp only [allR]; rw [← hn, decide_eq_false h, Bool.false_and]
    have hpk : partsK kd = -1 ∨ partsK kd = 1 ∨ partsK kd = 0 := by unfold partsK; split <;> first | omega | (split <;> omega)
    have hpk1 : partsK kd = -1 ↔ (kd = 3 ∨ kd = 4 ∨ kd = 5) := by unfold partsK; split <;> first | omega | (split <;> omega)
    have hpk2 : partsK kd = 1 ↔ (kd = 6 ∨ kd = 7 ∨ kd = 8 ∨ kd = 9) := by unfold partsK; split <;> first | omega | (split <;> omega)
    refine Fn.enter (N := 119) hX Tryz.func19 rfl rfl (by show _ ≤ _; simp) (fun w0 hL => ?_)
    conv => whnf
    refine NewReq.mk hL ?_
    clear hL
    intro b1 w hL
    conv => whnf
    conv => whnf
    repeat ((first | refine zT ?_ | refine zF ?_ | refine zL hX hL ?_ | refine zB hX hL ?_ | (refine zS hX hL ?_; clear hL; intro w hL) | refine zI ?_ | refine zO ?_); conv => whnf)
    refine SeqReq.cut hX (fun _ : Unit => [(3, .int .i64 (if partsK kd = -1 then (n : Int) else partsK kd))]) [1] (fun _ w => Ev.Loc m [] w0 m [(b1, .cells (toArr (reC kd s0 s1 s2 s3 (.slice A n c) lo hi neg)) 27 (0, 0))] w) ?_ ?_
    · conv => whnf
      repeat' (first | ((first | refine zT ?_ | refine zF ?_ | refine zL hX hL ?_ | refine zB hX hL ?_ | (refine zS hX hL ?_; clear hL; intro w hL) | refine zI ?_ | refine zG hX ?_ | refine zO ?_); conv => whnf) | (refine BrReq.dec (fun _ => ?_) (fun _ => ?_) <;> (conv => whnf)) | (refine BrReq.not ?_; refine BrReq.dec (fun _ => ?_) (fun _ => ?_) <;> (conv => whnf)) | (refine BrReq.bool (fun _ => ?_) (fun _ => ?_) <;> (conv => whnf)))
      all_goals (refine ⟨(), hL, ⟨?_, trivial⟩, rfl, trivial⟩; refine congrArg (Value.int .i64) ?_; split <;> omega)
    clear hL
    rintro _ w f hL
    conv => whnf
    repeat ((first | refine zT ?_ | refine zF ?_ | refine zL hX hL ?_ | refine zB hX hL ?_ | (refine zS hX hL ?_; clear hL; intro w hL) | refine zI ?_ | refine zO ?_); conv => whnf)
    refine SeqReq.cut hX (fun _ : Unit => []) [1] (fun _ w => ((0 ≤ kd ∧ kd ≤ 11) ∧ (0 ≤ partsK kd → (n : Int) = partsK kd)) ∧ Ev.Loc m [] w0 m [(b1, .cells (toArr (reC kd s0 s1 s2 s3 (.slice A n c) lo hi neg)) 27 (0, 0))] w) ?_ ?_
    · conv => whnf
      repeat' (first | ((first | refine zT ?_ | refine zF ?_ | refine zL hX hL ?_ | refine zB hX hL ?_ | (refine zS hX hL ?_; clear hL; intro w hL) | refine zI ?_ | refine zG hX ?_ | refine zO ?_); conv => whnf) | (refine BrReq.dec (fun _ => ?_) (fun _ => ?_) <;> (conv => whnf)) | (refine BrReq.not ?_; refine BrReq.dec (fun _ => ?_) (fun _ => ?_) <;> (conv => whnf)) | (refine BrReq.bool (fun _ => ?_) (fun _ => ?_) <;> (conv => whnf)))
      all_goals first
        | (refine RetReq.bool hL.drop ?_; rw [hno (fun h => ?_)]; obtain ⟨g1, g2, g3, g4, g5, g6⟩ := h; omega)
        | (refine ⟨(), ⟨?_, hL⟩, trivial, rfl, trivial⟩; omega)
    clear hL
    rintro _ w f ⟨⟨hkd, hnp⟩, hL⟩
    conv => whnf
    repeat ((first | refine zT ?_ | refine zF ?_ | refine zL hX hL ?_ | refine zB hX hL ?_ | (refine zS hX hL ?_; clear hL; intro w hL) | refine zI ?_ | refine zO ?_); conv => whnf)
    refine SeqReq.cut hX (fun _ : Unit => []) [1] (fun _ w => ((kd = 2 ∨ (s0 = 0 ∧ s1 = 0 ∧ s2 = 0 ∧ s3 = 0)) ∧ (neg = true → kd = 8 ∨ kd = 9)) ∧ Ev.Loc m [] w0 m [(b1, .cells (toArr (reC kd s0 s1 s2 s3 (.slice A n c) lo hi neg)) 27 (0, 0))] w) ?_ ?_
    · conv => whnf
      repeat' (first | ((first | refine UGenReq.neA hX rfl rfl rfl Tryz.eqGuardType24 rfl rfl rfl ?_ | refine zT ?_ | refine zF ?_ | refine zL hX hL ?_ | refine zB hX hL ?_ | (refine zS hX hL ?_; clear hL; intro w hL) | refine zI ?_ | refine zG hX ?_ | refine zO ?_); conv => whnf) | (refine BrReq.dec (fun _ => ?_) (fun _ => ?_) <;> (conv => whnf)) | (refine BrReq.not ?_; refine BrReq.dec (fun _ => ?_) (fun _ => ?_) <;> (conv => whnf)) | (refine BrReq.bool (fun _ => ?_) (fun _ => ?_) <;> (conv => whnf)))
      all_goals first
        | (refine RetReq.bool hL.drop ?_; rw [hno (fun h => ?_)]; obtain ⟨g1, g2, g3, g4, g5, g6⟩ := h; (first | (simp_all; done) | (simp_all; omega)))
        | (refine ⟨(), ⟨?_, hL⟩, trivial, rfl, trivial⟩; (first | (simp_all; done) | (simp_all; omega)))
    clear hL
    rintro _ w f ⟨⟨hse, hng⟩, hL⟩
    conv => whnf
    repeat ((first | refine zT ?_ | refine zF ?_ | refine zL hX hL ?_ | refine zB hX hL ?_ | (refine zS hX hL ?_; clear hL; intro w hL) | refine zI ?_ | refine zO ?_); conv => whnf)
    refine SeqReq.cut hX (fun _ : Unit => []) [1] (fun _ w => (kd ≠ 7 → lo = 0 ∧ hi = 0) ∧ Ev.Loc m [] w0 m [(b1, .cells (toArr (reC kd s0 s1 s2 s3 (.slice A n c) lo hi neg)) 27 (0, 0))] w) ?_ ?_
    · conv => whnf
      repeat' (first | ((first | refine zT ?_ | refine zF ?_ | refine zL hX hL ?_ | refine zB hX hL ?_ | (refine zS hX hL ?_; clear hL; intro w hL) | refine zI ?_ | refine zG hX ?_ | refine zO ?_); conv => whnf) | (refine BrReq.dec (fun _ => ?_) (fun _ => ?_) <;> (conv => whnf)) | (refine BrReq.not ?_; refine BrReq.dec (fun _ => ?_) (fun _ => ?_) <;> (conv => whnf)) | (refine BrReq.bool (fun _ => ?_) (fun _ => ?_) <;> (conv => whnf)))
      all_goals first
        | (refine RetReq.bool hL.drop ?_; rw [hno (fun h => ?_)]; obtain ⟨g1, g2, g3, g4, g5, g6⟩ := h; omega)
        | (refine ⟨(), ⟨?_, hL⟩, trivial, rfl, trivial⟩; omega)
    clear hL
    rintro _ w f ⟨ho7, hL⟩
    conv => whnf
    repeat ((first | refine zT ?_ | refine zF ?_ | refine zL hX hL ?_ | refine zB hX hL ?_ | (refine zS hX hL ?_; clear hL; intro w hL) | refine zI ?_ | refine zO ?_); conv => whnf)
    refine SeqReq.cut hX (fun _ : Unit => []) [1] (fun _ w => (kd = 7 → 0 ≤ lo ∧ lo ≤ 20 ∧ (hi = -1 ∨ (lo ≤ hi ∧ 1 ≤ hi ∧ hi ≤ 20))) ∧ Ev.Loc m [] w0 m [(b1, .cells (toArr (reC kd s0 s1 s2 s3 (.slice A n c) lo hi neg)) 27 (0, 0))] w) ?_ ?_
    · conv => whnf
      repeat' (first | ((first | refine zT ?_ | refine zF ?_ | refine zL hX hL ?_ | refine zB hX hL ?_ | (refine zS hX hL ?_; clear hL; intro w hL) | refine zI ?_ | refine zG hX ?_ | refine zO ?_); conv => whnf) | (refine BrReq.dec (fun _ => ?_) (fun _ => ?_) <;> (conv => whnf)) | (refine BrReq.not ?_; refine BrReq.dec (fun _ => ?_) (fun _ => ?_) <;> (conv => whnf)) | (refine BrReq.bool (fun _ => ?_) (fun _ => ?_) <;> (conv => whnf)))
      all_goals first
        | (refine RetReq.bool hL.drop ?_; rw [hno (fun h => ?_)]; obtain ⟨g1, g2, g3, g4, g5, g6⟩ := h; omega)
        | (refine ⟨(), ⟨?_, hL⟩, trivial, rfl, trivial⟩; omega)
    clear hL
    rintro _ w f ⟨hi7, hL⟩
    have hO : Own kd s0 s1 s2 s3 n lo hi neg := ⟨hkd, hnp, hse, hng, hi7, ho7⟩
    have hyes : allR (.mk kd s0 s1 s2 s3 rs lo hi neg) = rs.all allR := by
      simp only [allR]; rw [← hn, decide_eq_true hO, Bool.true_and, allL_eq]
    conv => whnf
    repeat ((first | refine zT ?_ | refine zF ?_ | refine zL hX hL ?_ | refine zB hX hL ?_ | (refine zS hX hL ?_; clear hL; intro w hL) | refine zI ?_ | refine zG hX ?_ | refine zO ?_); conv => whnf)
    refine LoopReq.inv hX (fun j : Nat => [(108, .int .i64 j)]) [1, 107]
      (fun j w => (j ≤ n ∧ ∀ (i : Nat) (x : Re), i < j → rs[i]? = some x → allR x = true) ∧ Ev.Loc m [] w0 m [(b1, .cells (toArr (reC kd s0 s1 s2 s3 (.slice A n c) lo hi neg)) 27 (0, 0))] w) (fun j => n - j) 0
      ⟨⟨by omega, fun i x h => absurd h (by omega)⟩, hL⟩ ⟨rfl, trivial⟩ ?_
    clear hL
    rintro j w f ⟨⟨hj, hdone⟩, hL⟩
    conv => whnf
    repeat ((first | refine zT ?_ | refine zF ?_ | refine zL hX hL ?_ | refine zB hX hL ?_ | (refine zS hX hL ?_; clear hL; intro w hL) | refine zI ?_ | refine zG hX ?_ | refine zO ?_); conv => whnf)
    refine BrReq.dec (fun hlt => ?_) (fun hlt => ?_)
    · have hlt' : j < rs.length := by omega
      obtain ⟨a, cs', rfl, hl9, hcells, hrep⟩ := he j _ (List.getElem?_eq_getElem hlt')
      obtain ⟨k1, u0, u1, u2, u3, A1, n1, c1, lo1, hi1, neg1, rfl⟩ := hrep.form
      conv => whnf
      repeat ((first | refine Idx2Req.mk j a rfl (by omega) rfl ?_ | refine LdReq.agg hX rfl rfl hL hl9 hcells ?_ | refine zT ?_ | refine zF ?_ | refine zL hX hL ?_ | refine zB hX hL ?_ | (refine zS hX hL ?_; clear hL; intro w hL) | refine zI ?_ | refine zG hX ?_ | refine zO ?_); conv => whnf)
      refine CallReq.val (ih _ (List.getElem_mem hlt') m _ hrep) hL ?_
      clear hL
      intro w hL
      conv => whnf
      repeat ((first | refine zT ?_ | refine zF ?_ | refine zL hX hL ?_ | refine zB hX hL ?_ | (refine zS hX hL ?_; clear hL; intro w hL) | refine zI ?_ | refine zG hX ?_ | refine zO ?_); conv => whnf)
      refine BrReq.not ?_
      refine BrReq.bool (fun g => ?_) (fun g => ?_)
      · have hd : ∀ (i : Nat) (x : Re), i < j + 1 → rs[i]? = some x → allR x = true := by
          intro i x hi hx
          by_cases e : i = j
          · subst e
            rw [List.getElem?_eq_getElem hlt'] at hx
            cases hx; exact g
          · exact hdone i x (by omega) hx
        conv => whnf
        repeat ((first | refine zT ?_ | refine zF ?_ | refine zL hX hL ?_ | refine zB hX hL ?_ | (refine zS hX hL ?_; clear hL; intro w hL) | refine zI ?_ | refine zG hX ?_ | refine zO ?_); conv => whnf)
        refine ⟨j + 1, ⟨⟨by omega, hd⟩, hL⟩, by first | omega | (simp only; omega), ?_, ?_⟩
        · repeat (first | exact trivial | (refine And.intro (by (conv => lhs; whnf) <;> (conv => rhs; whnf) <;> (first | rfl)) ?_))
        · repeat (first | exact trivial | (refine And.intro (by (conv => lhs; whnf) <;> (conv => rhs; whnf) <;> (first | rfl)) ?_))
      · conv => whnf
        repeat ((first | refine zT ?_ | refine zF ?_ | refine zL hX hL ?_ | refine zB hX hL ?_ | (refine zS hX hL ?_; clear hL; intro w hL) | refine zI ?_ | refine zG hX ?_ | refine zO ?_); conv => whnf)
        refine RetReq.bool hL.drop ?_
        rw [hyes]
        symm
        rw [Bool.eq_false_iff]
        intro hc
        have := List.all_eq_true.1 hc _ (List.getElem_mem hlt')
        rw [g] at this; cases this
    · conv => whnf
      repeat ((first | refine zT ?_ | refine zF ?_ | refine zL hX hL ?_ | refine zB hX hL ?_ | (refine zS hX hL ?_; clear hL; intro w hL) | refine zI ?_ | refine zG hX ?_ | refine zO ?_); conv => whnf)
      refine RetReq.bool hL.drop ?_
      rw [hyes]
      symm
      rw [List.all_eq_true]
      intro x hx
      obtain ⟨i, hi, rfl⟩ := List.getElem_of_mem hx
      exact hdone i _ (by omega) (List.getElem?_eq_getElem hi)

/-- Formed. -/
def formedR (r : Re) : Bool := decide (deepR 40 r ≤ 40) && allR r && decide (sizeR r ≤ 1000)
theorem refFormed_fn (m : Mem) (r : Re) (cs : List Value) (h : RepRe m cs r) : FnV Tryz.prog 6 [.agg (toArr cs)] m (.bool (formedR r)) := by
  obtain ⟨k1, u0, u1, u2, u3, A1, n1, c1, lo1, hi1, neg1, rfl⟩ := h.form
  refine Fn.enter (N := 15) hX Tryz.func6 rfl rfl (by show _ ≤ _; simp) (fun w0 hL => ?_)
  conv => whnf
  refine NewReq.mk hL ?_
  clear hL
  intro b1 w hL
  conv => whnf
  conv => whnf
  repeat ((first | refine zT ?_ | refine zF ?_ | refine zL hX hL ?_ | refine zB hX hL ?_ | (refine zS hX hL ?_; clear hL; intro w hL) | refine zI ?_ | refine zG hX ?_ | refine zO ?_); conv => whnf)
  refine CallReq.val (refDeep_fn 40 m r _ h (by omega)) hL ?_
  clear hL
  intro w hL
  conv => whnf
  repeat ((first | refine zT ?_ | refine zF ?_ | refine zL hX hL ?_ | refine zB hX hL ?_ | (refine zS hX hL ?_; clear hL; intro w hL) | refine zI ?_ | refine zG hX ?_ | refine zO ?_); conv => whnf)
  refine BrReq.dec (fun hd => ?_) (fun hd => ?_)
  · conv => whnf
    repeat ((first | refine zT ?_ | refine zF ?_ | refine zL hX hL ?_ | refine zB hX hL ?_ | (refine zS hX hL ?_; clear hL; intro w hL) | refine zI ?_ | refine zG hX ?_ | refine zO ?_); conv => whnf)
    refine CallReq.val (refFormed0_fn r m _ h) hL ?_
    clear hL
    intro w hL
    conv => whnf
    repeat ((first | refine zT ?_ | refine zF ?_ | refine zL hX hL ?_ | refine zB hX hL ?_ | (refine zS hX hL ?_; clear hL; intro w hL) | refine zI ?_ | refine zG hX ?_ | refine zO ?_); conv => whnf)
    refine BrReq.bool (fun ha => ?_) (fun ha => ?_)
    · conv => whnf
      repeat ((first | refine zT ?_ | refine zF ?_ | refine zL hX hL ?_ | refine zB hX hL ?_ | (refine zS hX hL ?_; clear hL; intro w hL) | refine zI ?_ | refine zG hX ?_ | refine zO ?_); conv => whnf)
      refine CallReq.val (refSize_fn r m _ h) hL ?_
      clear hL
      intro w hL
      conv => whnf
      repeat ((first | refine zT ?_ | refine zF ?_ | refine zL hX hL ?_ | refine zB hX hL ?_ | (refine zS hX hL ?_; clear hL; intro w hL) | refine zI ?_ | refine zG hX ?_ | refine zO ?_); conv => whnf)
      refine RetReq.bool hL.drop ?_
      unfold formedR
      rw [decide_eq_true (by omega : deepR 40 r ≤ 40), ha, Bool.true_and, Bool.true_and]
      exact decide_eq_decide.2 (by omega)
    · conv => whnf
      repeat ((first | refine zT ?_ | refine zF ?_ | refine zL hX hL ?_ | refine zB hX hL ?_ | (refine zS hX hL ?_; clear hL; intro w hL) | refine zI ?_ | refine zG hX ?_ | refine zO ?_); conv => whnf)
      refine RetReq.bool hL.drop ?_
      unfold formedR
      rw [ha, Bool.and_false, Bool.false_and]
  · conv => whnf
    repeat ((first | refine zT ?_ | refine zF ?_ | refine zL hX hL ?_ | refine zB hX hL ?_ | (refine zS hX hL ?_; clear hL; intro w hL) | refine zI ?_ | refine zG hX ?_ | refine zO ?_); conv => whnf)
    refine RetReq.bool hL.drop ?_
    unfold formedR
    rw [decide_eq_false (by omega : ¬ deepR 40 r ≤ 40), Bool.false_and, Bool.false_and]
end Go.Proofs.YtpdiljdklllmjaaGreat.tree
