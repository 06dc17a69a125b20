/- The document's words: names, numbers, braces. Conditions: none. -/
import Derived.Test.YtemdkfohlppckaaGreatDoorLxRefA

namespace Go.Proofs.YtemdkfohlppckaaGreatDoor.lx
open Go Go.Ev Go.Proofs

theorem refNamed_fn (m : Mem) (s : List UInt8) (hl : s.length ≤ 1000000) : FnV Tryz.prog 16 [.string (bs s)] m (.bool (namedT s)) := by
  have hsz := bs_size s
  cases s with
  | nil =>
    refine Fn.enter (N := 43) hX Tryz.func16 rfl rfl (by show _ ≤ _; simp) (fun w0 hL => ?_)
    conv => whnf
    conv => whnf
    repeat ((first | refine BrReq.yes (by omega) ?_ | refine zT ?_ | refine zF ?_ | refine zL hX hL ?_ | refine zB hX hL ?_ | (refine zS hX hL ?_; clear hL; intro w hL) | refine zI ?_ | refine zG hX ?_ | refine zO ?_); conv => whnf)
    exact RetReq.bool hL rfl
  | cons c0 r0 =>
  have hE : namedT (c0 :: r0) = ((c0 :: r0).all nmB && decide ((c0 :: r0).length ≤ 20) && isL c0.toNat) := rfl
  rw [hE]
  clear hE
  obtain ⟨s, hs⟩ : ∃ s, s = c0 :: r0 := ⟨_, rfl⟩
  have h0 : (bs s).data[0]? = some c0 := by rw [bs_get, hs]; rfl
  have hp : 0 < s.length := by rw [hs]; simp
  have hc0 := c0.toNat_lt
  have g0 := Alpha_fn m c0.toNat hc0
  rw [← hs] at hl hsz ⊢
  clear hs
  by_cases h20 : s.length ≤ 20
  · rw [decide_eq_true h20, Bool.and_true]
    refine Fn.enter (N := 43) hX Tryz.func16 rfl rfl (by show _ ≤ _; simp) (fun w0 hL => ?_)
    conv => whnf
    conv => whnf
    repeat ((first | refine BrReq.no (by omega) ?_ | refine StrIdxReq.mk 0 c0 rfl h0 ?_ | refine zT ?_ | refine zF ?_ | refine zL hX hL ?_ | refine zB hX hL ?_ | (refine zS hX hL ?_; clear hL; intro w hL) | refine zI ?_ | refine zG hX ?_ | refine zO ?_); conv => whnf)
    refine CallReq.val g0 hL ?_
    clear hL
    intro w hL
    cases hl0 : isL c0.toNat with
    | false =>
      conv => whnf
      repeat ((first | refine zT ?_ | refine zF ?_ | refine zL hX hL ?_ | refine zB hX hL ?_ | (refine zS hX hL ?_; clear hL; intro w hL) | refine zI ?_ | refine zG hX ?_ | refine zO ?_); conv => whnf)
      exact RetReq.bool hL (by simp)
    | true =>
      rw [Bool.and_true]
      conv => whnf
      repeat ((first | refine zT ?_ | refine zF ?_ | refine zL hX hL ?_ | refine zB hX hL ?_ | (refine zS hX hL ?_; clear hL; intro w hL) | refine zI ?_ | refine zG hX ?_ | refine zO ?_); conv => whnf)
      refine LoopReq.inv hX (fun j : Nat => [(21, .int .i64 j)]) [0, 20]
        (fun j w => (j ≤ s.length ∧ (s.take j).all nmB = true) ∧ Ev.Loc m [] w0 m [] w) (fun j => s.length - j) 0
        ⟨⟨by omega, rfl⟩, hL⟩ ⟨rfl, trivial⟩ ?_
      clear hL
      rintro j w e ⟨⟨hj, hall⟩, hL⟩
      conv => whnf
      repeat ((first | refine zT ?_ | refine zF ?_ | refine zL hX hL ?_ | refine zB hX hL ?_ | (refine zS hX hL ?_; clear hL; intro w hL) | refine zI ?_ | refine zG hX ?_ | refine zO ?_); conv => whnf)
      refine BrReq.dec (fun hlt => ?_) (fun hlt => ?_)
      · have hj1 : j < s.length := by omega
        have hc := (s[j]).toNat_lt
        have htk : (s.take (j + 1)).all nmB = nmB s[j] := by rw [List.take_succ_eq_append_getElem hj1, List.all_append, hall]; simp
        have hg : (bs s).data[j]? = some s[j] := by rw [bs_get, List.getElem?_eq_getElem hj1]
        have hno : nmB s[j] = false → s.all nmB = false := fun h => by
          rw [List.all_eq_false]
          exact ⟨s[j], List.getElem_mem hj1, by simp [h]⟩
        have hnm : nmB s[j] = (isL (s[j]).toNat || isD (s[j]).toNat || decide ((s[j]).toNat = 95)) := rfl
        rw [hnm] at htk hno
        clear hnm
        generalize s[j] = c at hc htk hg hno
        have h1 := Alpha_fn m c.toNat hc
        have hD := isD_iff c.toNat
        conv => whnf
        repeat ((first | refine StrIdxReq.mk j c rfl hg ?_ | refine zT ?_ | refine zF ?_ | refine zL hX hL ?_ | refine zB hX hL ?_ | (refine zS hX hL ?_; clear hL; intro w hL) | refine zI ?_ | refine zG hX ?_ | refine zO ?_); conv => whnf)
        refine CallReq.val h1 hL ?_
        clear hL
        intro w hL
        cases e1 : isL c.toNat with
        | true =>
          conv => whnf
          repeat ((first | refine zT ?_ | refine zF ?_ | refine zL hX hL ?_ | refine zB hX hL ?_ | (refine zS hX hL ?_; clear hL; intro w hL) | refine zI ?_ | refine zG hX ?_ | refine zO ?_); conv => whnf)
          refine ⟨j + 1, ⟨⟨by omega, by rw [htk, e1]; rfl⟩, hL⟩, by first | omega | (simp only; omega) | (simp only [List.length_cons, List.length_append]; omega), ?_, ?_⟩
          · repeat (first | exact trivial | (refine And.intro (by (conv => lhs; whnf) <;> (conv => rhs; whnf) <;> (first | rfl)) ?_))
          · repeat (first | exact trivial | (refine And.intro (by (conv => lhs; whnf) <;> (conv => rhs; whnf) <;> (first | rfl)) ?_))
        | false =>
          conv => whnf
          repeat ((first | refine zT ?_ | refine zF ?_ | refine zL hX hL ?_ | refine zB hX hL ?_ | (refine zS hX hL ?_; clear hL; intro w hL) | refine zI ?_ | refine zG hX ?_ | refine zO ?_); conv => whnf)
          refine BrReq.dec (fun h95 => ?_) (fun h95 => ?_)
          · cases e2 : isD c.toNat with
            | true =>
              have h48 := hD.1 e2
              conv => whnf
              repeat ((first | refine BrReq.no (by omega) ?_ | refine zT ?_ | refine zF ?_ | refine zL hX hL ?_ | refine zB hX hL ?_ | (refine zS hX hL ?_; clear hL; intro w hL) | refine zI ?_ | refine zG hX ?_ | refine zO ?_); conv => whnf)
              refine ⟨j + 1, ⟨⟨by omega, by rw [htk, e1, e2]; rfl⟩, hL⟩, by first | omega | (simp only; omega) | (simp only [List.length_cons, List.length_append]; omega), ?_, ?_⟩
              · repeat (first | exact trivial | (refine And.intro (by (conv => lhs; whnf) <;> (conv => rhs; whnf) <;> (first | rfl)) ?_))
              · repeat (first | exact trivial | (refine And.intro (by (conv => lhs; whnf) <;> (conv => rhs; whnf) <;> (first | rfl)) ?_))
            | false =>
              have h48 : ¬ (48 ≤ c.toNat ∧ c.toNat ≤ 57) := fun h => by rw [hD.2 h] at e2; cases e2
              by_cases hlo : c.toNat < 48
              · conv => whnf
                repeat ((first | refine BrReq.yes (by omega) ?_ | refine zT ?_ | refine zF ?_ | refine zL hX hL ?_ | refine zB hX hL ?_ | (refine zS hX hL ?_; clear hL; intro w hL) | refine zI ?_ | refine zG hX ?_ | refine zO ?_); conv => whnf)
                exact RetReq.bool hL (hno (by rw [e1, e2, decide_eq_false (by omega)]; rfl)).symm
              · conv => whnf
                repeat ((first | refine BrReq.yes (by omega) ?_ | refine BrReq.no (by omega) ?_ | refine zT ?_ | refine zF ?_ | refine zL hX hL ?_ | refine zB hX hL ?_ | (refine zS hX hL ?_; clear hL; intro w hL) | refine zI ?_ | refine zG hX ?_ | refine zO ?_); conv => whnf)
                exact RetReq.bool hL (hno (by rw [e1, e2, decide_eq_false (by omega)]; rfl)).symm
          · conv => whnf
            repeat ((first | refine zT ?_ | refine zF ?_ | refine zL hX hL ?_ | refine zB hX hL ?_ | (refine zS hX hL ?_; clear hL; intro w hL) | refine zI ?_ | refine zG hX ?_ | refine zO ?_); conv => whnf)
            refine ⟨j + 1, ⟨⟨by omega, by rw [htk, e1, decide_eq_true (show c.toNat = 95 by omega)]; simp⟩, hL⟩, by first | omega | (simp only; omega) | (simp only [List.length_cons, List.length_append]; omega), ?_, ?_⟩
            · repeat (first | exact trivial | (refine And.intro (by (conv => lhs; whnf) <;> (conv => rhs; whnf) <;> (first | rfl)) ?_))
            · repeat (first | exact trivial | (refine And.intro (by (conv => lhs; whnf) <;> (conv => rhs; whnf) <;> (first | rfl)) ?_))
      · have ej : j = s.length := by omega
        subst ej
        rw [List.take_length] at hall
        rw [hall]
        conv => whnf
        repeat ((first | refine zT ?_ | refine zF ?_ | refine zL hX hL ?_ | refine zB hX hL ?_ | (refine zS hX hL ?_; clear hL; intro w hL) | refine zI ?_ | refine zG hX ?_ | refine zO ?_); conv => whnf)
        exact RetReq.bool hL rfl
  · rw [decide_eq_false h20]
    refine Fn.enter (N := 43) hX Tryz.func16 rfl rfl (by show _ ≤ _; simp) (fun w0 hL => ?_)
    conv => whnf
    conv => whnf
    repeat ((first | refine BrReq.no (by omega) ?_ | refine BrReq.yes (by omega) ?_ | refine zT ?_ | refine zF ?_ | refine zL hX hL ?_ | refine zB hX hL ?_ | (refine zS hX hL ?_; clear hL; intro w hL) | refine zI ?_ | refine zG hX ?_ | refine zO ?_); conv => whnf)
    exact RetReq.bool hL (by simp)

def valT (l : List UInt8) : Int := l.foldl (fun n c => 10 * n + ((c.toNat : Int) - 48)) 0
theorem valT_snoc (l : List UInt8) (c : UInt8) : valT (l ++ [c]) = 10 * valT l + ((c.toNat : Int) - 48) := by simp [valT]
theorem valT_le : ∀ (l : List UInt8), (∀ c ∈ l, isD c.toNat = true) → l.length ≤ 2 → 0 ≤ valT l ∧ (l.length ≤ 1 → valT l ≤ 9) ∧ valT l ≤ 99
  | [], _, _ => by simp [valT]
  | [a], h, _ => by
    have := (isD_iff _).1 (h a (by simp))
    simp only [valT, List.foldl_cons, List.foldl_nil]
    omega
  | [a, b], h, _ => by
    have h1 := (isD_iff _).1 (h a (by simp))
    have h2 := (isD_iff _).1 (h b (by simp))
    simp only [valT, List.foldl_cons, List.foldl_nil, List.length_cons, List.length_nil]
    omega
  | a :: b :: c :: r, _, h => by simp at h
theorem cnt_val : ∀ (l : List UInt8), (l.length = 1 ∨ (l.length = 2 ∧ ∀ a b, l = [a, b] → a.toNat ≠ 48)) →
    ((∀ c ∈ l, isD c.toNat = true) → cntT l = if 20 < valT l then -1 else valT l) ∧ (∀ c ∈ l, isD c.toNat = false → cntT l = -1)
  | [], h => by simp at h
  | [a], _ => by
    refine ⟨fun h => ?_, fun c hc h => ?_⟩
    · have h1 := h a (by simp)
      have := (isD_iff _).1 h1
      have hv : valT [a] = (a.toNat : Int) - 48 := by simp [valT]
      simp only [cntT]
      rw [hv, if_pos h1, if_neg (by omega)]
    · simp at hc; subst hc
      simp only [cntT]; rw [if_neg (by rw [h]; decide)]
  | [a, b], hh => by
    have h0 : a.toNat ≠ 48 := by
      rcases hh with h | ⟨_, h⟩
      · simp at h
      · exact h a b rfl
    refine ⟨fun h => ?_, fun c hc h => ?_⟩
    · have h1 := h a (by simp)
      have h2 := h b (by simp)
      have h3 := (isD_iff _).1 h1
      have h4 := (isD_iff _).1 h2
      have hv : valT [a, b] = 10 * ((a.toNat : Int) - 48) + ((b.toNat : Int) - 48) := by simp [valT]
      simp only [cntT]
      rw [hv, if_neg h0, if_pos ⟨h1, h2⟩]
      by_cases h20 : 10 * ((a.toNat : Int) - 48) + ((b.toNat : Int) - 48) ≤ 20
      · rw [if_pos h20, if_neg (by omega)]
      · rw [if_neg h20, if_pos (by omega)]
    · simp only [cntT]
      rw [if_neg h0, if_neg]
      rintro ⟨g1, g2⟩
      simp at hc
      rcases hc with rfl | rfl
      · rw [h] at g1; cases g1
      · rw [h] at g2; cases g2
  | a :: b :: c :: r, h => by simp at h

theorem count_fn (m : Mem) (s : List UInt8) (hl : s.length ≤ 1000000) : FnV Tryz.prog 74 [.string (bs s)] m (.int .i64 (cntT s)) := by
  have hsz := bs_size s
  by_cases h0 : s.length < 1
  · have : s = [] := List.eq_nil_of_length_eq_zero (by omega)
    subst this
    refine Fn.enter (N := 50) hX Tryz.func74 rfl rfl (by show _ ≤ _; simp) (fun w0 hL => ?_)
    conv => whnf
    conv => whnf
    repeat ((first | refine BrReq.yes (by omega) ?_ | refine zT ?_ | refine zF ?_ | refine zL hX hL ?_ | refine zB hX hL ?_ | (refine zS hX hL ?_; clear hL; intro w hL) | refine zI ?_ | refine zG hX ?_ | refine zO ?_); conv => whnf)
    exact RetReq.int hL rfl
  by_cases h2 : 2 < s.length
  · have hE : cntT s = -1 := by
      match s, h2 with
      | a :: b :: c :: r, _ => rfl
    rw [hE]
    refine Fn.enter (N := 50) hX Tryz.func74 rfl rfl (by show _ ≤ _; simp) (fun w0 hL => ?_)
    conv => whnf
    conv => whnf
    repeat ((first | refine BrReq.no (by omega) ?_ | refine BrReq.yes (by omega) ?_ | refine zT ?_ | refine zF ?_ | refine zL hX hL ?_ | refine zB hX hL ?_ | (refine zS hX hL ?_; clear hL; intro w hL) | refine zI ?_ | refine zG hX ?_ | refine zO ?_); conv => whnf)
    exact RetReq.int hL rfl
  by_cases h1 : s.length = 1
  · refine Fn.enter (N := 50) hX Tryz.func74 rfl rfl (by show _ ≤ _; simp) (fun w0 hL => ?_)
    conv => whnf
    conv => whnf
    repeat ((first | refine BrReq.no (by omega) ?_ | refine zT ?_ | refine zF ?_ | refine zL hX hL ?_ | refine zB hX hL ?_ | (refine zS hX hL ?_; clear hL; intro w hL) | refine zI ?_ | refine zG hX ?_ | refine zO ?_); conv => whnf)
    have hcv := cnt_val s (.inl h1)
    have hvl := fun l h1 h2 => valT_le l h1 h2
    conv => whnf
    repeat ((first | refine zT ?_ | refine zF ?_ | refine zL hX hL ?_ | refine zB hX hL ?_ | (refine zS hX hL ?_; clear hL; intro w hL) | refine zI ?_ | refine zG hX ?_ | refine zO ?_); conv => whnf)
    refine LoopReq.inv hX (fun t : Nat × Int => [(3, .int .i64 t.2), (25, .int .i64 t.1)]) [0, 24]
      (fun t w => ((t.1 ≤ s.length ∧ t.2 = valT (s.take t.1)) ∧ ∀ c ∈ s.take t.1, isD c.toNat = true) ∧ Ev.Loc m [] w0 m [] w) (fun t => s.length - t.1) (0, 0)
      ⟨⟨⟨by omega, by simp [valT]⟩, by simp⟩, hL⟩ ⟨rfl, rfl, trivial⟩ ?_
    clear hL
    rintro ⟨j, n⟩ w e ⟨⟨⟨hj, hn⟩, hall⟩, hL⟩
    simp only at hj hn hall
    obtain ⟨v1, v2, v3⟩ := hvl (s.take j) hall (by rw [List.length_take]; omega)
    rw [← hn, List.length_take] at v2
    rw [← hn] at v1 v3
    conv => whnf
    repeat ((first | refine zT ?_ | refine zF ?_ | refine zL hX hL ?_ | refine zB hX hL ?_ | (refine zS hX hL ?_; clear hL; intro w hL) | refine zI ?_ | refine zG hX ?_ | refine zO ?_); conv => whnf)
    refine BrReq.dec (fun hlt => ?_) (fun hlt => ?_)
    · have hj1 : j < s.length := by omega
      have hc := (s[j]).toNat_lt
      have hg : (bs s).data[j]? = some s[j] := by rw [bs_get, List.getElem?_eq_getElem hj1]
      have htk : s.take (j + 1) = s.take j ++ [s[j]] := List.take_succ_eq_append_getElem hj1
      have hno := hcv.2 s[j] (List.getElem_mem hj1)
      have hD := isD_iff (s[j]).toNat
      generalize s[j] = c at hc htk hg hno hD
      have v4 := v2 (by omega)
      conv => whnf
      repeat ((first | refine StrIdxReq.mk j c rfl hg ?_ | refine zT ?_ | refine zF ?_ | refine zL hX hL ?_ | refine zB hX hL ?_ | (refine zS hX hL ?_; clear hL; intro w hL) | refine zI ?_ | refine zG hX ?_ | refine zO ?_); conv => whnf)
      refine BrReq.dec (fun h48 => ?_) (fun h48 => ?_)
      · conv => whnf
        repeat ((first | refine zT ?_ | refine zF ?_ | refine zL hX hL ?_ | refine zB hX hL ?_ | (refine zS hX hL ?_; clear hL; intro w hL) | refine zI ?_ | refine zG hX ?_ | refine zO ?_); conv => whnf)
        refine RetReq.int hL (hno ?_).symm
        cases e1 : isD c.toNat with
        | true => have := hD.1 e1; omega
        | false => rfl
      · conv => whnf
        repeat ((first | refine StrIdxReq.mk j c rfl hg ?_ | refine zT ?_ | refine zF ?_ | refine zL hX hL ?_ | refine zB hX hL ?_ | (refine zS hX hL ?_; clear hL; intro w hL) | refine zI ?_ | refine zG hX ?_ | refine zO ?_); conv => whnf)
        refine BrReq.dec (fun h57 => ?_) (fun h57 => ?_)
        · conv => whnf
          repeat ((first | refine zT ?_ | refine zF ?_ | refine zL hX hL ?_ | refine zB hX hL ?_ | (refine zS hX hL ?_; clear hL; intro w hL) | refine zI ?_ | refine zG hX ?_ | refine zO ?_); conv => whnf)
          refine RetReq.int hL (hno ?_).symm
          cases e1 : isD c.toNat with
          | true => have := hD.1 e1; omega
          | false => rfl
        · conv => whnf
          repeat ((first | refine StrIdxReq.mk j c rfl hg ?_ | refine zT ?_ | refine zF ?_ | refine zL hX hL ?_ | refine zB hX hL ?_ | (refine zS hX hL ?_; clear hL; intro w hL) | refine zI ?_ | refine zG hX ?_ | refine zO ?_); conv => whnf)
          have hall' : ∀ d ∈ s.take (j + 1), isD d.toNat = true := by
            rw [htk]; intro d hd
            rcases List.mem_append.1 hd with h | h
            · exact hall d h
            · rw [List.mem_singleton.1 h]; exact hD.2 (by omega)
          refine ⟨(j + 1, 10 * n + ((c.toNat : Int) - 48)), ⟨⟨⟨by simp only; omega, by simp only; rw [htk, valT_snoc, hn]⟩, hall'⟩, hL⟩, by first | omega | (simp only; omega) | (simp only [List.length_cons, List.length_append]; omega), ?_, ?_⟩
          · repeat (first | exact trivial | (refine And.intro (by (conv => lhs; whnf) <;> (conv => rhs; whnf) <;> (first | rfl | (exact congrArg (Value.int .i64) (by simp only; omega)))) ?_))
          · repeat (first | exact trivial | (refine And.intro (by (conv => lhs; whnf) <;> (conv => rhs; whnf) <;> (first | rfl | (exact congrArg (Value.int .i64) (by simp only; omega)))) ?_))
    · have ej : j = s.length := by omega
      subst ej
      rw [List.take_length] at hn hall
      rw [hcv.1 hall, ← hn]
      by_cases h20 : 20 < n
      · rw [if_pos h20]
        conv => whnf
        repeat ((first | refine BrReq.yes (by omega) ?_ | refine zT ?_ | refine zF ?_ | refine zL hX hL ?_ | refine zB hX hL ?_ | (refine zS hX hL ?_; clear hL; intro w hL) | refine zI ?_ | refine zG hX ?_ | refine zO ?_); conv => whnf)
        exact RetReq.int hL rfl
      · rw [if_neg h20]
        conv => whnf
        repeat ((first | refine BrReq.no (by omega) ?_ | refine zT ?_ | refine zF ?_ | refine zL hX hL ?_ | refine zB hX hL ?_ | (refine zS hX hL ?_; clear hL; intro w hL) | refine zI ?_ | refine zG hX ?_ | refine zO ?_); conv => whnf)
        exact RetReq.int hL rfl
  · obtain ⟨a, b, rfl⟩ : ∃ a b, s = [a, b] := by
      match s, h0, h1, h2 with
      | [], h0, _, _ => simp at h0
      | [a], _, h1, _ => simp at h1
      | [a, b], _, _, _ => exact ⟨a, b, rfl⟩
      | a :: b :: c :: r, _, _, h2 => simp at h2
    by_cases ha : a.toNat = 48
    · have hE : cntT [a, b] = -1 := by simp only [cntT]; rw [if_pos ha]
      rw [hE]
      refine Fn.enter (N := 50) hX Tryz.func74 rfl rfl (by show _ ≤ _; simp) (fun w0 hL => ?_)
      conv => whnf
      simp only [List.length_cons, List.length_nil] at hsz
      conv => whnf
      repeat ((first | refine BrReq.no (by omega) ?_ | refine BrReq.yes (by omega) ?_ | refine StrIdxReq.mk 0 a rfl rfl ?_ | refine zT ?_ | refine zF ?_ | refine zL hX hL ?_ | refine zB hX hL ?_ | (refine zS hX hL ?_; clear hL; intro w hL) | refine zI ?_ | refine zG hX ?_ | refine zO ?_); conv => whnf)
      exact RetReq.int hL rfl
    · obtain ⟨s, hs⟩ : ∃ s, s = [a, b] := ⟨_, rfl⟩
      have hls : s.length = 2 := by rw [hs]; rfl
      have hg0 : (bs s).data[0]? = some a := by rw [hs]; rfl
      have hh : s.length = 1 ∨ (s.length = 2 ∧ ∀ a b, s = [a, b] → a.toNat ≠ 48) := .inr ⟨hls, fun a' b' h => by rw [hs] at h; cases h; exact ha⟩
      rw [← hs] at hl hsz h0 h1 h2 ⊢
      clear hs
      refine Fn.enter (N := 50) hX Tryz.func74 rfl rfl (by show _ ≤ _; simp) (fun w0 hL => ?_)
      conv => whnf
      conv => whnf
      repeat ((first | refine BrReq.no (by omega) ?_ | refine BrReq.yes (by omega) ?_ | refine StrIdxReq.mk 0 a rfl hg0 ?_ | refine zT ?_ | refine zF ?_ | refine zL hX hL ?_ | refine zB hX hL ?_ | (refine zS hX hL ?_; clear hL; intro w hL) | refine zI ?_ | refine zG hX ?_ | refine zO ?_); conv => whnf)
      have hcv := cnt_val s hh
      have hvl := fun l h1 h2 => valT_le l h1 h2
      conv => whnf
      repeat ((first | refine zT ?_ | refine zF ?_ | refine zL hX hL ?_ | refine zB hX hL ?_ | (refine zS hX hL ?_; clear hL; intro w hL) | refine zI ?_ | refine zG hX ?_ | refine zO ?_); conv => whnf)
      refine LoopReq.inv hX (fun t : Nat × Int => [(3, .int .i64 t.2), (25, .int .i64 t.1)]) [0, 24]
        (fun t w => ((t.1 ≤ s.length ∧ t.2 = valT (s.take t.1)) ∧ ∀ c ∈ s.take t.1, isD c.toNat = true) ∧ Ev.Loc m [] w0 m [] w) (fun t => s.length - t.1) (0, 0)
        ⟨⟨⟨by omega, by simp [valT]⟩, by simp⟩, hL⟩ ⟨rfl, rfl, trivial⟩ ?_
      clear hL
      rintro ⟨j, n⟩ w e ⟨⟨⟨hj, hn⟩, hall⟩, hL⟩
      simp only at hj hn hall
      obtain ⟨v1, v2, v3⟩ := hvl (s.take j) hall (by rw [List.length_take]; omega)
      rw [← hn, List.length_take] at v2
      rw [← hn] at v1 v3
      conv => whnf
      repeat ((first | refine zT ?_ | refine zF ?_ | refine zL hX hL ?_ | refine zB hX hL ?_ | (refine zS hX hL ?_; clear hL; intro w hL) | refine zI ?_ | refine zG hX ?_ | refine zO ?_); conv => whnf)
      refine BrReq.dec (fun hlt => ?_) (fun hlt => ?_)
      · have hj1 : j < s.length := by omega
        have hc := (s[j]).toNat_lt
        have hg : (bs s).data[j]? = some s[j] := by rw [bs_get, List.getElem?_eq_getElem hj1]
        have htk : s.take (j + 1) = s.take j ++ [s[j]] := List.take_succ_eq_append_getElem hj1
        have hno := hcv.2 s[j] (List.getElem_mem hj1)
        have hD := isD_iff (s[j]).toNat
        generalize s[j] = c at hc htk hg hno hD
        have v4 := v2 (by omega)
        conv => whnf
        repeat ((first | refine StrIdxReq.mk j c rfl hg ?_ | refine zT ?_ | refine zF ?_ | refine zL hX hL ?_ | refine zB hX hL ?_ | (refine zS hX hL ?_; clear hL; intro w hL) | refine zI ?_ | refine zG hX ?_ | refine zO ?_); conv => whnf)
        refine BrReq.dec (fun h48 => ?_) (fun h48 => ?_)
        · conv => whnf
          repeat ((first | refine zT ?_ | refine zF ?_ | refine zL hX hL ?_ | refine zB hX hL ?_ | (refine zS hX hL ?_; clear hL; intro w hL) | refine zI ?_ | refine zG hX ?_ | refine zO ?_); conv => whnf)
          refine RetReq.int hL (hno ?_).symm
          cases e1 : isD c.toNat with
          | true => have := hD.1 e1; omega
          | false => rfl
        · conv => whnf
          repeat ((first | refine StrIdxReq.mk j c rfl hg ?_ | refine zT ?_ | refine zF ?_ | refine zL hX hL ?_ | refine zB hX hL ?_ | (refine zS hX hL ?_; clear hL; intro w hL) | refine zI ?_ | refine zG hX ?_ | refine zO ?_); conv => whnf)
          refine BrReq.dec (fun h57 => ?_) (fun h57 => ?_)
          · conv => whnf
            repeat ((first | refine zT ?_ | refine zF ?_ | refine zL hX hL ?_ | refine zB hX hL ?_ | (refine zS hX hL ?_; clear hL; intro w hL) | refine zI ?_ | refine zG hX ?_ | refine zO ?_); conv => whnf)
            refine RetReq.int hL (hno ?_).symm
            cases e1 : isD c.toNat with
            | true => have := hD.1 e1; omega
            | false => rfl
          · conv => whnf
            repeat ((first | refine StrIdxReq.mk j c rfl hg ?_ | refine zT ?_ | refine zF ?_ | refine zL hX hL ?_ | refine zB hX hL ?_ | (refine zS hX hL ?_; clear hL; intro w hL) | refine zI ?_ | refine zG hX ?_ | refine zO ?_); conv => whnf)
            have hall' : ∀ d ∈ s.take (j + 1), isD d.toNat = true := by
              rw [htk]; intro d hd
              rcases List.mem_append.1 hd with h | h
              · exact hall d h
              · rw [List.mem_singleton.1 h]; exact hD.2 (by omega)
            refine ⟨(j + 1, 10 * n + ((c.toNat : Int) - 48)), ⟨⟨⟨by simp only; omega, by simp only; rw [htk, valT_snoc, hn]⟩, hall'⟩, hL⟩, by first | omega | (simp only; omega) | (simp only [List.length_cons, List.length_append]; omega), ?_, ?_⟩
            · repeat (first | exact trivial | (refine And.intro (by (conv => lhs; whnf) <;> (conv => rhs; whnf) <;> (first | rfl | (exact congrArg (Value.int .i64) (by simp only; omega)))) ?_))
            · repeat (first | exact trivial | (refine And.intro (by (conv => lhs; whnf) <;> (conv => rhs; whnf) <;> (first | rfl | (exact congrArg (Value.int .i64) (by simp only; omega)))) ?_))
      · have ej : j = s.length := by omega
        subst ej
        rw [List.take_length] at hn hall
        rw [hcv.1 hall, ← hn]
        by_cases h20 : 20 < n
        · rw [if_pos h20]
          conv => whnf
          repeat ((first | refine BrReq.yes (by omega) ?_ | refine zT ?_ | refine zF ?_ | refine zL hX hL ?_ | refine zB hX hL ?_ | (refine zS hX hL ?_; clear hL; intro w hL) | refine zI ?_ | refine zG hX ?_ | refine zO ?_); conv => whnf)
          exact RetReq.int hL rfl
        · rw [if_neg h20]
          conv => whnf
          repeat ((first | refine BrReq.no (by omega) ?_ | refine zT ?_ | refine zF ?_ | refine zL hX hL ?_ | refine zB hX hL ?_ | (refine zS hX hL ?_; clear hL; intro w hL) | refine zI ?_ | refine zG hX ?_ | refine zO ?_); conv => whnf)
          exact RetReq.int hL rfl
end Go.Proofs.YtemdkfohlppckaaGreatDoor.lx
