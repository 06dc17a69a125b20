/- Patterns alike. Conditions: none. -/
import Derived.Test.YtemdkfohlppckaaGreatDoorTree

namespace Go.Proofs.YtemdkfohlppckaaGreatDoor.tree
open Go Go.Ev Go.Proofs

/-- Alike, but for their parts. -/
def headEq : Re → Re → Bool
  | .mk k s0 s1 s2 s3 rs lo hi neg, .mk k' t0 t1 t2 t3 rs' lo' hi' neg' =>
    decide (k = k' ∧ (s0 = t0 ∧ s1 = t1 ∧ s2 = t2 ∧ s3 = t3) ∧ lo = lo' ∧ hi = hi' ∧ neg = neg' ∧ rs.length = rs'.length)
def sameR : Nat → Re → Re → Bool
  | 0, _, _ => false
  | k + 1, a, b => headEq a b && (List.zipWith (sameR k) a.parts b.parts).all id

theorem all_zip {f : Re → Re → Bool} : ∀ (l r : List Re), l.length = r.length → ((List.zipWith f l r).all id = true ↔ ∀ (i : Nat) (x y : Re), l[i]? = some x → r[i]? = some y → f x y = true) := by
  intro l
  induction l with
  | nil => intro r h; simp
  | cons a l ih =>
    intro r h
    cases r with
    | nil => simp at h
    | cons b r =>
      simp only [List.zipWith_cons_cons, List.all_cons, id_eq, Bool.and_eq_true]
      rw [ih r (by simpa using h)]
      constructor
      · rintro ⟨h1, h2⟩ i x y hx hy
        cases i with
        | zero => simp at hx hy; subst hx hy; exact h1
        | succ i => exact h2 i x y (by simpa using hx) (by simpa using hy)
      · intro h1
        exact ⟨h1 0 a b rfl rfl, fun i x y hx hy => h1 (i + 1) x y (by simpa using hx) (by simpa using hy)⟩

theorem refSame_fn : ∀ (k : Nat) (m : Mem) (r r' : Re) (cs cs' : List Value), RepRe m cs r → RepRe m cs' r' → k ≤ 1000 →
    FnV Tryz.prog 10 [.agg (toArr cs), .agg (toArr cs'), .int .i64 k] m (.bool (sameR k r r')) := by
  intro k
  induction k with
  | zero =>
    intro m r r' cs cs' h h' _
    obtain ⟨kd, s0, s1, s2, s3, rs, lo, hi, neg⟩ := r
    obtain ⟨A, n, c, rfl, hs, _⟩ := h.open
    obtain ⟨kd', t0, t1, t2, t3, rs', lo', hi', neg'⟩ := r'
    obtain ⟨A', n', c', rfl, hs', _⟩ := h'.open
    refine Fn.enter (N := 75) hX Tryz.func10 rfl rfl (by show _ ≤ _; simp) (fun w0 hL => ?_)
    conv => whnf
    refine NewReq.mk hL ?_
    clear hL
    intro b3 w hL
    conv => whnf
    refine NewReq.mk hL ?_
    clear hL
    intro b4 w hL
    conv => whnf
    conv => whnf
    repeat ((first | refine zT ?_ | refine zF ?_ | refine zL hX hL ?_ | refine zB hX hL ?_ | (refine zS hX hL ?_; clear hL; intro w hL) | refine zI ?_ | refine zG hX ?_ | refine zO ?_); conv => whnf)
    exact RetReq.mk hL.drop.drop ⟨rfl, rfl⟩
  | succ k ih =>
    intro m r r' cs cs' h h' hk
    obtain ⟨kd, s0, s1, s2, s3, rs, lo, hi, neg⟩ := r
    obtain ⟨A, n, c, rfl, hs, _⟩ := h.open
    obtain ⟨kd', t0, t1, t2, t3, rs', lo', hi', neg'⟩ := r'
    obtain ⟨A', n', c', rfl, hs', _⟩ := h'.open
    obtain ⟨hn, hc, hm⟩ := hs.lens
    obtain ⟨hn', hc', hm'⟩ := hs'.lens
    have hmx : maxLen = 9223372036854775807 := rfl
    have he := hs.elem
    have he' := hs'.elem
    have hno : ¬(kd = kd' ∧ (s0 = t0 ∧ s1 = t1 ∧ s2 = t2 ∧ s3 = t3) ∧ lo = lo' ∧ hi = hi' ∧ neg = neg' ∧ rs.length = rs'.length) → sameR (k + 1) (.mk kd s0 s1 s2 s3 rs lo hi neg) (.mk kd' t0 t1 t2 t3 rs' lo' hi' neg') = false := by
      intro h; simp only [sameR, headEq, decide_eq_false h, Bool.false_and]
    have hset : (!(decide (s0 = t0) && (decide (s1 = t1) && (decide (s2 = t2) && (decide (s3 = t3) && true))))) = true → ¬(s0 = t0 ∧ s1 = t1 ∧ s2 = t2 ∧ s3 = t3) := by
      rintro h ⟨h0, h1, h2, h3⟩; simp [h0, h1, h2, h3] at h
    have hset' : (!(decide (s0 = t0) && (decide (s1 = t1) && (decide (s2 = t2) && (decide (s3 = t3) && true))))) = false → (s0 = t0 ∧ s1 = t1 ∧ s2 = t2 ∧ s3 = t3) := by
      intro h; simpa using h
    refine Fn.enter (N := 75) hX Tryz.func10 rfl rfl (by show _ ≤ _; simp) (fun w0 hL => ?_)
    conv => whnf
    refine NewReq.mk hL ?_
    clear hL
    intro b3 w hL
    conv => whnf
    refine NewReq.mk hL ?_
    clear hL
    intro b4 w hL
    conv => whnf
    conv => whnf
    repeat ((first | refine zT ?_ | refine zF ?_ | refine zL hX hL ?_ | refine zB hX hL ?_ | (refine zS hX hL ?_; clear hL; intro w hL) | refine zI ?_ | refine zG hX ?_ | refine zO ?_); conv => whnf)
    refine BrReq.dec (fun g1 => ?_) (fun g1 => ?_)
    · conv => whnf
      repeat ((first | refine zT ?_ | refine zF ?_ | refine zL hX hL ?_ | refine zB hX hL ?_ | (refine zS hX hL ?_; clear hL; intro w hL) | refine zI ?_ | refine zG hX ?_ | refine zO ?_); conv => whnf)
      exact RetReq.mk hL.drop.drop ⟨rfl, by rw [hno (fun h => g1 h.1)]; rfl⟩
    conv => whnf
    repeat ((first | refine UGenReq.neA hX rfl rfl rfl Tryz.eqGuardType33 rfl rfl rfl ?_ | refine zT ?_ | refine zF ?_ | refine zL hX hL ?_ | refine zB hX hL ?_ | (refine zS hX hL ?_; clear hL; intro w hL) | refine zI ?_ | refine zG hX ?_ | refine zO ?_); conv => whnf)
    refine BrReq.bool (fun g2 => ?_) (fun g2 => ?_)
    · conv => whnf
      repeat ((first | refine zT ?_ | refine zF ?_ | refine zL hX hL ?_ | refine zB hX hL ?_ | (refine zS hX hL ?_; clear hL; intro w hL) | refine zI ?_ | refine zG hX ?_ | refine zO ?_); conv => whnf)
      exact RetReq.mk hL.drop.drop ⟨rfl, by rw [hno (fun h => hset g2 h.2.1)]; rfl⟩
    conv => whnf
    repeat ((first | refine zT ?_ | refine zF ?_ | refine zL hX hL ?_ | refine zB hX hL ?_ | (refine zS hX hL ?_; clear hL; intro w hL) | refine zI ?_ | refine zG hX ?_ | refine zO ?_); conv => whnf)
    refine BrReq.dec (fun g3 => ?_) (fun g3 => ?_)
    · conv => whnf
      repeat ((first | refine zT ?_ | refine zF ?_ | refine zL hX hL ?_ | refine zB hX hL ?_ | (refine zS hX hL ?_; clear hL; intro w hL) | refine zI ?_ | refine zG hX ?_ | refine zO ?_); conv => whnf)
      exact RetReq.mk hL.drop.drop ⟨rfl, by rw [hno (fun h => g3 h.2.2.1)]; rfl⟩
    conv => whnf
    repeat ((first | refine zT ?_ | refine zF ?_ | refine zL hX hL ?_ | refine zB hX hL ?_ | (refine zS hX hL ?_; clear hL; intro w hL) | refine zI ?_ | refine zG hX ?_ | refine zO ?_); conv => whnf)
    refine BrReq.dec (fun g4 => ?_) (fun g4 => ?_)
    · conv => whnf
      repeat ((first | refine zT ?_ | refine zF ?_ | refine zL hX hL ?_ | refine zB hX hL ?_ | (refine zS hX hL ?_; clear hL; intro w hL) | refine zI ?_ | refine zG hX ?_ | refine zO ?_); conv => whnf)
      exact RetReq.mk hL.drop.drop ⟨rfl, by rw [hno (fun h => g4 h.2.2.2.1)]; rfl⟩
    conv => whnf
    repeat ((first | refine zT ?_ | refine zF ?_ | refine zL hX hL ?_ | refine zB hX hL ?_ | (refine zS hX hL ?_; clear hL; intro w hL) | refine zI ?_ | refine zG hX ?_ | refine zO ?_); conv => whnf)
    refine BrReq.bool (fun g5 => ?_) (fun g5 => ?_)
    · conv => whnf
      repeat ((first | refine zT ?_ | refine zF ?_ | refine zL hX hL ?_ | refine zB hX hL ?_ | (refine zS hX hL ?_; clear hL; intro w hL) | refine zI ?_ | refine zG hX ?_ | refine zO ?_); conv => whnf)
      exact RetReq.mk hL.drop.drop ⟨rfl, by rw [hno (fun h => by rw [h.2.2.2.2.1] at g5; simp at g5)]; rfl⟩
    conv => whnf
    repeat ((first | refine zT ?_ | refine zF ?_ | refine zL hX hL ?_ | refine zB hX hL ?_ | (refine zS hX hL ?_; clear hL; intro w hL) | refine zI ?_ | refine zG hX ?_ | refine zO ?_); conv => whnf)
    refine BrReq.dec (fun g6 => ?_) (fun g6 => ?_)
    · conv => whnf
      repeat ((first | refine zT ?_ | refine zF ?_ | refine zL hX hL ?_ | refine zB hX hL ?_ | (refine zS hX hL ?_; clear hL; intro w hL) | refine zI ?_ | refine zG hX ?_ | refine zO ?_); conv => whnf)
      exact RetReq.mk hL.drop.drop ⟨rfl, by rw [hno (fun h => by have := h.2.2.2.2.2; omega)]; rfl⟩
    conv => whnf
    repeat ((first | refine zT ?_ | refine zF ?_ | refine zL hX hL ?_ | refine zB hX hL ?_ | (refine zS hX hL ?_; clear hL; intro w hL) | refine zI ?_ | refine zG hX ?_ | refine zO ?_); conv => whnf)
    have hg5 : neg = neg' := by simpa using g5
    have hg6 : rs.length = rs'.length := by omega
    have hyes : sameR (k + 1) (.mk kd s0 s1 s2 s3 rs lo hi neg) (.mk kd' t0 t1 t2 t3 rs' lo' hi' neg') = (List.zipWith (sameR k) rs rs').all id := by
      simp only [sameR, headEq, Re.parts]
      rw [decide_eq_true ⟨Decidable.not_not.1 g1, hset' g2, Decidable.not_not.1 g3, Decidable.not_not.1 g4, hg5, hg6⟩, Bool.true_and]
    refine LoopReq.inv hX (fun j : Nat => [(57, .int .i64 j)]) [2, 3, 4, 56]
      (fun j w => (j ≤ n ∧ ∀ (i : Nat) (x y : Re), i < j → rs[i]? = some x → rs'[i]? = some y → sameR k x y = true) ∧ Ev.Loc m [] w0 m [(b4, .cells (toArr (reC kd' t0 t1 t2 t3 (.slice A' n' c') lo' hi' neg')) 36 (0, 0)), (b3, .cells (toArr (reC kd s0 s1 s2 s3 (.slice A n c) lo hi neg)) 36 (0, 0))] w) (fun j => n - j) 0
      ⟨⟨by omega, fun i x y h => absurd h (by omega)⟩, hL⟩ ⟨rfl, trivial⟩ ?_
    clear hL
    rintro j w f ⟨⟨hj, hdone⟩, hL⟩
    conv => whnf
    repeat ((first | refine zT ?_ | refine zF ?_ | refine zL hX hL ?_ | refine zB hX hL ?_ | (refine zS hX hL ?_; clear hL; intro w hL) | refine zI ?_ | refine zG hX ?_ | refine zO ?_); conv => whnf)
    refine BrReq.dec (fun hlt => ?_) (fun hlt => ?_)
    · have hlt' : j < rs.length := by omega
      have hlt2 : j < rs'.length := by omega
      obtain ⟨a, cs1, rfl, hl9, hcells, hrep⟩ := he j _ (List.getElem?_eq_getElem hlt')
      obtain ⟨k1, u0, u1, u2, u3, A1, n1, c1, lo1, hi1, neg1, rfl⟩ := hrep.form
      obtain ⟨a', cs2, rfl, hl9', hcells', hrep'⟩ := he' j _ (List.getElem?_eq_getElem hlt2)
      obtain ⟨k2, v0, v1, v2, v3, A2, n2, c2, lo2, hi2, neg2, rfl⟩ := hrep'.form
      conv => whnf
      repeat ((first | refine zT ?_ | refine zF ?_ | refine zL hX hL ?_ | refine zB hX hL ?_ | (refine zS hX hL ?_; clear hL; intro w hL) | refine zI ?_ | refine zG hX ?_ | refine zO ?_); conv => whnf)
      refine DrawReq.plan hX (.fst 0 (.fst 1 (.fst 2 (.fst 3 (.fst 4 (.fst 5 (.fst 6 (.fst 7 (.fst 8 (.fst 9 (.fst 10 (.fst 11 (.alt 12 (.fst 13 (.done)) (.stop)))))))))))))) _ (by kernel_rfl) (by kernel_rfl) hL id ?_
      clear hL
      intro w hL
      conv => whnf
      repeat ((first | refine Idx2Req.mk j a rfl (by omega) rfl ?_ | refine Idx2Req.mk j a' rfl (by omega) rfl ?_ | refine QLdReq.agg hX rfl rfl hl9 hcells ?_ | refine QLdReq.agg hX rfl rfl hl9' hcells' ?_ | refine zQ hX ?_ | refine zR hX ?_ | refine zA ?_ | refine zT ?_ | refine zF ?_ | refine zL hX hL ?_ | refine zB hX hL ?_ | (refine zS hX hL ?_; clear hL; intro w hL) | refine zI ?_ | refine zG hX ?_ | refine zO ?_); conv => whnf)
      rw [show ((k + 1 : Nat) : Int) - 1 = (k : Int) by omega]
      refine CallReq.val (ih m _ _ _ _ hrep hrep' (by omega)) hL ?_
      clear hL
      intro w hL
      conv => whnf
      repeat ((first | refine SReq.mk hL ?_ | refine zQ hX ?_ | refine zR hX ?_ | refine zA ?_ | refine zT ?_ | refine zF ?_ | refine zL hX hL ?_ | refine zB hX hL ?_ | (refine zS hX hL ?_; clear hL; intro w hL) | refine zI ?_ | refine zG hX ?_ | refine zO ?_); conv => whnf)
      refine BrReq.not ?_
      refine BrReq.bool (fun g => ?_) (fun g => ?_)
      · conv => whnf
        repeat ((first | refine zT ?_ | refine zF ?_ | refine zL hX hL ?_ | refine zB hX hL ?_ | (refine zS hX hL ?_; clear hL; intro w hL) | refine zI ?_ | refine zG hX ?_ | refine zO ?_); conv => whnf)
        have hd : ∀ (i : Nat) (x y : Re), i < j + 1 → rs[i]? = some x → rs'[i]? = some y → sameR k x y = true := by
          intro i x y hi hx hy
          by_cases e : i = j
          · subst e
            rw [List.getElem?_eq_getElem hlt'] at hx; rw [List.getElem?_eq_getElem hlt2] at hy
            cases hx; cases hy; exact g
          · exact hdone i x y (by omega) hx hy
        refine ⟨j + 1, ⟨⟨by omega, hd⟩, hL⟩, by first | omega | (simp only; omega) | (simp only [List.length_cons, List.length_append]; omega), ?_, ?_⟩
        · repeat (first | exact trivial | (refine And.intro (by (conv => lhs; whnf) <;> (conv => rhs; whnf) <;> (first | rfl)) ?_))
        · repeat (first | exact trivial | (refine And.intro (by (conv => lhs; whnf) <;> (conv => rhs; whnf) <;> (first | rfl)) ?_))
      · conv => whnf
        repeat ((first | refine zT ?_ | refine zF ?_ | refine zL hX hL ?_ | refine zB hX hL ?_ | (refine zS hX hL ?_; clear hL; intro w hL) | refine zI ?_ | refine zG hX ?_ | refine zO ?_); conv => whnf)
        refine RetReq.mk hL.drop.drop ⟨rfl, ?_⟩
        have : sameR (k + 1) (.mk kd s0 s1 s2 s3 rs lo hi neg) (.mk kd' t0 t1 t2 t3 rs' lo' hi' neg') = false := by
          rw [hyes, Bool.eq_false_iff]
          intro hc
          have := (all_zip rs rs' hg6).1 hc j _ _ (List.getElem?_eq_getElem hlt') (List.getElem?_eq_getElem hlt2)
          rw [g] at this; cases this
        rw [this]; rfl
    · conv => whnf
      repeat ((first | refine zT ?_ | refine zF ?_ | refine zL hX hL ?_ | refine zB hX hL ?_ | (refine zS hX hL ?_; clear hL; intro w hL) | refine zI ?_ | refine zG hX ?_ | refine zO ?_); conv => whnf)
      refine RetReq.mk hL.drop.drop ⟨rfl, ?_⟩
      have : sameR (k + 1) (.mk kd s0 s1 s2 s3 rs lo hi neg) (.mk kd' t0 t1 t2 t3 rs' lo' hi' neg') = true := by
        rw [hyes]
        exact (all_zip rs rs' hg6).2 fun i x y hx hy => hdone i x y (by have := (List.getElem?_eq_some_iff.1 hx).1; omega) hx hy
      rw [this]; rfl
end Go.Proofs.YtemdkfohlppckaaGreatDoor.tree
