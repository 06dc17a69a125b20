/- Patterns alike, as the program tells it. Conditions: none. -/
import Derived.Test.YtpdiljdklllmjaaGreatTreeFn

namespace Go.Proofs.YtpdiljdklllmjaaGreat.tree
open Go Go.Ev Go.Proofs

theorem equal_fn (m : Mem) (v v' : Value) (rs rs' : List Re) (f : Re → Re → Bool) (hs : Sl m 9 (RepRe m) v rs) (hs' : Sl m 9 (RepRe m) v' rs')
    (hf : ∀ p ∈ rs, ∀ q cs cs', RepRe m cs p → RepRe m cs' q → FnV Tryz.prog 45 [.agg (toArr cs), .agg (toArr cs')] m (.bool (f p q))) :
    FnV Tryz.prog 60 [v, v', .func (.func 45) #[] #[]] m (.bool (decide (rs.length = rs'.length) && (List.zipWith f rs rs').all id)) := by
  have hs0 := hs
  have hs0' := hs'
  obtain ⟨A, n, c, rfl, hn, hc, hm, -⟩ := hs
  obtain ⟨A', n', c', rfl, hn', hc', hm', -⟩ := hs'
  have he := hs0.elem
  have he' := hs0'.elem
  have hmx : maxLen = 9223372036854775807 := rfl
  refine Fn.enter (N := 32) hX Tryz.func60 rfl rfl (by show _ ≤ _; simp) (fun w0 hL => ?_)
  conv => whnf
  conv => whnf
  repeat ((first | refine zT ?_ | refine zF ?_ | refine zL hX hL ?_ | refine zB hX hL ?_ | (refine zS hX hL ?_; clear hL; intro w hL) | refine zI ?_ | refine zG hX ?_ | refine zO ?_); conv => whnf)
  refine BrReq.dec (fun g6 => ?_) (fun g6 => ?_)
  · conv => whnf
    repeat ((first | refine zT ?_ | refine zF ?_ | refine zL hX hL ?_ | refine zB hX hL ?_ | (refine zS hX hL ?_; clear hL; intro w hL) | refine zI ?_ | refine zG hX ?_ | refine zO ?_); conv => whnf)
    exact RetReq.bool hL (by rw [decide_eq_false (by omega), Bool.false_and])
  conv => whnf
  repeat ((first | refine zT ?_ | refine zF ?_ | refine zL hX hL ?_ | refine zB hX hL ?_ | (refine zS hX hL ?_; clear hL; intro w hL) | refine zI ?_ | refine zG hX ?_ | refine zO ?_); conv => whnf)
  have hg6 : rs.length = rs'.length := by omega
  refine LoopReq.inv hX (fun j : Nat => [(17, .int .i64 j)]) [1, 2, 15, 16]
    (fun j w => (j ≤ n ∧ ∀ (i : Nat) (x y : Re), i < j → rs[i]? = some x → rs'[i]? = some y → f x y = true) ∧ Ev.Loc m [] w0 m [] w) (fun j => n - j) 0
    ⟨⟨by omega, fun i x y h => absurd h (by omega)⟩, hL⟩ ⟨rfl, trivial⟩ ?_
  clear hL
  rintro j w g ⟨⟨hj, hdone⟩, hL⟩
  conv => whnf
  repeat ((first | refine zT ?_ | refine zF ?_ | refine zL hX hL ?_ | refine zB hX hL ?_ | (refine zS hX hL ?_; clear hL; intro w hL) | refine zI ?_ | refine zG hX ?_ | refine zO ?_); conv => whnf)
  refine BrReq.dec (fun hlt => ?_) (fun hlt => ?_)
  · have hlt' : j < rs.length := by omega
    have hlt2 : j < rs'.length := by omega
    obtain ⟨a, cs1, rfl, hl9, hcells, hrep⟩ := he j _ (List.getElem?_eq_getElem hlt')
    obtain ⟨k1, u0, u1, u2, u3, A1, n1, c1, lo1, hi1, neg1, rfl⟩ := hrep.form
    obtain ⟨a', cs2, rfl, hl9', hcells', hrep'⟩ := he' j _ (List.getElem?_eq_getElem hlt2)
    obtain ⟨k2, v0, v1, v2, v3, A2, n2, c2, lo2, hi2, neg2, rfl⟩ := hrep'.form
    conv => whnf
    repeat ((first | refine Idx2Req.mk j a rfl (by omega) rfl ?_ | refine LdReq.agg hX rfl rfl hL hl9 hcells ?_ | refine zT ?_ | refine zF ?_ | refine zL hX hL ?_ | refine zB hX hL ?_ | (refine zS hX hL ?_; clear hL; intro w hL) | refine zI ?_ | refine zG hX ?_ | refine zO ?_); conv => whnf)
    refine NewReq.mk hL ?_
    clear hL
    intro b8 w hL
    conv => whnf
    conv => whnf
    repeat ((first | refine Idx2Req.mk j a' rfl (by omega) rfl ?_ | refine LdReq.agg hX rfl rfl hL hl9' hcells' ?_ | refine zT ?_ | refine zF ?_ | refine zL hX hL ?_ | refine zB hX hL ?_ | (refine zS hX hL ?_; clear hL; intro w hL) | refine zI ?_ | refine zG hX ?_ | refine zO ?_); conv => whnf)
    refine NewReq.mk hL ?_
    clear hL
    intro b9 w hL
    conv => whnf
    conv => whnf
    repeat ((first | refine zT ?_ | refine zF ?_ | refine zL hX hL ?_ | refine zB hX hL ?_ | (refine zS hX hL ?_; clear hL; intro w hL) | refine zI ?_ | refine zG hX ?_ | refine zO ?_); conv => whnf)
    refine CallReq.val (hf _ (List.getElem_mem hlt') _ _ _ hrep hrep') hL ?_
    clear hL
    intro w hL
    conv => whnf
    repeat ((first | refine zT ?_ | refine zF ?_ | refine zL hX hL ?_ | refine zB hX hL ?_ | (refine zS hX hL ?_; clear hL; intro w hL) | refine zI ?_ | refine zG hX ?_ | refine zO ?_); conv => whnf)
    refine BrReq.not ?_
    refine BrReq.bool (fun hb => ?_) (fun hb => ?_)
    · have hd : ∀ (i : Nat) (x y : Re), i < j + 1 → rs[i]? = some x → rs'[i]? = some y → f x y = true := by
        intro i x y hi hx hy
        by_cases e : i = j
        · subst e
          rw [List.getElem?_eq_getElem hlt'] at hx; rw [List.getElem?_eq_getElem hlt2] at hy
          cases hx; cases hy; exact hb
        · exact hdone i x y (by omega) hx hy
      conv => whnf
      repeat ((first | refine zT ?_ | refine zF ?_ | refine zL hX hL ?_ | refine zB hX hL ?_ | (refine zS hX hL ?_; clear hL; intro w hL) | refine zI ?_ | refine zG hX ?_ | refine zO ?_); conv => whnf)
      refine ⟨j + 1, ⟨⟨by omega, hd⟩, hL.drop.drop⟩, by first | omega | (simp only; omega), ?_, ?_⟩
      · repeat (first | exact trivial | (refine And.intro (by (conv => lhs; whnf) <;> (conv => rhs; whnf) <;> (first | rfl)) ?_))
      · repeat (first | exact trivial | (refine And.intro (by (conv => lhs; whnf) <;> (conv => rhs; whnf) <;> (first | rfl)) ?_))
    · conv => whnf
      repeat ((first | refine zT ?_ | refine zF ?_ | refine zL hX hL ?_ | refine zB hX hL ?_ | (refine zS hX hL ?_; clear hL; intro w hL) | refine zI ?_ | refine zG hX ?_ | refine zO ?_); conv => whnf)
      refine RetReq.bool hL.drop.drop ?_
      rw [decide_eq_true hg6, Bool.true_and]
      symm
      rw [Bool.eq_false_iff]
      intro hc
      have := (all_zip rs rs' hg6).1 hc j _ _ (List.getElem?_eq_getElem hlt') (List.getElem?_eq_getElem hlt2)
      rw [hb] at this; cases this
  · conv => whnf
    repeat ((first | refine zT ?_ | refine zF ?_ | refine zL hX hL ?_ | refine zB hX hL ?_ | (refine zS hX hL ?_; clear hL; intro w hL) | refine zI ?_ | refine zG hX ?_ | refine zO ?_); conv => whnf)
    refine RetReq.bool hL ?_
    rw [decide_eq_true hg6, Bool.true_and]
    symm
    exact (all_zip rs rs' hg6).2 fun i x y hx hy => hdone i x y (by have := (List.getElem?_eq_some_iff.1 hx).1; omega) hx hy

theorem deep_part {k : Nat} {kd s0 s1 s2 s3 lo hi : Int} {neg : Bool} {rs : List Re} (h : deepR (k + 1) (.mk kd s0 s1 s2 s3 rs lo hi neg) ≤ k + 1) : ∀ p ∈ rs, deepR k p ≤ k := by
  intro p hp
  simp only [deepR, Re.parts] at h
  have key : ∀ (l : List Nat) (a x : Nat), (x ∈ l ∨ x ≤ a) → x ≤ l.foldl max a := by
    intro l
    induction l with
    | nil => intro a x h; simpa using h
    | cons y l ih =>
      intro a x h
      refine ih _ _ ?_
      rcases h with h | h
      · rcases List.mem_cons.1 h with rfl | h
        · right; omega
        · left; exact h
      · right; omega
  have := key (rs.map (deepR k)) 0 (deepR k p) (.inl (List.mem_map.2 ⟨p, hp, rfl⟩))
  omega

theorem same_fn : ∀ (k : Nat) (m : Mem) (r r' : Re) (cs cs' : List Value), RepRe m cs r → RepRe m cs' r' → deepR k r ≤ k →
    FnV Tryz.prog 45 [.agg (toArr cs), .agg (toArr cs')] m (.bool (sameR (k + 1) r r')) := by
  intro k
  induction k with
  | zero => intro m r r' cs cs' h h' hd; simp [deepR] at hd
  | succ k ih =>
    intro m r r' cs cs' h h' hd
    obtain ⟨kd, s0, s1, s2, s3, rs, lo, hi, neg⟩ := r
    obtain ⟨A, n, c, rfl, hs, _⟩ := h.open
    obtain ⟨kd', t0, t1, t2, t3, rs', lo', hi', neg'⟩ := r'
    obtain ⟨A', n', c', rfl, hs', _⟩ := h'.open
    obtain ⟨hn, hc, hm⟩ := hs.lens
    obtain ⟨hn', hc', hm'⟩ := hs'.lens
    have hpd := deep_part hd
    have hno : ¬(kd = kd' ∧ (s0 = t0 ∧ s1 = t1 ∧ s2 = t2 ∧ s3 = t3) ∧ lo = lo' ∧ hi = hi' ∧ neg = neg') → sameR (k + 2) (.mk kd s0 s1 s2 s3 rs lo hi neg) (.mk kd' t0 t1 t2 t3 rs' lo' hi' neg') = false := by
      intro h; simp only [sameR, headEq]; rw [decide_eq_false (fun h' => h ⟨h'.1, h'.2.1, h'.2.2.1, h'.2.2.2.1, h'.2.2.2.2.1⟩), Bool.false_and]
    have hset : (decide (s0 = t0) && (decide (s1 = t1) && (decide (s2 = t2) && (decide (s3 = t3) && true)))) = false → ¬(s0 = t0 ∧ s1 = t1 ∧ s2 = t2 ∧ s3 = t3) := by
      rintro h ⟨h0, h1, h2, h3⟩; simp [h0, h1, h2, h3] at h
    have hset' : (decide (s0 = t0) && (decide (s1 = t1) && (decide (s2 = t2) && (decide (s3 = t3) && true)))) = true → (s0 = t0 ∧ s1 = t1 ∧ s2 = t2 ∧ s3 = t3) := by
      intro h; simpa using h
    refine Fn.enter (N := 45) hX Tryz.func45 rfl rfl (by show _ ≤ _; simp) (fun w0 hL => ?_)
    conv => whnf
    refine NewReq.mk hL ?_
    clear hL
    intro b2 w hL
    conv => whnf
    refine NewReq.mk hL ?_
    clear hL
    intro b3 w hL
    conv => whnf
    conv => whnf
    repeat ((first | refine zT ?_ | refine zF ?_ | refine zL hX hL ?_ | refine zB hX hL ?_ | (refine zS hX hL ?_; clear hL; intro w hL) | refine zI ?_ | refine zG hX ?_ | refine zO ?_); conv => whnf)
    refine BrReq.dec (fun g1 => ?_) (fun g1 => ?_)
    rotate_left
    · conv => whnf
      repeat ((first | refine zT ?_ | refine zF ?_ | refine zL hX hL ?_ | refine zB hX hL ?_ | (refine zS hX hL ?_; clear hL; intro w hL) | refine zI ?_ | refine zG hX ?_ | refine zO ?_); conv => whnf)
      exact RetReq.bool hL.drop.drop (by rw [hno (fun h => g1 h.1)])
    conv => whnf
    repeat ((first | refine UGenReq.eqA hX rfl rfl rfl Tryz.eqGuardType24 rfl rfl rfl ?_ | refine zT ?_ | refine zF ?_ | refine zL hX hL ?_ | refine zB hX hL ?_ | (refine zS hX hL ?_; clear hL; intro w hL) | refine zI ?_ | refine zG hX ?_ | refine zO ?_); conv => whnf)
    refine BrReq.bool (fun g2 => ?_) (fun g2 => ?_)
    rotate_left
    · conv => whnf
      repeat ((first | refine zT ?_ | refine zF ?_ | refine zL hX hL ?_ | refine zB hX hL ?_ | (refine zS hX hL ?_; clear hL; intro w hL) | refine zI ?_ | refine zG hX ?_ | refine zO ?_); conv => whnf)
      exact RetReq.bool hL.drop.drop (by rw [hno (fun h => hset g2 h.2.1)])
    conv => whnf
    repeat ((first | refine zT ?_ | refine zF ?_ | refine zL hX hL ?_ | refine zB hX hL ?_ | (refine zS hX hL ?_; clear hL; intro w hL) | refine zI ?_ | refine zG hX ?_ | refine zO ?_); conv => whnf)
    refine BrReq.dec (fun g3 => ?_) (fun g3 => ?_)
    rotate_left
    · conv => whnf
      repeat ((first | refine zT ?_ | refine zF ?_ | refine zL hX hL ?_ | refine zB hX hL ?_ | (refine zS hX hL ?_; clear hL; intro w hL) | refine zI ?_ | refine zG hX ?_ | refine zO ?_); conv => whnf)
      exact RetReq.bool hL.drop.drop (by rw [hno (fun h => g3 h.2.2.1)])
    conv => whnf
    repeat ((first | refine zT ?_ | refine zF ?_ | refine zL hX hL ?_ | refine zB hX hL ?_ | (refine zS hX hL ?_; clear hL; intro w hL) | refine zI ?_ | refine zG hX ?_ | refine zO ?_); conv => whnf)
    refine BrReq.dec (fun g4 => ?_) (fun g4 => ?_)
    rotate_left
    · conv => whnf
      repeat ((first | refine zT ?_ | refine zF ?_ | refine zL hX hL ?_ | refine zB hX hL ?_ | (refine zS hX hL ?_; clear hL; intro w hL) | refine zI ?_ | refine zG hX ?_ | refine zO ?_); conv => whnf)
      exact RetReq.bool hL.drop.drop (by rw [hno (fun h => g4 h.2.2.2.1)])
    conv => whnf
    repeat ((first | refine zT ?_ | refine zF ?_ | refine zL hX hL ?_ | refine zB hX hL ?_ | (refine zS hX hL ?_; clear hL; intro w hL) | refine zI ?_ | refine zG hX ?_ | refine zO ?_); conv => whnf)
    refine BrReq.bool (fun g5 => ?_) (fun g5 => ?_)
    rotate_left
    · conv => whnf
      repeat ((first | refine zT ?_ | refine zF ?_ | refine zL hX hL ?_ | refine zB hX hL ?_ | (refine zS hX hL ?_; clear hL; intro w hL) | refine zI ?_ | refine zG hX ?_ | refine zO ?_); conv => whnf)
      exact RetReq.bool hL.drop.drop (by rw [hno (fun h => by rw [h.2.2.2.2] at g5; simp at g5)])
    conv => whnf
    repeat ((first | refine zT ?_ | refine zF ?_ | refine zL hX hL ?_ | refine zB hX hL ?_ | (refine zS hX hL ?_; clear hL; intro w hL) | refine zI ?_ | refine zG hX ?_ | refine zO ?_); conv => whnf)
    refine CallReq.val (equal_fn m _ _ rs rs' (sameR (k + 1)) hs hs' fun p hp q cs1 cs2 h1 h2 => ih m p q cs1 cs2 h1 h2 (hpd p hp)) hL ?_
    clear hL
    intro w hL
    conv => whnf
    repeat ((first | refine zT ?_ | refine zF ?_ | refine zL hX hL ?_ | refine zB hX hL ?_ | (refine zS hX hL ?_; clear hL; intro w hL) | refine zI ?_ | refine zG hX ?_ | refine zO ?_); conv => whnf)
    refine RetReq.bool hL.drop.drop ?_
    have hg5 : neg = neg' := by simpa using g5
    simp only [sameR, headEq, Re.parts]
    congr 1
    refine decide_eq_decide.2 ⟨fun h => ⟨g1, hset' g2, g3, g4, hg5, h⟩, fun h => h.2.2.2.2.2⟩

theorem Same_fn (m : Mem) (r r' : Re) (cs cs' : List Value) (h : RepRe m cs r) (h' : RepRe m cs' r') :
    FnV Tryz.prog 38 [.agg (toArr cs), .agg (toArr cs')] m (.bool (decide (deepR 40 r ≤ 40) && decide (deepR 40 r' ≤ 40) && sameR 41 r r')) := by
  obtain ⟨k1, u0, u1, u2, u3, A1, n1, c1, lo1, hi1, neg1, rfl⟩ := h.form
  obtain ⟨k2, v0, v1, v2, v3, A2, n2, c2, lo2, hi2, neg2, rfl⟩ := h'.form
  refine Fn.enter (N := 18) hX Tryz.func38 rfl rfl (by show _ ≤ _; simp) (fun w0 hL => ?_)
  conv => whnf
  refine NewReq.mk hL ?_
  clear hL
  intro b2 w hL
  conv => whnf
  refine NewReq.mk hL ?_
  clear hL
  intro b3 w hL
  conv => whnf
  conv => whnf
  repeat ((first | refine zT ?_ | refine zF ?_ | refine zL hX hL ?_ | refine zB hX hL ?_ | (refine zS hX hL ?_; clear hL; intro w hL) | refine zI ?_ | refine zG hX ?_ | refine zO ?_); conv => whnf)
  refine CallReq.val (Deep_fn m r _ h) hL ?_
  clear hL
  intro w hL
  conv => whnf
  repeat ((first | refine zT ?_ | refine zF ?_ | refine zL hX hL ?_ | refine zB hX hL ?_ | (refine zS hX hL ?_; clear hL; intro w hL) | refine zI ?_ | refine zG hX ?_ | refine zO ?_); conv => whnf)
  refine BrReq.dec (fun g => ?_) (fun g => ?_)
  · conv => whnf
    repeat ((first | refine zT ?_ | refine zF ?_ | refine zL hX hL ?_ | refine zB hX hL ?_ | (refine zS hX hL ?_; clear hL; intro w hL) | refine zI ?_ | refine zG hX ?_ | refine zO ?_); conv => whnf)
    refine CallReq.val (Deep_fn m r' _ h') hL ?_
    clear hL
    intro w hL
    conv => whnf
    repeat ((first | refine zT ?_ | refine zF ?_ | refine zL hX hL ?_ | refine zB hX hL ?_ | (refine zS hX hL ?_; clear hL; intro w hL) | refine zI ?_ | refine zG hX ?_ | refine zO ?_); conv => whnf)
    refine BrReq.dec (fun g2 => ?_) (fun g2 => ?_)
    · conv => whnf
      repeat ((first | refine zT ?_ | refine zF ?_ | refine zL hX hL ?_ | refine zB hX hL ?_ | (refine zS hX hL ?_; clear hL; intro w hL) | refine zI ?_ | refine zG hX ?_ | refine zO ?_); conv => whnf)
      refine CallReq.val (same_fn 40 m r r' _ _ h h' (by omega)) hL ?_
      clear hL
      intro w hL
      conv => whnf
      repeat ((first | refine zT ?_ | refine zF ?_ | refine zL hX hL ?_ | refine zB hX hL ?_ | (refine zS hX hL ?_; clear hL; intro w hL) | refine zI ?_ | refine zG hX ?_ | refine zO ?_); conv => whnf)
      exact RetReq.bool hL.drop.drop (by rw [decide_eq_true (by omega : deepR 40 r ≤ 40), decide_eq_true (by omega : deepR 40 r' ≤ 40)]; rfl)
    · conv => whnf
      repeat ((first | refine zT ?_ | refine zF ?_ | refine zL hX hL ?_ | refine zB hX hL ?_ | (refine zS hX hL ?_; clear hL; intro w hL) | refine zI ?_ | refine zG hX ?_ | refine zO ?_); conv => whnf)
      exact RetReq.bool hL.drop.drop (by rw [decide_eq_false (by omega : ¬ deepR 40 r' ≤ 40), Bool.and_false, Bool.false_and])
  · conv => whnf
    repeat ((first | refine zT ?_ | refine zF ?_ | refine zL hX hL ?_ | refine zB hX hL ?_ | (refine zS hX hL ?_; clear hL; intro w hL) | refine zI ?_ | refine zG hX ?_ | refine zO ?_); conv => whnf)
    exact RetReq.bool hL.drop.drop (by rw [decide_eq_false (by omega : ¬ deepR 40 r ≤ 40), Bool.false_and, Bool.false_and])

theorem sameR_refl : ∀ (k : Nat) (r : Re), deepR k r ≤ k → sameR (k + 1) r r = true := by
  intro k
  induction k with
  | zero => intro r h; simp [deepR] at h
  | succ k ih =>
    intro r h
    obtain ⟨kd, s0, s1, s2, s3, rs, lo, hi, neg⟩ := r
    have hp := deep_part h
    have e : sameR (k + 2) (.mk kd s0 s1 s2 s3 rs lo hi neg) (.mk kd s0 s1 s2 s3 rs lo hi neg) = (List.zipWith (sameR (k + 1)) rs rs).all id := by
      simp only [sameR, headEq, Re.parts]; rw [decide_eq_true (by simp), Bool.true_and]
    rw [e]
    refine (all_zip rs rs rfl).2 fun i x y hx hy => ?_
    rw [hx] at hy; cases hy
    exact ih x (hp x (List.mem_of_getElem? hx))
end Go.Proofs.YtpdiljdklllmjaaGreat.tree
