/- NormBuilds, proved. Conditions: none beyond the row's own. -/
import Derived.Test.YtblpobeokfkggaaNoBound
import Derived.Test.YtblpobeokfkggaaNoBuildW
import Derived.Test.YtblpobeokfkggaaNoAwake
import Derived.Test.YtblpobeokfkggaaLooksMake
import Derived.Test.YtblpobeokfkggaaRows

namespace Go.Proofs.Ytblpobeokfkggaa.nbl
open Go Go.Ev Go.Proofs Go.ChangeShapes Go.WideShapes Go.ChangeAt Go.RowKit Go.Proofs.Ytblpobeokfkggaa.ar Go.Proofs.Ytblpobeokfkggaa.tabs Go.Proofs.Ytblpobeokfkggaa.tree Go.Proofs.Ytblpobeokfkggaa.looks

/-! ### A pattern without looks -/
mutual
def hasK : Re → Bool
  | .mk k _ _ _ _ rs _ _ _ => decide (8 ≤ k) || hasKL rs
def hasKL : List Re → Bool
  | [] => false
  | r :: l => hasK r || hasKL l
end
mutual
theorem looks_hasK : ∀ (r : Re) (ls : List Re), looksR r ls = [] ↔ ls = [] ∧ hasK r = false
  | .mk k s0 s1 s2 s3 rs lo hi neg, ls => by
    have ih := looks_hasKL rs ls
    rw [looksR, hasK, Bool.or_eq_false_iff, decide_eq_false_iff_not]
    split
    · rename_i hk
      rw [ih]
      exact ⟨fun h => ⟨h.1, by omega, h.2⟩, fun h => ⟨h.1, h.2.2⟩⟩
    split
    · rename_i hk ha
      constructor
      · intro h
        rw [h] at ha
        simp at ha
      · intro h; omega
    · rename_i hk _
      constructor
      · intro h; simp at h
      · intro h; omega
theorem looks_hasKL : ∀ (l : List Re) (ls : List Re), looksL l ls = [] ↔ ls = [] ∧ hasKL l = false
  | [], ls => by simp [looksL, hasKL]
  | r :: l, ls => by
    rw [looksL, hasKL, looks_hasKL l, looks_hasK r, Bool.or_eq_false_iff]
    exact and_assoc
end
theorem partsK0 {k : Int} (h : k = 0 ∨ k = 1 ∨ k = 2) : partsK k = 0 := by
  unfold partsK; rw [if_neg (by omega), if_neg (by omega)]
mutual
theorem err_hasK : ∀ (r : Re), allR r = true → ∀ (ns : List Nd) (e : Int), (bR (fun _ => -1) r ns e).1.2 = if hasK r then 10 else e
  | .mk k s0 s1 s2 s3 rs lo hi neg, hall, ns, e => by
    simp only [allR, Bool.and_eq_true, decide_eq_true_eq] at hall
    obtain ⟨hOw, hall⟩ := hall
    rw [allL_eq, List.all_eq_true] at hall
    obtain ⟨⟨hk0, -⟩, hparts, -⟩ := hOw
    have ih := err_hasKL rs hall
    have h0 : k = 0 ∨ k = 1 ∨ k = 2 → hasK (.mk k s0 s1 s2 s3 rs lo hi neg) = false := fun h => by
      rw [partsK0 h] at hparts
      have : rs = [] := List.eq_nil_of_length_eq_zero (by have := hparts (by omega); omega)
      subst this
      rw [hasK, hasKL, Bool.or_false]
      exact decide_eq_false (by omega)
    have h1 : k < 8 → hasK (.mk k s0 s1 s2 s3 rs lo hi neg) = hasKL rs := fun h => by rw [hasK, decide_eq_false (by omega), Bool.false_or]
    rw [bR]
    split
    · rw [h0 (by omega)]; rfl
    split
    · rw [h0 (by omega)]; rfl
    split
    · rw [h0 (by omega)]; rfl
    split
    · rw [h1 (by omega)]; exact ih _ e
    split
    · rw [h1 (by omega)]; exact ih _ e
    split
    · rw [h1 (by omega)]; exact ih _ e
    split
    · rw [h1 (by omega)]; exact ih _ e
    split
    · rw [h1 (by omega)]; exact ih _ e
    · rename_i k0 k1 k2 k3 k4 k5 k6 k7
      by_cases hk : 8 ≤ k
      · rw [hasK, decide_eq_true hk, Bool.true_or]; rfl
      · exfalso; omega
theorem err_hasKL : ∀ (l : List Re), (∀ p ∈ l, allR p = true) → ∀ (ns : List Nd) (e : Int), (bL (fun _ => -1) l ns e).1.2 = if hasKL l then 10 else e
  | [], _, ns, e => rfl
  | r :: l, h, ns, e => by
    rw [bL]
    dsimp only
    rw [err_hasKL l (fun p hp => h p (by simp [hp])), err_hasK r (h r (by simp)), hasKL]
    cases hasK r <;> cases hasKL l <;> rfl
end

theorem loopC_sum {f : Re → Nat} : ∀ (l : List Re) (n : Nat), loopC f l n ≤ 2000 → loopC f l n = n + (l.map f).sum := by
  intro l
  induction l with
  | nil => intro n _; simp [loopC]
  | cons p l ih =>
    intro n h
    simp only [loopC] at h ⊢
    split at h
    · omega
    · rename_i h2
      rw [if_neg h2, ih _ h]; simp [Nat.add_assoc]
theorem nodes_le : ∀ (k : Nat) (r : Re), cR k r ≤ 2000 → nodesR r ≤ cR k r := by
  intro k
  induction k with
  | zero => intro r h; simp [cR] at h
  | succ k ih =>
    intro r h
    obtain ⟨kd, s0, s1, s2, s3, rs, lo, hi, neg⟩ := r
    simp only [cR, Re.parts] at h ⊢
    obtain ⟨_, hs⟩ := loopC_small (cR_pos k) _ _ h
    rw [loopC_sum _ _ h]
    have : ∀ l : List Re, (∀ p ∈ l, cR k p ≤ 2000) → nodesL l ≤ (l.map (cR k)).sum := by
      intro l
      induction l with
      | nil => intro _; simp [nodesL]
      | cons p l ihl =>
        intro hl
        have h1 := ih p (hl p (by simp))
        have h2 := ihl fun q hq => hl q (by simp [hq])
        simp only [nodesL, List.map_cons, List.sum_cons]; omega
    have := this rs hs
    simp only [nodesR]; omega
/-- Two tables that tell the same. -/
theorem same_fn (m : Mem) (va vb : Value) (n : Nat) (f g : Nat → Nat → Bool) (ha : RepTab m va n f) (hb : RepTab m vb n g) (hn : n ≤ 1000) (he : Eqt n f g) : FnV Try.prog 30 [va, vb] m (.bool true) := by
  obtain ⟨A, c, rfl, hc, hm, hra⟩ := ha
  obtain ⟨B, d, rfl, hd, hmd, hrb⟩ := hb
  have hmx : maxLen = 9223372036854775807 := rfl
  refine Fn.enter (N := 34) hX Try.func30 rfl rfl (by show _ ≤ _; simp) (fun w0 hL => ?_)
  conv => whnf
  conv => whnf
  repeat ((first | refine zT ?_ | refine zF ?_ | refine zL hX hL ?_ | refine zB hX hL ?_ | (refine zS hX hL ?_; clear hL; intro w hL) | refine zI ?_ | refine zG hX ?_ | refine zO ?_); conv => whnf)
  refine LoopReq.inv hX (fun j : Nat => [(9, .int .i64 j)]) [0, 1, 8]
    (fun j w => j ≤ n ∧ Ev.Loc m [] w0 m [] w) (fun j => n - j) 0
    ⟨by omega, hL⟩ ⟨rfl, trivial⟩ ?_
  clear hL
  rintro i w f1 ⟨hi, hL⟩
  conv => whnf
  repeat ((first | refine zT ?_ | refine zF ?_ | refine zL hX hL ?_ | refine zB hX hL ?_ | (refine zS hX hL ?_; clear hL; intro w hL) | refine zI ?_ | refine zG hX ?_ | refine zO ?_); conv => whnf)
  refine BrReq.dec (fun hlt => ?_) (fun hlt => ?_)
  · have hi' : i < n := by omega
    obtain ⟨a, rfl, A1, c1, h1, h2⟩ := hra i hi'
    obtain ⟨b, rfl, B1, d1, k1, k2⟩ := hrb i hi'
    conv => whnf
    repeat ((first | refine zT ?_ | refine zF ?_ | refine zL hX hL ?_ | refine zB hX hL ?_ | (refine zS hX hL ?_; clear hL; intro w hL) | refine zI ?_ | refine zG hX ?_ | refine zO ?_); conv => whnf)
    refine LoopReq.inv hX (fun j : Nat => [(14, .int .i64 j)]) [0, 1, 5, 8, 9, 13]
      (fun j w => j ≤ n ∧ Ev.Loc m [] w0 m [] w) (fun j => n - j) 0
      ⟨by omega, hL⟩ ⟨rfl, trivial⟩ ?_
    clear hL
    rintro j w f2 ⟨hj, hL⟩
    conv => whnf
    repeat ((first | refine zT ?_ | refine zF ?_ | refine zL hX hL ?_ | refine zB hX hL ?_ | (refine zS hX hL ?_; clear hL; intro w hL) | refine zI ?_ | refine zG hX ?_ | refine zO ?_); conv => whnf)
    refine BrReq.dec (fun hlt2 => ?_) (fun hlt2 => ?_)
    · have hj' : j < n := by omega
      obtain ⟨a', rfl, h3⟩ := h2 j hj'
      obtain ⟨b', rfl, k3⟩ := k2 j hj'
      have e := he i j hi' hj'
      generalize f i j = x at h3 e
      generalize g i j = y at k3 e
      subst e
      cases x
      · conv => whnf
        repeat ((first | refine zT ?_ | refine zF ?_ | refine zL hX hL ?_ | refine zB hX hL ?_ | (refine zS hX hL ?_; clear hL; intro w hL) | refine zI ?_ | refine zG hX ?_ | refine zO ?_); conv => whnf)
        refine DrawReq.plan hX (.fst 0 (.fst 1 (.fst 2 (.fst 3 (.fst 4 (.fst 5 (.fst 6 (.fst 7 (.fst 8 (.fst 9 (.fst 10 (.fst 11 (.fst 12 (.fst 13 (.fst 14 (.done)))))))))))))))) [] (by kernel_rfl) (by kernel_rfl) hL (fun h => h.sublist (List.nil_sublist _)) ?_
        clear hL
        intro w hL
        conv => whnf
        repeat ((first | refine Idx2Req.mk i a rfl (by omega) rfl ?_ | refine Idx2Req.mk i b rfl (by omega) rfl ?_ | refine Idx2Req.mk j a' rfl (by omega) rfl ?_ | refine Idx2Req.mk j b' rfl (by omega) rfl ?_ | refine QLdReq.one hX rfl rfl h1 ?_ | refine QLdReq.one hX rfl rfl k1 ?_ | refine QLdReq.one hX rfl rfl h3 ?_ | refine QLdReq.one hX rfl rfl k3 ?_ | refine zQ hX ?_ | refine zR hX ?_ | refine zA ?_ | refine zT ?_ | refine zF ?_ | refine zL hX hL ?_ | refine zB hX hL ?_ | (refine zS hX hL ?_; clear hL; intro w hL) | refine zI ?_ | refine zG hX ?_ | refine zO ?_); conv => whnf)
        refine ⟨j + 1, ⟨by omega, hL⟩, by first | omega | (simp only; omega), ?_, ?_⟩
        · repeat (first | exact trivial | (refine And.intro (by (conv => lhs; whnf) <;> (conv => rhs; whnf) <;> (first | rfl)) ?_))
        · repeat (first | exact trivial | (refine And.intro (by (conv => lhs; whnf) <;> (conv => rhs; whnf) <;> (first | rfl)) ?_))
      · conv => whnf
        repeat ((first | refine zT ?_ | refine zF ?_ | refine zL hX hL ?_ | refine zB hX hL ?_ | (refine zS hX hL ?_; clear hL; intro w hL) | refine zI ?_ | refine zG hX ?_ | refine zO ?_); conv => whnf)
        refine DrawReq.plan hX (.fst 0 (.fst 1 (.fst 2 (.fst 3 (.fst 4 (.fst 5 (.fst 6 (.fst 7 (.fst 8 (.fst 9 (.fst 10 (.fst 11 (.fst 12 (.fst 13 (.fst 14 (.done)))))))))))))))) [] (by kernel_rfl) (by kernel_rfl) hL (fun h => h.sublist (List.nil_sublist _)) ?_
        clear hL
        intro w hL
        conv => whnf
        repeat ((first | refine Idx2Req.mk i a rfl (by omega) rfl ?_ | refine Idx2Req.mk i b rfl (by omega) rfl ?_ | refine Idx2Req.mk j a' rfl (by omega) rfl ?_ | refine Idx2Req.mk j b' rfl (by omega) rfl ?_ | refine QLdReq.one hX rfl rfl h1 ?_ | refine QLdReq.one hX rfl rfl k1 ?_ | refine QLdReq.one hX rfl rfl h3 ?_ | refine QLdReq.one hX rfl rfl k3 ?_ | refine zQ hX ?_ | refine zR hX ?_ | refine zA ?_ | refine zT ?_ | refine zF ?_ | refine zL hX hL ?_ | refine zB hX hL ?_ | (refine zS hX hL ?_; clear hL; intro w hL) | refine zI ?_ | refine zG hX ?_ | refine zO ?_); conv => whnf)
        refine ⟨j + 1, ⟨by omega, hL⟩, by first | omega | (simp only; omega), ?_, ?_⟩
        · repeat (first | exact trivial | (refine And.intro (by (conv => lhs; whnf) <;> (conv => rhs; whnf) <;> (first | rfl)) ?_))
        · repeat (first | exact trivial | (refine And.intro (by (conv => lhs; whnf) <;> (conv => rhs; whnf) <;> (first | rfl)) ?_))
    · conv => whnf
      repeat ((first | refine zT ?_ | refine zF ?_ | refine zL hX hL ?_ | refine zB hX hL ?_ | (refine zS hX hL ?_; clear hL; intro w hL) | refine zI ?_ | refine zG hX ?_ | refine zO ?_); conv => whnf)
      refine ⟨i + 1, ⟨by omega, hL⟩, by first | omega | (simp only; omega), ?_, ?_⟩
      · repeat (first | exact trivial | (refine And.intro (by (conv => lhs; whnf) <;> (conv => rhs; whnf) <;> (first | rfl)) ?_))
      · repeat (first | exact trivial | (refine And.intro (by (conv => lhs; whnf) <;> (conv => rhs; whnf) <;> (first | rfl)) ?_))
  · conv => whnf
    repeat ((first | refine zT ?_ | refine zF ?_ | refine zL hX hL ?_ | refine zB hX hL ?_ | (refine zS hX hL ?_; clear hL; intro w hL) | refine zI ?_ | refine zG hX ?_ | refine zO ?_); conv => whnf)
    exact RetReq.bool hL rfl

set_option maxHeartbeats 4000000 in
theorem walk (m : Mem) (r : Re) (cs : List Value) (wv : Value) (ws : List Int) (hrep : RepRe m cs r) (hw : SlI m .u8 wv ws) (hwb : ∀ z ∈ ws, 0 ≤ z ∧ z ≤ 255) : FnV Try.prog 5 [.agg (toArr cs), wv] m (.bool true) := by
  obtain ⟨k, s0, s1, s2, s3, A, n, c, lo, hi, neg, rfl⟩ := hrep.form
  obtain ⟨W, wn, wc, rfl, hwn, -, hwm, -⟩ := id hw
  have hmx : maxLen = 9223372036854775807 := rfl
  refine Fn.enter (N := 79) hX Try.func5 rfl rfl (by show _ ≤ _; simp) (fun w0 hL => ?_)
  conv => whnf
  refine NewReq.mk hL ?_
  clear hL
  intro b2 w hL
  conv => whnf
  replace hL : Ev.Loc m [] w0 m ((b2, .cells (toArr (reC k s0 s1 s2 s3 (.slice A n c) lo hi neg)) 53 (0, 0)) :: []) w := hL
  conv => whnf
  repeat ((first | refine zT ?_ | refine zF ?_ | refine zL hX hL ?_ | refine zB hX hL ?_ | (refine zS hX hL ?_; clear hL; intro w hL) | refine zI ?_ | refine zG hX ?_ | refine zO ?_); conv => whnf)
  refine CallReq.val (ar.awake_fn m) hL ?_
  clear hL
  intro w hL
  conv => whnf
  repeat ((first | refine zT ?_ | refine zF ?_ | refine zL hX hL ?_ | refine zB hX hL ?_ | (refine zS hX hL ?_; clear hL; intro w hL) | refine zI ?_ | refine zG hX ?_ | refine zO ?_); conv => whnf)
  refine CallReq.val (Few_fn m r _ hrep 60 (by omega)) hL ?_
  clear hL
  intro w hL
  by_cases hfew : cR 60 r ≤ 2000
  rotate_left
  · rw [decide_eq_false hfew]
    conv => whnf
    repeat ((first | refine zT ?_ | refine zF ?_ | refine zL hX hL ?_ | refine zB hX hL ?_ | (refine zS hX hL ?_; clear hL; intro w hL) | refine zI ?_ | refine zG hX ?_ | refine zO ?_); conv => whnf)
    refine CallReq.val (ar.awake_fn m) hL ?_
    clear hL
    intro w hL
    conv => whnf
    repeat ((first | refine zT ?_ | refine zF ?_ | refine zL hX hL ?_ | refine zB hX hL ?_ | (refine zS hX hL ?_; clear hL; intro w hL) | refine zI ?_ | refine zG hX ?_ | refine zO ?_); conv => whnf)
    exact RetReq.bool (hL.sublist (List.nil_sublist _)) rfl
  rw [decide_eq_true hfew]
  have hsmall := small_of 60 r hfew
  by_cases h6 : (6 : Int) < wn
  · conv => whnf
    repeat ((first | refine BrReq.yes h6 ?_ | refine zT ?_ | refine zF ?_ | refine zL hX hL ?_ | refine zB hX hL ?_ | (refine zS hX hL ?_; clear hL; intro w hL) | refine zI ?_ | refine zG hX ?_ | refine zO ?_); conv => whnf)
    refine CallReq.val (ar.awake_fn m) hL ?_
    clear hL
    intro w hL
    conv => whnf
    repeat ((first | refine zT ?_ | refine zF ?_ | refine zL hX hL ?_ | refine zB hX hL ?_ | (refine zS hX hL ?_; clear hL; intro w hL) | refine zI ?_ | refine zG hX ?_ | refine zO ?_); conv => whnf)
    exact RetReq.bool (hL.sublist (List.nil_sublist _)) rfl
  have hsz := refSize_fn r m _ hrep
  by_cases h150 : (150 : Int) < sizeR r
  · conv => whnf
    repeat ((first | refine BrReq.no h6 ?_ | refine zT ?_ | refine zF ?_ | refine zL hX hL ?_ | refine zB hX hL ?_ | (refine zS hX hL ?_; clear hL; intro w hL) | refine zI ?_ | refine zG hX ?_ | refine zO ?_); conv => whnf)
    refine CallReq.val hsz hL ?_
    clear hL
    intro w hL
    conv => whnf
    repeat ((first | refine BrReq.yes h150 ?_ | refine zT ?_ | refine zF ?_ | refine zL hX hL ?_ | refine zB hX hL ?_ | (refine zS hX hL ?_; clear hL; intro w hL) | refine zI ?_ | refine zG hX ?_ | refine zO ?_); conv => whnf)
    refine CallReq.val (ar.awake_fn m) hL ?_
    clear hL
    intro w hL
    conv => whnf
    repeat ((first | refine zT ?_ | refine zF ?_ | refine zL hX hL ?_ | refine zB hX hL ?_ | (refine zS hX hL ?_; clear hL; intro w hL) | refine zI ?_ | refine zG hX ?_ | refine zO ?_); conv => whnf)
    exact RetReq.bool (hL.sublist (List.nil_sublist _)) rfl
  conv => whnf
  repeat ((first | refine BrReq.no h6 ?_ | refine zT ?_ | refine zF ?_ | refine zL hX hL ?_ | refine zB hX hL ?_ | (refine zS hX hL ?_; clear hL; intro w hL) | refine zI ?_ | refine zG hX ?_ | refine zO ?_); conv => whnf)
  refine CallReq.val hsz hL ?_
  clear hL
  intro w hL
  conv => whnf
  repeat ((first | refine BrReq.no h150 ?_ | refine zT ?_ | refine zF ?_ | refine zL hX hL ?_ | refine zB hX hL ?_ | (refine zS hX hL ?_; clear hL; intro w hL) | refine zI ?_ | refine zG hX ?_ | refine zO ?_); conv => whnf)
  refine CallReq.mk (L1 := []) (L2 := [_]) (New_fn m) hL ?_
  clear hL
  rintro u mx La w hL - ⟨hmx', ab, rfl, hA⟩
  rw [hmx'] at hL
  clear hmx' mx
  have hL := Loc.back (L1 := La) (L2 := [_]) hL
  replace hL : Ev.Loc m [] w0 m ((b2, .cells (toArr (reC k s0 s1 s2 s3 (.slice A n c) lo hi neg)) 53 (0, 0)) :: La) w := hL
  conv => whnf
  repeat ((first | refine zT ?_ | refine zF ?_ | refine zL hX hL ?_ | refine zB hX hL ?_ | (refine zS hX hL ?_; clear hL; intro w hL) | refine zI ?_ | refine zG hX ?_ | refine zO ?_); conv => whnf)
  refine CallReq.pure (refLooks_fn r m _ (.slice none 0 0) [] hrep (Sl.nil _ _ _) (by have := nodes_le 60 r hfew; simp; omega)) hL ?_
  clear hL
  rintro u m1 w hL hm1 hlooks
  have hlk0 := looks_hasK r []
  generalize looksR r [] = ls at hlooks hlk0
  obtain ⟨Al, nl, cl, rfl, hnl, -⟩ := id hlooks
  have hrep1 := hrep.le hm1
  have hw1 : SlI m1 .u8 (.slice W wn wc) ws := hw.le hm1 (fun _ _ _ h => h)
  conv => whnf
  repeat ((first | refine zT ?_ | refine zF ?_ | refine zL hX hL ?_ | refine zB hX hL ?_ | (refine zS hX hL ?_; clear hL; intro w hL) | refine zI ?_ | refine zG hX ?_ | refine zO ?_); conv => whnf)
  refine CallReq.mk (L1 := La) (L2 := [_]) (Build_fn (fun _ => -1) .nilFunc (.inl rfl) m1 r (fun q _ => looked_nil m1 q) _ hrep1 ab [] La hA okA_nil) (Loc.back (L1 := [_]) hL) ?_
  clear hL
  rintro u m2 Lb w hL hm2 ⟨rfl, hA2⟩
  have hL := Loc.back (L1 := Lb) (L2 := [_]) hL
  replace hL : Ev.Loc m [] w0 m2 ((b2, .cells (toArr (reC k s0 s1 s2 s3 (.slice A n c) lo hi neg)) 53 (0, 0)) :: Lb) w := hL
  have hrep2 := hrep1.le hm2
  have hw2 : SlI m2 .u8 (.slice W wn wc) ws := hw1.le hm2 (fun _ _ _ h => h)
  unfold buildN at hA2 ⊢
  by_cases hff : formedR r = false
  · rw [if_pos hff] at hA2 ⊢
    conv => whnf
    repeat ((first | refine zT ?_ | refine zF ?_ | refine zL hX hL ?_ | refine zB hX hL ?_ | (refine zS hX hL ?_; clear hL; intro w hL) | refine zI ?_ | refine zG hX ?_ | refine zO ?_); conv => whnf)
    refine CallReq.val (refFormed_fn m2 r _ hrep2) hL ?_
    clear hL
    intro w hL
    rw [hff]
    conv => whnf
    repeat ((first | refine zT ?_ | refine zF ?_ | refine zL hX hL ?_ | refine zB hX hL ?_ | (refine zS hX hL ?_; clear hL; intro w hL) | refine zI ?_ | refine zG hX ?_ | refine zO ?_); conv => whnf)
    exact RetReq.bool (hL.sublist (List.nil_sublist _)) rfl
  rw [if_neg hff] at hA2 ⊢
  have hf : formedR r = true := by cases h : formedR r; exact absurd h hff; rfl
  obtain ⟨hall, hsz1⟩ := formed_size hf
  have herr := err_hasK r hall [] 0
  have hin := rep_in r hrep
  dsimp only at hA2 ⊢
  by_cases hls : ls = []
  rotate_left
  · have hk : hasK r = true := by
      cases hk : hasK r with
      | true => rfl
      | false => exact absurd (hlk0.2 ⟨rfl, hk⟩) hls
    rw [hk, if_pos rfl] at herr
    rw [herr, if_pos (by decide)] at hA2 ⊢
    have hnl1 : 0 < nl := by
      rw [hnl]; exact List.length_pos_iff.2 hls
    conv => whnf
    repeat ((first | refine zT ?_ | refine zF ?_ | refine zL hX hL ?_ | refine zB hX hL ?_ | (refine zS hX hL ?_; clear hL; intro w hL) | refine zI ?_ | refine zG hX ?_ | refine zO ?_); conv => whnf)
    refine CallReq.val (refFormed_fn m2 r _ hrep2) hL ?_
    clear hL
    intro w hL
    rw [hf]
    conv => whnf
    repeat ((first | refine BrReq.yes (by omega) ?_ | refine zT ?_ | refine zF ?_ | refine zL hX hL ?_ | refine zB hX hL ?_ | (refine zS hX hL ?_; clear hL; intro w hL) | refine zI ?_ | refine zG hX ?_ | refine zO ?_); conv => whnf)
    exact RetReq.bool (hL.sublist (List.nil_sublist _)) rfl
  · subst hls
    have hnl0 : nl = 0 := hnl
    subst hnl0
    have hk := (hlk0.1 rfl).2
    rw [hk, if_neg (by decide)] at herr
    rw [herr, if_neg (by decide)] at hA2 ⊢
    have hdp := dp_le 40 r (by unfold formedR at hf; simp only [Bool.and_eq_true, decide_eq_true_eq] at hf; exact hf.1.1)
    have hd40 : deepR 40 r ≤ 40 := by unfold formedR at hf; simp only [Bool.and_eq_true, decide_eq_true_eq] at hf; exact hf.1.1
    have hg : gR r ≤ 19990 := by
      rw [gR_eq]
      unfold gB
      have h1 : sizeR r * dpR r ≤ 150 * 40 := Nat.mul_le_mul (by omega) (by omega)
      omega
    obtain ⟨hb1, hb2, hb3⟩ := bR_bd (fun _ => -1) r hin hall hsz1 [] 0 okA_nil (by simpa using hg)
    rw [List.length_nil, Nat.zero_add] at hb3
    have hhas := fun bts => bR_has (ws := ws) (bts := bts) (lk := fun _ => -1) (fun k s0 s1 s2 s3 lo hi rs _ h0 => absurd h0 (by simp)) r hin hall [] okA_nil herr (by omega)
    generalize bR (fun _ => -1) r [] 0 = b at *
    obtain ⟨⟨ns, e⟩, id⟩ := b
    dsimp only at hA2 hb1 hb2 hb3 hhas ⊢
    have hid := hb1.ok
    rw [if_neg (show ¬ id < 0 by have := hid.1; omega)] at hA2 ⊢
    dsimp only at hA2 ⊢
    obtain ⟨i, rfl⟩ : ∃ i : Nat, id = i := ⟨id.toNat, by have := hid.1; omega⟩
    have hil : i < ns.length := by have := hid.2; omega
    conv => whnf
    repeat ((first | refine zT ?_ | refine zF ?_ | refine zL hX hL ?_ | refine zB hX hL ?_ | (refine zS hX hL ?_; clear hL; intro w hL) | refine zI ?_ | refine zG hX ?_ | refine zO ?_); conv => whnf)
    refine CallReq.val (refFormed_fn m2 r _ hrep2) hL ?_
    clear hL
    intro w hL
    rw [hf]
    conv => whnf
    repeat ((first | refine zT ?_ | refine zF ?_ | refine zL hX hL ?_ | refine zB hX hL ?_ | (refine zS hX hL ?_; clear hL; intro w hL) | refine zI ?_ | refine zG hX ?_ | refine zO ?_); conv => whnf)
    have hA3 := hA2
    obtain ⟨A1, c1, mb, L1, hLb, -⟩ := id hA2
    refine CallReq.li (L1 := [(ab, arO (.slice A1 ns.length c1) mb)]) (L2 := ((mb, mapW (ndW ns 0)) :: L1) ++ [(b2, .cells (toArr (reC k s0 s1 s2 s3 (.slice A n c) lo hi neg)) 53 (0, 0))]) (Len_fn m2 ab mb ns.length c1 A1) (by
      have h := Loc.back (L1 := [_]) hL
      rw [hLb] at h; exact h) ?_
    clear hL
    intro w hL
    replace hL : Ev.Loc m [] w0 m2 ((b2, .cells (toArr (reC k s0 s1 s2 s3 (.slice A n c) lo hi neg)) 53 (0, 0)) :: Lb) w := by
      have h : Ev.Loc m [] w0 m2 (Lb ++ [(b2, .cells (toArr (reC k s0 s1 s2 s3 (.slice A n c) lo hi neg)) 53 (0, 0))]) w := by rw [hLb]; exact hL
      exact Loc.back (L2 := [_]) h
    conv => whnf
    repeat ((first | refine BrReq.no (by omega) ?_ | refine zT ?_ | refine zF ?_ | refine zL hX hL ?_ | refine zB hX hL ?_ | (refine zS hX hL ?_; clear hL; intro w hL) | refine zI ?_ | refine zG hX ?_ | refine zO ?_); conv => whnf)
    refine RunReq.make hX rfl rfl rfl rfl (wn + 1) (wn + 1) rfl rfl (Nat.le_refl _) (by omega) rfl hL ?_
    clear hL
    intro gz w hL
    have hzz : zerosL (wn + 1) [Value.int .u8 0] = ints .u8 (List.replicate (wn + 1) 0) := by
      rw [zeros_rows]
      unfold ints
      rw [List.map_replicate]
      generalize wn + 1 = q
      induction q with
      | zero => rfl
      | succ q ih => rw [List.replicate_succ, List.flatten_cons, ih, List.replicate_succ]; rfl
    replace hL : Ev.Loc m [] w0 m2 ([(gz, .cells (toArr (ints .u8 (List.replicate (wn + 1) 0))) 5 (0, 0))] ++ ((b2, .cells (toArr (reC k s0 s1 s2 s3 (.slice A n c) lo hi neg)) 53 (0, 0)) :: Lb)) w := by rw [← hzz]; exact hL
    obtain ⟨m3, hL1, hm3, hbs⟩ := OwnS.freeze (te := 5) (k := .u8) (l := List.replicate (wn + 1) 0) (OwnS.full (n := wn + 1) (by omega) (by simp [ints])) hL
    clear hL
    have hL := hL1
    clear hL1
    have hrep3 := hrep2.le hm3
    have hw3 : SlI m3 .u8 (.slice W wn wc) ws := hw2.le hm3 (fun _ _ _ h => h)
    conv => whnf
    repeat ((first | refine zT ?_ | refine zF ?_ | refine zL hX hL ?_ | refine zB hX hL ?_ | (refine zS hX hL ?_; clear hL; intro w hL) | refine zI ?_ | refine zG hX ?_ | refine zO ?_); conv => whnf)
    refine DrawReq.plan hX (.fst 0 (.fst 2 (.fst 3 (.fst 5 (.fst 8 (.fst 9 (.alt 1 (.alt 4 (.fst 6 (.alt 7 (.alt 10 (.alt 11 (.fst 12 (.done)) (.stop)) (.stop)) (.alt 10 (.alt 7 (.alt 11 (.fst 12 (.done)) (.stop)) (.stop)) (.stop)))) (.stop)) (.stop)))))))) [(b2, .cells (toArr (reC k s0 s1 s2 s3 (.slice A n c) lo hi neg)) 53 (0, 0))] (by kernel_rfl) (by kernel_rfl) hL (fun h => h.one 0 rfl) ?_
    clear hL
    intro w hL
    conv => whnf
    repeat ((first | refine zQ hX ?_ | refine zR hX ?_ | refine zA ?_ | refine zT ?_ | refine zF ?_ | refine zL hX hL ?_ | refine zB hX hL ?_ | (refine zS hX hL ?_; clear hL; intro w hL) | refine zI ?_ | refine zG hX ?_ | refine zO ?_); conv => whnf)
    refine CallReq.mk (L1 := Lb) (L2 := [_]) (Nodes_fn m3 ab ns Lb hA3 hb2) (Loc.back (L1 := [_]) hL) ?_
    clear hL
    rintro u m4 Lx w hL hm4 ⟨hLx, hnd⟩
    rw [hLx] at hL
    clear hLx Lx
    have hL := Loc.back (L1 := Lb) (L2 := [_]) hL
    obtain ⟨A2, n2, c2, rfl, -⟩ := id hnd
    refine SReq.mk ((hL.one 0 rfl).weaken hm4 ((hm1.trans hm2).trans hm3)) ?_
    conv => whnf
    repeat ((first | refine zQ hX ?_ | refine zR hX ?_ | refine zA ?_ | refine zT ?_ | refine zF ?_ | refine zL hX hL ?_ | refine zB hX hL ?_ | (refine zS hX hL ?_; clear hL; intro w hL) | refine zI ?_ | refine zG hX ?_ | refine zO ?_); conv => whnf)
    refine CallReq.mk (L1 := []) (L2 := _ :: Lb) (ar.Spans_fn m4 _ ns hnd hb2.inn hb2.right hb2.len _ ws (hw3.le hm4 (fun _ _ _ h => h)) hwb (by omega) _ (List.replicate (wn + 1) 0) (hbs.le hm4 (fun _ _ _ h => h)) (by intro z hz; rw [List.eq_of_mem_replicate hz]; omega) (by rw [List.length_replicate]; omega)) hL ?_
    clear hL
    rintro u m5 Ly w hL hm5 ⟨hLy, tabs, htabs, htl, hT⟩
    rw [hLy] at hL
    clear hLy Ly
    obtain ⟨At, ct, et, hrt⟩ := hT i hil
    obtain ⟨A5, n5, c5, rfl, hn5, -⟩ := id htabs
    obtain ⟨at_, cst, eat, hcl, hcc, rfl⟩ := htabs.elem i _ et
    have hmc := hcc 0 _ rfl
    have add0 : ∀ x : Addr, x.add 0 = x := fun x => by cases x; rfl
    rw [add0] at hmc
    replace hL : Ev.Loc m [] w0 m5 ((b2, .cells (toArr (reC k s0 s1 s2 s3 (.slice A n c) lo hi neg)) 53 (0, 0)) :: Lb) w := hL
    refine SReq.mk ((hL.one 0 rfl).weaken (hm4.trans hm5) ((hm1.trans hm2).trans hm3)) ?_
    have hrep5 := hrep3.le (hm4.trans hm5)
    have hw5 : SlI m5 .u8 (.slice W wn wc) ws := hw3.le (hm4.trans hm5) (fun _ _ _ h => h)
    have hTi : T ws (List.replicate (wn + 1) 0) ns (i : Int) = tabN ws (List.replicate (wn + 1) 0) ns i := by unfold T; rw [Int.toNat_natCast]
    have hq := (hhas (List.replicate (wn + 1) 0) (by omega)).2
    conv => whnf
    repeat ((first | refine Idx2Req.mk i at_ rfl (by omega) eat ?_ | refine zQ hX ?_ | refine zR hX ?_ | refine zA ?_ | refine zT ?_ | refine zF ?_ | refine zL hX hL ?_ | refine zB hX hL ?_ | (refine zS hX hL ?_; clear hL; intro w hL) | refine zI ?_ | refine zG hX ?_ | refine zO ?_); conv => whnf)
    refine Go.Ev.alt2 ?_ ?_
    · conv => whnf
      repeat ((first | refine LdReq.one hX rfl rfl hL hmc ?_ | refine SReq.mk ((hL.one 0 rfl).weaken (hm4.trans hm5) ((hm1.trans hm2).trans hm3)) ?_ | refine zQ hX ?_ | refine zR hX ?_ | refine zA ?_ | refine zT ?_ | refine zF ?_ | refine zL hX hL ?_ | refine zB hX hL ?_ | (refine zS hX hL ?_; clear hL; intro w hL) | refine zI ?_ | refine zG hX ?_ | refine zO ?_); conv => whnf)
      refine CallReq.pure (Go.Proofs.Ytblpobeokfkggaa.tabs.Spans_fn r m5 _ _ ws hrep5 hsmall hall hw5 hwb (by omega)) hL ?_
      clear hL
      rintro u m6 w hL hm6 hR
      obtain ⟨A6, c6, rfl⟩ := hR.form
      have hT6 := hrt.le hm6
      have hmc6 := Go.Ev.mcell_le hm6 hmc
      refine SReq.mk ((hL.one 0 rfl).weaken ((hm4.trans hm5).trans hm6) ((hm1.trans hm2).trans hm3)) ?_
      conv => whnf
      repeat ((first | refine zQ hX ?_ | refine zR hX ?_ | refine zA ?_ | refine zT ?_ | refine zF ?_ | refine zL hX hL ?_ | refine zB hX hL ?_ | (refine zS hX hL ?_; clear hL; intro w hL) | refine zI ?_ | refine zG hX ?_ | refine zO ?_); conv => whnf)
      refine CallReq.val (same_fn m6 _ _ (ws.length + 1) _ _ hT6 hR (by omega) (by rw [← hTi]; exact hq)) hL ?_
      clear hL
      intro w hL
      refine SReq.mk ((hL.one 0 rfl).weaken ((hm4.trans hm5).trans hm6) ((hm1.trans hm2).trans hm3)) ?_
      conv => whnf
      repeat ((first | refine zQ hX ?_ | refine zR hX ?_ | refine zA ?_ | refine zT ?_ | refine zF ?_ | refine zL hX hL ?_ | refine zB hX hL ?_ | (refine zS hX hL ?_; clear hL; intro w hL) | refine zI ?_ | refine zG hX ?_ | refine zO ?_); conv => whnf)
      exact RetReq.bool (hL.sublist (List.nil_sublist _)) rfl
    · conv => whnf
      repeat ((first | refine zQ hX ?_ | refine zR hX ?_ | refine zA ?_ | refine zT ?_ | refine zF ?_ | refine zL hX hL ?_ | refine zB hX hL ?_ | (refine zS hX hL ?_; clear hL; intro w hL) | refine zI ?_ | refine zG hX ?_ | refine zO ?_); conv => whnf)
      refine CallReq.pure (Go.Proofs.Ytblpobeokfkggaa.tabs.Spans_fn r m5 _ _ ws hrep5 hsmall hall hw5 hwb (by omega)) hL ?_
      clear hL
      rintro u m6 w hL hm6 hR
      obtain ⟨A6, c6, rfl⟩ := hR.form
      have hT6 := hrt.le hm6
      have hmc6 := Go.Ev.mcell_le hm6 hmc
      refine SReq.mk ((hL.one 0 rfl).weaken ((hm4.trans hm5).trans hm6) ((hm1.trans hm2).trans hm3)) ?_
      conv => whnf
      repeat ((first | refine LdReq.one hX rfl rfl hL hmc6 ?_ | refine SReq.mk ((hL.one 0 rfl).weaken ((hm4.trans hm5).trans hm6) ((hm1.trans hm2).trans hm3)) ?_ | refine zQ hX ?_ | refine zR hX ?_ | refine zA ?_ | refine zT ?_ | refine zF ?_ | refine zL hX hL ?_ | refine zB hX hL ?_ | (refine zS hX hL ?_; clear hL; intro w hL) | refine zI ?_ | refine zG hX ?_ | refine zO ?_); conv => whnf)
      refine CallReq.val (same_fn m6 _ _ (ws.length + 1) _ _ hT6 hR (by omega) (by rw [← hTi]; exact hq)) hL ?_
      clear hL
      intro w hL
      refine SReq.mk ((hL.one 0 rfl).weaken ((hm4.trans hm5).trans hm6) ((hm1.trans hm2).trans hm3)) ?_
      conv => whnf
      repeat ((first | refine zQ hX ?_ | refine zR hX ?_ | refine zA ?_ | refine zT ?_ | refine zF ?_ | refine zL hX hL ?_ | refine zB hX hL ?_ | (refine zS hX hL ?_; clear hL; intro w hL) | refine zI ?_ | refine zG hX ?_ | refine zO ?_); conv => whnf)
      exact RetReq.bool (hL.sublist (List.nil_sublist _)) rfl

theorem contract (m : Mem) (vs : List Value) (hl : vs.length = Try.f5.params.size) (hg : ∀ (j : Nat) t v, Try.f5.params.toList[j]? = some t → vs[j]? = some v → Given X m t v) :
    Ev.Fn Try.prog 5 vs m [] fun _ _ v => v = .bool true := by
  match vs, hl with
  | [va, vb], _ =>
    obtain ⟨ca, na, rfl, h2⟩ := (hg 0 53 va rfl rfl).agg rfl rfl
    obtain ⟨r, h1⟩ := re_of na ca h2
    obtain ⟨l, h3, -, h5⟩ := (hg 1 35 vb rfl rfl).ints (k := .u8) rfl rfl rfl rfl rfl
    exact (walk m r ca vb l h1 h3 h5).mono fun _ _ _ _ h => h.2

theorem spec (H : Type) (ds : List (DataW H)) (h : ds.length = Try.f5.params.size) : Rows.normBuildsSpec.fn H ds = { results := [.lit (.bool true)], args := ds } := by
  match ds, h with
  | [_, _], _ => rfl

set_option maxRecDepth 100000 in
theorem lifted (os : Os) (started : os.Started) (H : Type) (enc : TypeId × Value → H) :
    ReturnsInHanded {} Try.checked os 5 .any (Rows.normBuildsSpec.pre6 enc Try.prog Try.f5 Rows.normBuildsRow.domain false) (Rows.normBuildsSpec.post enc Try.prog Try.f5 false true false false) := by
  refine returnsInHanded_of_change_sized (C := Try.checked) (by kernel_rfl) started (by kernel_rfl) Try.func5
    (ChangeSpec.witness6 (enc := enc) (C := Try.checked) false ⟨#[], #[.agg (toArr (reC 0 0 0 0 0 (.slice none 0 0) 0 0 false)), .slice none 0 0], []⟩ 8 (by kernel_rfl) (by kernel_rfl) (by kernel_rfl) (by kernel_rfl)) ?_
  intro W base args ds gs before hval hW _ hsz _
  exact law_core hX (by kernel_rfl) rfl rfl Try.underlying4 (by decide +kernel) (fun H ds h => spec H ds h) contract W base args ds gs before hval hW hsz

set_option maxRecDepth 100000 in
theorem proved : Rows.NormBuildsSaid :=
  OpenClaim.holds_of_wide 5 Try.f5 rfl rfl rfl rfl rfl rfl rfl ⟨rfl, rfl, rfl, rfl, rfl⟩ rfl rfl rfl rfl rfl (by kernel_rfl) Try.func5 (by kernel_rfl)
    (of_decide_eq_true (by kernel_rfl)) (by unfold Func.isWrapper; first | (rw [if_pos (by decide +kernel)]; kernel_rfl) | (rw [if_neg (by decide +kernel)]; exact ⟨rfl, rfl⟩))
    (fun os started H enc _ => lifted os started H enc)
end Go.Proofs.Ytblpobeokfkggaa.nbl
