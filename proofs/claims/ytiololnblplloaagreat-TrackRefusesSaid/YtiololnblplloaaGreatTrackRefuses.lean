/- TrackRefuses: part 14 of 14 of the proof. Conditions: none. -/
import Derived.Test.YtiololnblplloaaGreatM13
import Derived.Test.YtiololnblplloaaGreatRows
import Derived.ProofKit
import Derived.SizedLaws
namespace Go.Proofs.YtiololnblplloaaGreat.tkr
open Go Go.Ev Go.Proofs Go.ChangeShapes Go.WideShapes Go.ChangeAt Go.RowKit Go.Proofs.YtiololnblplloaaGreat.ar Go.Proofs.YtiololnblplloaaGreat.tree Go.Proofs.YtiololnblplloaaGreat.looks Go.Proofs.YtiololnblplloaaGreat.tk
theorem loopC_sum {f : Re → Nat} : ∀ (l : List Re) (n : Nat), loopC f l n ≤ 2000 → loopC f l n = n + (l.map f).sum := by
  intro l
  induction l with
  | nil => intro n _; simp [loopC]
  | cons p l ih =>
    intro n h
    simp only [loopC] at h ⊢
    split at h
    · omega
    · rename_i h2
      rw [if_neg h2, ih _ h]; simp [Nat.add_assoc]
theorem nodes_le : ∀ (k : Nat) (r : Re), cR k r ≤ 2000 → nodesR r ≤ cR k r := by
  intro k
  induction k with
  | zero => intro r h; simp [cR] at h
  | succ k ih =>
    intro r h
    obtain ⟨kd, s0, s1, s2, s3, rs, lo, hi, neg⟩ := r
    simp only [cR, Re.parts] at h ⊢
    obtain ⟨_, hs⟩ := loopC_small (cR_pos k) _ _ h
    rw [loopC_sum _ _ h]
    have : ∀ l : List Re, (∀ p ∈ l, cR k p ≤ 2000) → nodesL l ≤ (l.map (cR k)).sum := by
      intro l
      induction l with
      | nil => intro _; simp [nodesL]
      | cons p l ihl =>
        intro hl
        have h1 := ih p (hl p (by simp))
        have h2 := ihl fun q hq => hl q (by simp [hq])
        simp only [nodesL, List.map_cons, List.sum_cons]; omega
    have := this rs hs
    simp only [nodesR]; omega
theorem nodesL_le (l : List Re) (h : ∀ p ∈ l, cR 60 p ≤ 2000) : nodesL l ≤ l.length * 2000 := by
  induction l with
  | nil => simp [nodesL]
  | cons p l ih =>
    have h1 := nodes_le 60 p (h p (by simp))
    have h2 := h p (by simp)
    have h3 := ih fun q hq => h q (by simp [hq])
    simp only [nodesL, List.length_cons]; omega
theorem awake_fn (m : Mem) : Fn0 Tryz.prog 4 [] m fun _ u => u = .bool true := by
  refine Fn.enter (N := 17) hX Tryz.func4 rfl rfl (by show _ ≤ _; simp) (fun w0 hL => ?_)
  conv => whnf
  conv => whnf
  repeat ((first | refine zT ?_ | refine zF ?_ | refine zL hX hL ?_ | refine zB hX hL ?_ | (refine zS hX hL ?_; clear hL; intro w hL) | refine zI ?_ | refine zG hX ?_ | refine zO ?_); conv => whnf)
  refine NewReq.mk hL ?_
  clear hL
  intro b5 w hL
  conv => whnf
  replace hL : Ev.Loc m [] w0 m [(b5, .cells (toArr (ints .u8 [97, 98])) 5 (0, 0))] w := hL
  conv => whnf
  repeat ((first | refine zT ?_ | refine zF ?_ | refine zL hX hL ?_ | refine zB hX hL ?_ | (refine zS hX hL ?_; clear hL; intro w hL) | refine zI ?_ | refine zG hX ?_ | refine zO ?_); conv => whnf)
  refine RunReq.bytesConst hX rfl rfl rfl rfl 0 hL rfl ?_
  clear hL
  intro w hL
  replace hL : Ev.Loc m [] w0 m [(b5, .cells (toArr (ints .u8 [97, 98])) 5 (2, 3))] w := hL
  obtain ⟨m1, hL, hm1, hs⟩ := ints_hand (n := 2) rfl (by decide) hL
  conv => whnf
  repeat ((first | refine zT ?_ | refine zF ?_ | refine zL hX hL ?_ | refine zB hX hL ?_ | (refine zS hX hL ?_; clear hL; intro w hL) | refine zI ?_ | refine zG hX ?_ | refine zO ?_); conv => whnf)
  refine CallReq.pure (Bits_fn m1 _ _ [] [97, 98] (Sl.nil _ _ _) (fun r hr => by cases hr) (by simp [nodesL]) hs (by simp) (by simp)) hL ?_
  clear hL
  rintro u m2 w hL hm2 ⟨A, k, c, e, rfl, -, -, h3⟩
  obtain ⟨rfl, rfl⟩ := h3 rfl
  conv => whnf
  repeat ((first | refine zT ?_ | refine zF ?_ | refine zL hX hL ?_ | refine zB hX hL ?_ | (refine zS hX hL ?_; clear hL; intro w hL) | refine zI ?_ | refine zG hX ?_ | refine zO ?_); conv => whnf)
  exact RetReq.mk hL ⟨rfl, rfl⟩
set_option maxHeartbeats 4000000 in
theorem walk (m : Mem) (v wv : Value) (l : List Re) (ws : List Int) (hs : Sl m 9 (RepRe m) v l) (hw : SlI m .u8 wv ws) (hwb : ∀ z ∈ ws, 0 ≤ z ∧ z ≤ 255) : Fn0 Tryz.prog 3 [v, wv] m fun _ u => u = .bool true := by
  have hs' := hs
  obtain ⟨A, n, c, rfl, hn, hc, hm, -⟩ := hs
  obtain ⟨W, wn, wc, rfl, hwn, hwc, hwm, -⟩ := id hw
  have hmx : maxLen = 9223372036854775807 := rfl
  refine Fn.enter (N := 124) hX Tryz.func3 rfl rfl (by show _ ≤ _; simp) (fun w0 hL => ?_)
  conv => whnf
  conv => whnf
  repeat ((first | refine zT ?_ | refine zF ?_ | refine zL hX hL ?_ | refine zB hX hL ?_ | (refine zS hX hL ?_; clear hL; intro w hL) | refine zI ?_ | refine zG hX ?_ | refine zO ?_); conv => whnf)
  refine CallReq.pure (awake_fn m) hL ?_
  clear hL
  rintro u m0 w hL hm0 rfl
  by_cases h8 : (8 : Int) < n
  · conv => whnf
    repeat ((first | refine BrReq.yes h8 ?_ | refine zT ?_ | refine zF ?_ | refine zL hX hL ?_ | refine zB hX hL ?_ | (refine zS hX hL ?_; clear hL; intro w hL) | refine zI ?_ | refine zG hX ?_ | refine zO ?_); conv => whnf)
    refine CallReq.pure (awake_fn m0) hL ?_
    clear hL
    rintro u m1 w hL hm1 rfl
    conv => whnf
    repeat ((first | refine zT ?_ | refine zF ?_ | refine zL hX hL ?_ | refine zB hX hL ?_ | (refine zS hX hL ?_; clear hL; intro w hL) | refine zI ?_ | refine zG hX ?_ | refine zO ?_); conv => whnf)
    exact RetReq.mk (hL.sublist (List.nil_sublist _)) ⟨rfl, rfl⟩
  by_cases h6 : (6 : Int) < wn
  · conv => whnf
    repeat ((first | refine BrReq.no h8 ?_ | refine BrReq.yes h6 ?_ | refine zT ?_ | refine zF ?_ | refine zL hX hL ?_ | refine zB hX hL ?_ | (refine zS hX hL ?_; clear hL; intro w hL) | refine zI ?_ | refine zG hX ?_ | refine zO ?_); conv => whnf)
    refine CallReq.pure (awake_fn m0) hL ?_
    clear hL
    rintro u m1 w hL hm1 rfl
    conv => whnf
    repeat ((first | refine zT ?_ | refine zF ?_ | refine zL hX hL ?_ | refine zB hX hL ?_ | (refine zS hX hL ?_; clear hL; intro w hL) | refine zI ?_ | refine zG hX ?_ | refine zO ?_); conv => whnf)
    exact RetReq.mk (hL.sublist (List.nil_sublist _)) ⟨rfl, rfl⟩
  conv => whnf
  repeat ((first | refine BrReq.no h8 ?_ | refine BrReq.no h6 ?_ | refine zT ?_ | refine zF ?_ | refine zL hX hL ?_ | refine zB hX hL ?_ | (refine zS hX hL ?_; clear hL; intro w hL) | refine zI ?_ | refine zG hX ?_ | refine zO ?_); conv => whnf)
  refine LoopReq.inv hX (fun s : Nat × Option Addr × Nat × Nat => [(5, .slice s.2.1 s.2.2.1 s.2.2.2), (29, .int .i64 s.1)]) [0, 1, 28]
    (fun s w => (s.1 ≤ n ∧ ∀ x ∈ l.take s.1, cR 60 x ≤ 2000) ∧ ∃ m1, Mem.Le m m1 ∧ Sl m1 9 (RepRe m1) (.slice s.2.1 s.2.2.1 s.2.2.2) (looksL ((l.take s.1).filter formedR) []) ∧ Ev.Loc m [] w0 m1 [] w) (fun s => n - s.1) (0, none, 0, 0)
    ⟨by simp, m0, hm0, Sl.nil _ _ _, hL⟩ ⟨rfl, rfl, trivial⟩ ?_
  clear hL
  rintro ⟨j, A0, n0, c0⟩ w f ⟨⟨hj, hfew⟩, m1, hm1, hsl, hL⟩
  simp only at hj hsl hfew
  conv => whnf
  repeat ((first | refine zT ?_ | refine zF ?_ | refine zL hX hL ?_ | refine zB hX hL ?_ | (refine zS hX hL ?_; clear hL; intro w hL) | refine zI ?_ | refine zG hX ?_ | refine zO ?_); conv => whnf)
  refine BrReq.dec (fun hlt => ?_) (fun hlt => ?_)
  · have hlt' : j < l.length := by simp only at hlt; omega
    have hs1 : Sl m1 9 (RepRe m1) (.slice A n c) l := hs'.le hm1 fun _ _ _ h => h.le hm1
    obtain ⟨a, cs', rfl, hl9, hcells, hrep⟩ := hs1.elem j _ (List.getElem?_eq_getElem hlt')
    have htk : l.take (j + 1) = l.take j ++ [l[j]] := List.take_succ_eq_append_getElem hlt'
    have hfl : (l.take (j + 1)).filter formedR = (l.take j).filter formedR ++ (if formedR l[j] = true then [l[j]] else []) := by
      rw [htk, List.filter_append]; congr 1; by_cases e : formedR l[j] = true
      · rw [if_pos e, List.filter_cons, if_pos e]; rfl
      · rw [if_neg e, List.filter_cons, if_neg e]; rfl
    generalize l[j] = r at hrep htk hfl
    obtain ⟨k1, u0, u1, u2, u3, A1, n1, c1, lo1, hi1, neg1, rfl⟩ := hrep.form
    conv => whnf
    repeat ((first | (refine Idx2Req.mk j a rfl (by simp only at hlt ⊢; omega) rfl ?_) | refine LdReq.agg hX rfl rfl hL hl9 hcells ?_ | refine zT ?_ | refine zF ?_ | refine zL hX hL ?_ | refine zB hX hL ?_ | (refine zS hX hL ?_; clear hL; intro w hL) | refine zI ?_ | refine zG hX ?_ | refine zO ?_); conv => whnf)
    refine CallReq.val (Few_fn m1 r _ hrep 60 (by omega)) hL ?_
    clear hL
    intro w hL
    by_cases hf : cR 60 r ≤ 2000
    rotate_left
    · rw [decide_eq_false hf]
      conv => whnf
      repeat ((first | refine zT ?_ | refine zF ?_ | refine zL hX hL ?_ | refine zB hX hL ?_ | (refine zS hX hL ?_; clear hL; intro w hL) | refine zI ?_ | refine zG hX ?_ | refine zO ?_); conv => whnf)
      exact RetReq.mk hL ⟨rfl, rfl⟩
    rw [decide_eq_true hf]
    have hfew2 : ∀ x ∈ l.take (j + 1), cR 60 x ≤ 2000 := fun x hx => by
      rw [htk] at hx
      rcases List.mem_append.1 hx with h | h
      · exact hfew x h
      · rw [List.mem_singleton.1 h]; exact hf
    conv => whnf
    repeat ((first | (refine Idx2Req.mk j a rfl (by simp only at hlt ⊢; omega) rfl ?_) | refine LdReq.agg hX rfl rfl hL hl9 hcells ?_ | refine zT ?_ | refine zF ?_ | refine zL hX hL ?_ | refine zB hX hL ?_ | (refine zS hX hL ?_; clear hL; intro w hL) | refine zI ?_ | refine zG hX ?_ | refine zO ?_); conv => whnf)
    refine CallReq.val (refFormed_fn m1 r _ hrep) hL ?_
    clear hL
    intro w hL
    cases hfr : formedR r with
    | false =>
      rw [hfr, if_neg (by decide), List.append_nil] at hfl
      conv => whnf
      repeat ((first | refine zT ?_ | refine zF ?_ | refine zL hX hL ?_ | refine zB hX hL ?_ | (refine zS hX hL ?_; clear hL; intro w hL) | refine zI ?_ | refine zG hX ?_ | refine zO ?_); conv => whnf)
      refine ⟨(j + 1, A0, n0, c0), ⟨⟨by simp only at hlt ⊢; omega, hfew2⟩, m1, hm1, by simp only; rw [hfl]; exact hsl, hL⟩, by first | omega | (simp only; omega) | (simp only [List.length_cons, List.length_append]; omega), ?_, ?_⟩
      · repeat (first | exact trivial | (refine And.intro (by (conv => lhs; whnf) <;> (conv => rhs; whnf) <;> (first | rfl)) ?_))
      · repeat (first | exact trivial | (refine And.intro (by (conv => lhs; whnf) <;> (conv => rhs; whnf) <;> (first | rfl)) ?_))
    | true =>
      rw [hfr, if_pos rfl] at hfl
      have hln := looksL_len ((l.take j).filter formedR) []
      have hb1 : nodesL ((l.take j).filter formedR) ≤ ((l.take j).filter formedR).length * 2000 := nodesL_le _ fun p hp => hfew p (List.mem_filter.1 hp).1
      have hb2 : ((l.take j).filter formedR).length ≤ 8 := Nat.le_trans (List.length_filter_le _ _) (by rw [List.length_take]; omega)
      have hb3 := nodes_le 60 r hf
      simp only [List.length_nil, Nat.zero_add] at hln
      conv => whnf
      repeat ((first | (refine Idx2Req.mk j a rfl (by simp only at hlt ⊢; omega) rfl ?_) | refine LdReq.agg hX rfl rfl hL hl9 hcells ?_ | refine zT ?_ | refine zF ?_ | refine zL hX hL ?_ | refine zB hX hL ?_ | (refine zS hX hL ?_; clear hL; intro w hL) | refine zI ?_ | refine zG hX ?_ | refine zO ?_); conv => whnf)
      refine CallReq.pure (refLooks_fn r m1 _ _ _ hrep hsl (by omega)) hL ?_
      clear hL
      rintro v m2 w hL hm2 hsl2
      have e2 : looksR r (looksL ((l.take j).filter formedR) []) = looksL ((l.take (j + 1)).filter formedR) [] := by rw [hfl, looksL_append]; rfl
      rw [e2] at hsl2
      obtain ⟨A2, n2, c2, rfl, -⟩ := id hsl2
      conv => whnf
      repeat ((first | refine zT ?_ | refine zF ?_ | refine zL hX hL ?_ | refine zB hX hL ?_ | (refine zS hX hL ?_; clear hL; intro w hL) | refine zI ?_ | refine zG hX ?_ | refine zO ?_); conv => whnf)
      refine ⟨(j + 1, A2, n2, c2), ⟨⟨by simp only at hlt ⊢; omega, hfew2⟩, m2, hm1.trans hm2, hsl2, hL⟩, by first | omega | (simp only; omega) | (simp only [List.length_cons, List.length_append]; omega), ?_, ?_⟩
      · repeat (first | exact trivial | (refine And.intro (by (conv => lhs; whnf) <;> (conv => rhs; whnf) <;> (first | rfl)) ?_))
      · repeat (first | exact trivial | (refine And.intro (by (conv => lhs; whnf) <;> (conv => rhs; whnf) <;> (first | rfl)) ?_))
  have hjn : j = l.length := by simp only at hlt; omega
  rw [hjn, List.take_length] at hsl hfew
  have hs1 : Sl m1 9 (RepRe m1) (.slice A n c) l := hs'.le hm1 fun _ _ _ h => h.le hm1
  have hw1 : SlI m1 .u8 (.slice W wn wc) ws := hw.le hm1 (fun _ _ _ h => h)
  have hsm : ∀ r ∈ l, Small r := fun r hr => small_of _ _ (hfew r hr)
  have hnb : nodesL l ≤ 1000000 := by have := nodesL_le l hfew; omega
  replace hsl : Sl m1 9 (RepRe m1) (.slice A0 n0 c0) (ownL l) := hsl
  have hno := hsl.lens.1
  clear hjn hlt hj hfew
  have hel := hs1.elem
  have heo := hsl.elem
  have add : ∀ (i : Nat), True := fun _ => trivial
  by_cases hlen : ((n0 : Int) = n)
  · have e1 : decide ((n : Int) ≤ 4) = refT l 0 := by rw [refT_zero, decide_eq_true (show (ownL l).length = l.length by omega), Bool.true_and]; exact decide_eq_decide.2 (by omega)
    conv => whnf
    repeat ((first | refine BrReq.yes hlen ?_ | refine zT ?_ | refine zF ?_ | refine zL hX hL ?_ | refine zB hX hL ?_ | (refine zS hX hL ?_; clear hL; intro w hL) | refine zI ?_ | refine zG hX ?_ | refine zO ?_); conv => whnf)
    refine LoopReq.inv hX (fun j : Nat => [(7, .bool (refT l j)), (62, .int .i64 j)]) [0, 1, 5, 61]
      (fun j w => j ≤ n ∧ Ev.Loc m [] w0 m1 [] w) (fun j => n - j) 0
      ⟨by omega, hL⟩ ⟨(congrArg Value.bool e1), rfl, trivial⟩ ?_
    clear hL
    rintro j w f2 ⟨hj, hL⟩
    conv => whnf
    repeat ((first | refine zT ?_ | refine zF ?_ | refine zL hX hL ?_ | refine zB hX hL ?_ | (refine zS hX hL ?_; clear hL; intro w hL) | refine zI ?_ | refine zG hX ?_ | refine zO ?_); conv => whnf)
    refine BrReq.dec (fun hlt => ?_) (fun hlt => ?_)
    · have hlt' : j < l.length := by omega
      have hst := refT_step l j
      cases hT : refT l j with
      | false =>
        rw [hT, Bool.false_and] at hst
        conv => whnf
        repeat ((first | refine zT ?_ | refine zF ?_ | refine zL hX hL ?_ | refine zB hX hL ?_ | (refine zS hX hL ?_; clear hL; intro w hL) | refine zI ?_ | refine zG hX ?_ | refine zO ?_); conv => whnf)
        refine DrawReq.plan hX (.fst 0 (.fst 1 (.fst 2 (.fst 3 (.fst 4 (.fst 5 (.alt 6 (.fst 7 (.fst 8 (.fst 9 (.fst 10 (.fst 11 (.fst 12 (.fst 13 (.fst 14 (.fst 15 (.fst 16 (.alt 17 (.fst 18 (.fst 19 (.done))) (.stop)))))))))))) (.stop)))))))) [] (by kernel_rfl) (by kernel_rfl) hL id ?_
        clear hL
        intro w hL
        conv => whnf
        repeat ((first | refine zQ hX ?_ | refine zR hX ?_ | refine zA ?_ | refine zT ?_ | refine zF ?_ | refine zL hX hL ?_ | refine zB hX hL ?_ | (refine zS hX hL ?_; clear hL; intro w hL) | refine zI ?_ | refine zG hX ?_ | refine zO ?_); conv => whnf)
        refine ⟨j + 1, ⟨by omega, hL⟩, by first | omega | (simp only; omega) | (simp only [List.length_cons, List.length_append]; omega), ?_, ?_⟩
        · repeat (first | exact trivial | (refine And.intro (by (conv => lhs; whnf) <;> (conv => rhs; whnf) <;> (first | rfl | ((rw [hst])))) ?_))
        · repeat (first | exact trivial | (refine And.intro (by (conv => lhs; whnf) <;> (conv => rhs; whnf) <;> (first | rfl | ((rw [hst])))) ?_))
      | true =>
        have hlen := refT_len hT
        have hlto : j < (ownL l).length := by omega
        rw [hT, List.getElem?_eq_getElem hlt', List.getElem?_eq_getElem hlto, Bool.true_and] at hst
        obtain ⟨a, cs1, rfl, hl9, hcells, hrep⟩ := hel j _ (List.getElem?_eq_getElem hlt')
        obtain ⟨b, cs2, rfl, hl9o, hcellso, hrepo⟩ := heo j _ (List.getElem?_eq_getElem hlto)
        generalize l[j] = x at hst hrep
        generalize (ownL l)[j] = y at hst hrepo
        obtain ⟨k1, u0, u1, u2, u3, A1, n1, c1, lo1, hi1, neg1, rfl⟩ := hrep.form
        obtain ⟨k2, v0, v1, v2, v3, A2, n2, c2, lo2, hi2, neg2, rfl⟩ := hrepo.form
        conv => whnf
        repeat ((first | refine zT ?_ | refine zF ?_ | refine zL hX hL ?_ | refine zB hX hL ?_ | (refine zS hX hL ?_; clear hL; intro w hL) | refine zI ?_ | refine zG hX ?_ | refine zO ?_); conv => whnf)
        refine DrawReq.plan hX (.fst 0 (.fst 1 (.fst 2 (.fst 3 (.fst 4 (.fst 5 (.alt 6 (.fst 7 (.fst 8 (.fst 9 (.fst 10 (.fst 11 (.fst 12 (.fst 13 (.fst 14 (.fst 15 (.fst 16 (.alt 17 (.fst 18 (.fst 19 (.done))) (.stop)))))))))))) (.stop)))))))) [] (by kernel_rfl) (by kernel_rfl) hL id ?_
        clear hL
        intro w hL
        conv => whnf
        repeat ((first | refine Idx2Req.mk j a rfl (by omega) rfl ?_ | refine QLdReq.agg hX rfl rfl hl9 hcells ?_ | refine zQ hX ?_ | refine zR hX ?_ | refine zA ?_ | refine zT ?_ | refine zF ?_ | refine zL hX hL ?_ | refine zB hX hL ?_ | (refine zS hX hL ?_; clear hL; intro w hL) | refine zI ?_ | refine zG hX ?_ | refine zO ?_); conv => whnf)
        refine CallReq.val (refFormed_fn m1 x _ hrep) hL ?_
        clear hL
        intro w hL
        refine SReq.mk hL ?_
        cases hfx : formedR x with
        | false =>
          simp only [hfx, Bool.false_and] at hst
          conv => whnf
          repeat ((first | refine zQ hX ?_ | refine zR hX ?_ | refine zA ?_ | refine zT ?_ | refine zF ?_ | refine zL hX hL ?_ | refine zB hX hL ?_ | (refine zS hX hL ?_; clear hL; intro w hL) | refine zI ?_ | refine zG hX ?_ | refine zO ?_); conv => whnf)
          refine ⟨j + 1, ⟨by omega, hL⟩, by first | omega | (simp only; omega) | (simp only [List.length_cons, List.length_append]; omega), ?_, ?_⟩
          · repeat (first | exact trivial | (refine And.intro (by (conv => lhs; whnf) <;> (conv => rhs; whnf) <;> (first | rfl | ((rw [hst])))) ?_))
          · repeat (first | exact trivial | (refine And.intro (by (conv => lhs; whnf) <;> (conv => rhs; whnf) <;> (first | rfl | ((rw [hst])))) ?_))
        | true =>
          simp only [hfx, Bool.true_and] at hst
          conv => whnf
          repeat ((first | refine Idx2Req.mk j a rfl (by omega) rfl ?_ | refine QLdReq.agg hX rfl rfl hl9 hcells ?_ | (refine Idx2Req.mk j b rfl (by show j < n0; omega) rfl ?_) | refine QLdReq.agg hX rfl rfl hl9o hcellso ?_ | refine zQ hX ?_ | refine zR hX ?_ | refine zA ?_ | refine zT ?_ | refine zF ?_ | refine zL hX hL ?_ | refine zB hX hL ?_ | (refine zS hX hL ?_; clear hL; intro w hL) | refine zI ?_ | refine zG hX ?_ | refine zO ?_); conv => whnf)
          refine CallReq.val (refSame_fn 41 m1 _ _ _ _ hrepo hrep (by omega)) hL ?_
          clear hL
          intro w hL
          refine SReq.mk hL ?_
          conv => whnf
          repeat ((first | refine zQ hX ?_ | refine zR hX ?_ | refine zA ?_ | refine zT ?_ | refine zF ?_ | refine zL hX hL ?_ | refine zB hX hL ?_ | (refine zS hX hL ?_; clear hL; intro w hL) | refine zI ?_ | refine zG hX ?_ | refine zO ?_); conv => whnf)
          refine ⟨j + 1, ⟨by omega, hL⟩, by first | omega | (simp only; omega) | (simp only [List.length_cons, List.length_append]; omega), ?_, ?_⟩
          · repeat (first | exact trivial | (refine And.intro (by (conv => lhs; whnf) <;> (conv => rhs; whnf) <;> (first | rfl | ((rw [hst])))) ?_))
          · repeat (first | exact trivial | (refine And.intro (by (conv => lhs; whnf) <;> (conv => rhs; whnf) <;> (first | rfl | ((rw [hst])))) ?_))
    · have hjn : j = l.length := by omega
      rw [hjn, refT_iff]
      conv => whnf
      repeat ((first | refine zT ?_ | refine zF ?_ | refine zL hX hL ?_ | refine zB hX hL ?_ | (refine zS hX hL ?_; clear hL; intro w hL) | refine zI ?_ | refine zG hX ?_ | refine zO ?_); conv => whnf)
      refine NewReq.mk hL ?_
      clear hL
      intro b9 w hL
      conv => whnf
      conv => whnf
      repeat ((first | refine zT ?_ | refine zF ?_ | refine zL hX hL ?_ | refine zB hX hL ?_ | (refine zS hX hL ?_; clear hL; intro w hL) | refine zI ?_ | refine zG hX ?_ | refine zO ?_); conv => whnf)
      refine CallReq.pure (Bits_fn m1 _ _ l ws hs1 hsm hnb hw1 hwb (by omega)) hL ?_
      clear hL
      rintro u m2 w hL hm2 ⟨Ab, kb, cb, e, rfl, hb1, hb2, -⟩
      conv => whnf
      repeat ((first | refine zT ?_ | refine zF ?_ | refine zL hX hL ?_ | refine zB hX hL ?_ | (refine zS hX hL ?_; clear hL; intro w hL) | refine zI ?_ | refine zG hX ?_ | refine zO ?_); conv => whnf)
      refine CallReq.pure (NewT_fn m2 _ l (hs1.le hm2 fun _ _ _ h => h.le hm2) hsm hnb) hL ?_
      clear hL
      rintro u m3 w hL hm3 ⟨At, e2, rfl, hn1, hn2⟩
      cases hR : rightB l with
      | false =>
        obtain rfl := hb1 hR
        obtain rfl := hn1 hR
        conv => whnf
        repeat ((first | refine zT ?_ | refine zF ?_ | refine zL hX hL ?_ | refine zB hX hL ?_ | (refine zS hX hL ?_; clear hL; intro w hL) | refine zI ?_ | refine zG hX ?_ | refine zO ?_); conv => whnf)
        exact RetReq.mk (hL.sublist (List.nil_sublist _)) ⟨rfl, rfl⟩
      | true =>
        rcases hb2 hR with rfl | rfl <;> rcases hn2 hR with rfl | rfl | rfl
        all_goals (
          conv => whnf
          repeat ((first | refine zT ?_ | refine zF ?_ | refine zI ?_ | refine zG hX ?_ | refine zO ?_); conv => whnf)
          exact RetReq.mk (hL.sublist (List.nil_sublist _)) ⟨rfl, rfl⟩)
  · have e1 : refT l 0 = false := by rw [refT_zero, decide_eq_false (show ¬ (ownL l).length = l.length by omega), Bool.false_and]
    conv => whnf
    repeat ((first | refine BrReq.no hlen ?_ | refine zT ?_ | refine zF ?_ | refine zL hX hL ?_ | refine zB hX hL ?_ | (refine zS hX hL ?_; clear hL; intro w hL) | refine zI ?_ | refine zG hX ?_ | refine zO ?_); conv => whnf)
    refine LoopReq.inv hX (fun j : Nat => [(7, .bool (refT l j)), (62, .int .i64 j)]) [0, 1, 5, 61]
      (fun j w => j ≤ n ∧ Ev.Loc m [] w0 m1 [] w) (fun j => n - j) 0
      ⟨by omega, hL⟩ ⟨(congrArg Value.bool e1.symm), rfl, trivial⟩ ?_
    clear hL
    rintro j w f2 ⟨hj, hL⟩
    conv => whnf
    repeat ((first | refine zT ?_ | refine zF ?_ | refine zL hX hL ?_ | refine zB hX hL ?_ | (refine zS hX hL ?_; clear hL; intro w hL) | refine zI ?_ | refine zG hX ?_ | refine zO ?_); conv => whnf)
    refine BrReq.dec (fun hlt => ?_) (fun hlt => ?_)
    · have hlt' : j < l.length := by omega
      have hst := refT_step l j
      cases hT : refT l j with
      | false =>
        rw [hT, Bool.false_and] at hst
        conv => whnf
        repeat ((first | refine zT ?_ | refine zF ?_ | refine zL hX hL ?_ | refine zB hX hL ?_ | (refine zS hX hL ?_; clear hL; intro w hL) | refine zI ?_ | refine zG hX ?_ | refine zO ?_); conv => whnf)
        refine DrawReq.plan hX (.fst 0 (.fst 1 (.fst 2 (.fst 3 (.fst 4 (.fst 5 (.alt 6 (.fst 7 (.fst 8 (.fst 9 (.fst 10 (.fst 11 (.fst 12 (.fst 13 (.fst 14 (.fst 15 (.fst 16 (.alt 17 (.fst 18 (.fst 19 (.done))) (.stop)))))))))))) (.stop)))))))) [] (by kernel_rfl) (by kernel_rfl) hL id ?_
        clear hL
        intro w hL
        conv => whnf
        repeat ((first | refine zQ hX ?_ | refine zR hX ?_ | refine zA ?_ | refine zT ?_ | refine zF ?_ | refine zL hX hL ?_ | refine zB hX hL ?_ | (refine zS hX hL ?_; clear hL; intro w hL) | refine zI ?_ | refine zG hX ?_ | refine zO ?_); conv => whnf)
        refine ⟨j + 1, ⟨by omega, hL⟩, by first | omega | (simp only; omega) | (simp only [List.length_cons, List.length_append]; omega), ?_, ?_⟩
        · repeat (first | exact trivial | (refine And.intro (by (conv => lhs; whnf) <;> (conv => rhs; whnf) <;> (first | rfl | ((rw [hst])))) ?_))
        · repeat (first | exact trivial | (refine And.intro (by (conv => lhs; whnf) <;> (conv => rhs; whnf) <;> (first | rfl | ((rw [hst])))) ?_))
      | true =>
        have hlen := refT_len hT
        have hlto : j < (ownL l).length := by omega
        rw [hT, List.getElem?_eq_getElem hlt', List.getElem?_eq_getElem hlto, Bool.true_and] at hst
        obtain ⟨a, cs1, rfl, hl9, hcells, hrep⟩ := hel j _ (List.getElem?_eq_getElem hlt')
        obtain ⟨b, cs2, rfl, hl9o, hcellso, hrepo⟩ := heo j _ (List.getElem?_eq_getElem hlto)
        generalize l[j] = x at hst hrep
        generalize (ownL l)[j] = y at hst hrepo
        obtain ⟨k1, u0, u1, u2, u3, A1, n1, c1, lo1, hi1, neg1, rfl⟩ := hrep.form
        obtain ⟨k2, v0, v1, v2, v3, A2, n2, c2, lo2, hi2, neg2, rfl⟩ := hrepo.form
        conv => whnf
        repeat ((first | refine zT ?_ | refine zF ?_ | refine zL hX hL ?_ | refine zB hX hL ?_ | (refine zS hX hL ?_; clear hL; intro w hL) | refine zI ?_ | refine zG hX ?_ | refine zO ?_); conv => whnf)
        refine DrawReq.plan hX (.fst 0 (.fst 1 (.fst 2 (.fst 3 (.fst 4 (.fst 5 (.alt 6 (.fst 7 (.fst 8 (.fst 9 (.fst 10 (.fst 11 (.fst 12 (.fst 13 (.fst 14 (.fst 15 (.fst 16 (.alt 17 (.fst 18 (.fst 19 (.done))) (.stop)))))))))))) (.stop)))))))) [] (by kernel_rfl) (by kernel_rfl) hL id ?_
        clear hL
        intro w hL
        conv => whnf
        repeat ((first | refine Idx2Req.mk j a rfl (by omega) rfl ?_ | refine QLdReq.agg hX rfl rfl hl9 hcells ?_ | refine zQ hX ?_ | refine zR hX ?_ | refine zA ?_ | refine zT ?_ | refine zF ?_ | refine zL hX hL ?_ | refine zB hX hL ?_ | (refine zS hX hL ?_; clear hL; intro w hL) | refine zI ?_ | refine zG hX ?_ | refine zO ?_); conv => whnf)
        refine CallReq.val (refFormed_fn m1 x _ hrep) hL ?_
        clear hL
        intro w hL
        refine SReq.mk hL ?_
        cases hfx : formedR x with
        | false =>
          simp only [hfx, Bool.false_and] at hst
          conv => whnf
          repeat ((first | refine zQ hX ?_ | refine zR hX ?_ | refine zA ?_ | refine zT ?_ | refine zF ?_ | refine zL hX hL ?_ | refine zB hX hL ?_ | (refine zS hX hL ?_; clear hL; intro w hL) | refine zI ?_ | refine zG hX ?_ | refine zO ?_); conv => whnf)
          refine ⟨j + 1, ⟨by omega, hL⟩, by first | omega | (simp only; omega) | (simp only [List.length_cons, List.length_append]; omega), ?_, ?_⟩
          · repeat (first | exact trivial | (refine And.intro (by (conv => lhs; whnf) <;> (conv => rhs; whnf) <;> (first | rfl | ((rw [hst])))) ?_))
          · repeat (first | exact trivial | (refine And.intro (by (conv => lhs; whnf) <;> (conv => rhs; whnf) <;> (first | rfl | ((rw [hst])))) ?_))
        | true =>
          simp only [hfx, Bool.true_and] at hst
          conv => whnf
          repeat ((first | refine Idx2Req.mk j a rfl (by omega) rfl ?_ | refine QLdReq.agg hX rfl rfl hl9 hcells ?_ | (refine Idx2Req.mk j b rfl (by show j < n0; omega) rfl ?_) | refine QLdReq.agg hX rfl rfl hl9o hcellso ?_ | refine zQ hX ?_ | refine zR hX ?_ | refine zA ?_ | refine zT ?_ | refine zF ?_ | refine zL hX hL ?_ | refine zB hX hL ?_ | (refine zS hX hL ?_; clear hL; intro w hL) | refine zI ?_ | refine zG hX ?_ | refine zO ?_); conv => whnf)
          refine CallReq.val (refSame_fn 41 m1 _ _ _ _ hrepo hrep (by omega)) hL ?_
          clear hL
          intro w hL
          refine SReq.mk hL ?_
          conv => whnf
          repeat ((first | refine zQ hX ?_ | refine zR hX ?_ | refine zA ?_ | refine zT ?_ | refine zF ?_ | refine zL hX hL ?_ | refine zB hX hL ?_ | (refine zS hX hL ?_; clear hL; intro w hL) | refine zI ?_ | refine zG hX ?_ | refine zO ?_); conv => whnf)
          refine ⟨j + 1, ⟨by omega, hL⟩, by first | omega | (simp only; omega) | (simp only [List.length_cons, List.length_append]; omega), ?_, ?_⟩
          · repeat (first | exact trivial | (refine And.intro (by (conv => lhs; whnf) <;> (conv => rhs; whnf) <;> (first | rfl | ((rw [hst])))) ?_))
          · repeat (first | exact trivial | (refine And.intro (by (conv => lhs; whnf) <;> (conv => rhs; whnf) <;> (first | rfl | ((rw [hst])))) ?_))
    · have hjn : j = l.length := by omega
      rw [hjn, refT_iff]
      conv => whnf
      repeat ((first | refine zT ?_ | refine zF ?_ | refine zL hX hL ?_ | refine zB hX hL ?_ | (refine zS hX hL ?_; clear hL; intro w hL) | refine zI ?_ | refine zG hX ?_ | refine zO ?_); conv => whnf)
      refine NewReq.mk hL ?_
      clear hL
      intro b9 w hL
      conv => whnf
      conv => whnf
      repeat ((first | refine zT ?_ | refine zF ?_ | refine zL hX hL ?_ | refine zB hX hL ?_ | (refine zS hX hL ?_; clear hL; intro w hL) | refine zI ?_ | refine zG hX ?_ | refine zO ?_); conv => whnf)
      refine CallReq.pure (Bits_fn m1 _ _ l ws hs1 hsm hnb hw1 hwb (by omega)) hL ?_
      clear hL
      rintro u m2 w hL hm2 ⟨Ab, kb, cb, e, rfl, hb1, hb2, -⟩
      conv => whnf
      repeat ((first | refine zT ?_ | refine zF ?_ | refine zL hX hL ?_ | refine zB hX hL ?_ | (refine zS hX hL ?_; clear hL; intro w hL) | refine zI ?_ | refine zG hX ?_ | refine zO ?_); conv => whnf)
      refine CallReq.pure (NewT_fn m2 _ l (hs1.le hm2 fun _ _ _ h => h.le hm2) hsm hnb) hL ?_
      clear hL
      rintro u m3 w hL hm3 ⟨At, e2, rfl, hn1, hn2⟩
      cases hR : rightB l with
      | false =>
        obtain rfl := hb1 hR
        obtain rfl := hn1 hR
        conv => whnf
        repeat ((first | refine zT ?_ | refine zF ?_ | refine zL hX hL ?_ | refine zB hX hL ?_ | (refine zS hX hL ?_; clear hL; intro w hL) | refine zI ?_ | refine zG hX ?_ | refine zO ?_); conv => whnf)
        exact RetReq.mk (hL.sublist (List.nil_sublist _)) ⟨rfl, rfl⟩
      | true =>
        rcases hb2 hR with rfl | rfl <;> rcases hn2 hR with rfl | rfl | rfl
        all_goals (
          conv => whnf
          repeat ((first | refine zT ?_ | refine zF ?_ | refine zI ?_ | refine zG hX ?_ | refine zO ?_); conv => whnf)
          exact RetReq.mk (hL.sublist (List.nil_sublist _)) ⟨rfl, rfl⟩)
theorem contract (m : Mem) (vs : List Value) (hl : vs.length = Tryz.f3.params.size) (hg : ∀ (j : Nat) t v, Tryz.f3.params.toList[j]? = some t → vs[j]? = some v → Given X m t v) :
    Ev.Fn Tryz.prog 3 vs m [] fun _ _ v => v = .bool true := by
  match vs, hl with
  | [va, vb], _ =>
    obtain ⟨l, h1, _⟩ := (hg 0 22 va rfl rfl).slice (R := RepRe m) rfl rfl rfl (fun n cs _ h => re_of n cs h)
    obtain ⟨ws, h3, -, h5⟩ := (hg 1 23 vb rfl rfl).ints (k := .u8) rfl rfl rfl rfl rfl
    exact (walk m va vb l ws h1 h3 h5).mono fun _ _ _ _ h => h.2
theorem spec (H : Type) (ds : List (DataW H)) (h : ds.length = Tryz.f3.params.size) : Rows.trackRefusesSpec.fn H ds = { results := [.lit (.bool true)], args := ds } := by
  match ds, h with
  | [_, _], _ => rfl
set_option maxRecDepth 100000 in
theorem lifted (os : Os) (started : os.Started) (H : Type) (enc : TypeId × Value → H) :
    ReturnsInHanded {} Tryz.checked os 3 .any (Rows.trackRefusesSpec.pre6 enc Tryz.prog Tryz.f3 Rows.trackRefusesRow.domain false) (Rows.trackRefusesSpec.post enc Tryz.prog Tryz.f3 false true false false) := by
  refine returnsInHanded_of_change_sized (C := Tryz.checked) (by kernel_rfl) started (by kernel_rfl) Tryz.func3
    (ChangeSpec.witness6 (enc := enc) (C := Tryz.checked) false ⟨#[], #[.slice none 0 0, .slice none 0 0], []⟩ 8 (by kernel_rfl) (by kernel_rfl) (by kernel_rfl) (by kernel_rfl)) ?_
  intro W base args ds gs before hval hW _ hsz _
  exact law_core hX (by kernel_rfl) rfl rfl Tryz.underlying4 (by decide +kernel) (fun H ds h => spec H ds h) contract W base args ds gs before hval hW hsz
set_option maxRecDepth 100000 in
theorem proved : Rows.TrackRefusesSaid :=
  OpenClaim.holds_of_wide 3 Tryz.f3 rfl rfl rfl rfl rfl rfl rfl ⟨rfl, rfl, rfl, rfl, rfl⟩ rfl rfl rfl rfl rfl (by kernel_rfl) Tryz.func3 (by kernel_rfl)
    (of_decide_eq_true (by kernel_rfl)) (by unfold Func.isWrapper; first | (rw [if_pos (by decide +kernel)]; kernel_rfl) | (rw [if_neg (by decide +kernel)]; exact ⟨rfl, rfl⟩))
    (fun os started H enc _ => lifted os started H enc)
end Go.Proofs.YtiololnblplloaaGreat.tkr
