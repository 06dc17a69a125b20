/- LooksBuilt, proved. Conditions: none beyond the row's own. -/
import Derived.Test.YtpdiljdklllmjaaGreatLkBuild
import Derived.Test.YtpdiljdklllmjaaGreatRows

namespace Go.Proofs.YtpdiljdklllmjaaGreat.lbt
open Go Go.Ev Go.Proofs Go.ChangeShapes Go.WideShapes Go.ChangeAt Go.RowKit Go.Proofs.YtpdiljdklllmjaaGreat.ar Go.Proofs.YtpdiljdklllmjaaGreat.tabs Go.Proofs.YtpdiljdklllmjaaGreat.tree Go.Proofs.YtpdiljdklllmjaaGreat.looks

theorem loopC_sum {f : Re → Nat} : ∀ (l : List Re) (n : Nat), loopC f l n ≤ 2000 → loopC f l n = n + (l.map f).sum := by
  intro l
  induction l with
  | nil => intro n _; simp [loopC]
  | cons p l ih =>
    intro n h
    simp only [loopC] at h ⊢
    split at h
    · omega
    · rename_i h2
      rw [if_neg h2, ih _ h]; simp [Nat.add_assoc]
theorem nodes_le : ∀ (k : Nat) (r : Re), cR k r ≤ 2000 → nodesR r ≤ cR k r := by
  intro k
  induction k with
  | zero => intro r h; simp [cR] at h
  | succ k ih =>
    intro r h
    obtain ⟨kd, s0, s1, s2, s3, rs, lo, hi, neg⟩ := r
    simp only [cR, Re.parts] at h ⊢
    obtain ⟨_, hs⟩ := loopC_small (cR_pos k) _ _ h
    rw [loopC_sum _ _ h]
    have : ∀ l : List Re, (∀ p ∈ l, cR k p ≤ 2000) → nodesL l ≤ (l.map (cR k)).sum := by
      intro l
      induction l with
      | nil => intro _; simp [nodesL]
      | cons p l ihl =>
        intro hl
        have h1 := ih p (hl p (by simp))
        have h2 := ihl fun q hq => hl q (by simp [hq])
        simp only [nodesL, List.map_cons, List.sum_cons]; omega
    have := this rs hs
    simp only [nodesR]; omega

theorem awake_fn (m : Mem) : Fn0 Tryz.prog 4 [] m fun _ u => u = .bool true := by
  refine Fn.enter (N := 23) hX Tryz.func4 rfl rfl (by show _ ≤ _; simp) (fun w0 hL => ?_)
  conv => whnf
  conv => whnf
  repeat ((first | refine zT ?_ | refine zF ?_ | refine zL hX hL ?_ | refine zB hX hL ?_ | (refine zS hX hL ?_; clear hL; intro w hL) | refine zI ?_ | refine zG hX ?_ | refine zO ?_); conv => whnf)
  refine NewReq.mk hL ?_
  clear hL
  intro b5 w hL
  have hL : Ev.Loc m [] w0 m [(b5, .cells (toArr (List.flatten [reC 10 0 0 0 0 (.slice none 0 0) 0 0 false])) 27 (0, 0))] w := hL
  obtain ⟨m1, hL, hm1, hsl⟩ := rows_freeze (n := 1) (cap := 1) (l := [leafR 10]) (R := RepRe m) hL rfl (Nat.le_refl 1) (by decide) (fun r hr => by rw [List.mem_singleton] at hr; subst hr; rfl) fun i x hx => by
    cases i with
    | zero => simp at hx; subst hx; exact ⟨_, rfl, leaf_rep m 10 (by simp [inI])⟩
    | succ i => simp at hx
  have hmk : makeR [leafR 10] = (0, [leafR 10]) := by
    have hf : formedR (leafR 10) = true := by decide
    unfold makeR
    rw [if_neg (by simp [hf]), if_neg (by decide)]; rfl
  conv => whnf
  repeat ((first | refine zT ?_ | refine zF ?_ | refine zL hX hL ?_ | refine zB hX hL ?_ | (refine zS hX hL ?_; clear hL; intro w hL) | refine zI ?_ | refine zG hX ?_ | refine zO ?_); conv => whnf)
  refine CallReq.pure (Make_fn m1 _ _ (hsl.le (Mem.Le.refl m1) fun cs x _ hx => hx.le hm1) (fun r hr => by rw [List.mem_singleton] at hr; subst hr; exact .mk _ _ _ _ _ _ _ _ _ (by decide) (fun p hp => by simp at hp)) (by decide)) hL ?_
  clear hL
  rintro v m2 w hL hm2 ⟨A, n, c, rfl, hs2⟩
  rw [hmk] at hs2 ⊢
  have hn := hs2.lens.1
  conv => whnf
  repeat ((first | refine zT ?_ | refine zF ?_ | refine zL hX hL ?_ | refine zB hX hL ?_ | (refine zS hX hL ?_; clear hL; intro w hL) | refine zI ?_ | refine zG hX ?_ | refine zO ?_); conv => whnf)
  have hn : n = 1 := hn
  subst hn
  have hs2 : Sl m2 9 (RepRe m2) (.slice A 1 c) [leafR 10] := hs2
  have hix : idxR (fun x => likeR x (leafR 10)) [leafR 10] = 0 := by decide
  refine NewReq.mk hL ?_
  clear hL
  intro b1 w hL
  conv => whnf
  conv => whnf
  repeat ((first | refine zT ?_ | refine zF ?_ | refine zL hX hL ?_ | refine zB hX hL ?_ | (refine zS hX hL ?_; clear hL; intro w hL) | refine zI ?_ | refine zG hX ?_ | refine zO ?_); conv => whnf)
  refine CallReq.val (Index_fn m2 _ _ (leafR 10) _ hs2 (leaf_rep m2 10 (by simp [inI]))) hL ?_
  clear hL
  intro w hL
  rw [hix]
  conv => whnf
  repeat ((first | refine zT ?_ | refine zF ?_ | refine zL hX hL ?_ | refine zB hX hL ?_ | (refine zS hX hL ?_; clear hL; intro w hL) | refine zI ?_ | refine zG hX ?_ | refine zO ?_); conv => whnf)
  exact RetReq.mk hL.drop ⟨rfl, rfl⟩

set_option maxHeartbeats 4000000 in
theorem walk (m : Mem) (r : Re) (cs : List Value) (wv : Value) (ws : List Int) (hrep : RepRe m cs r) (hw : SlI m .u8 wv ws) (hwb : ∀ z ∈ ws, 0 ≤ z ∧ z ≤ 255) : Ev.Fn Tryz.prog 3 [.agg (toArr cs), wv] m [] fun _ _ v => v = .bool true := by
  obtain ⟨k, s0, s1, s2, s3, A, n, c, lo, hi, neg, rfl⟩ := hrep.form
  obtain ⟨W, wn, wc, rfl, hwn, -, hwm, -⟩ := id hw
  have hmx : maxLen = 9223372036854775807 := rfl
  refine Fn.enter (N := 108) hX Tryz.func3 rfl rfl (by show _ ≤ _; simp) (fun w0 hL => ?_)
  conv => whnf
  refine NewReq.mk hL ?_
  clear hL
  intro b2 w hL
  conv => whnf
  replace hL : Ev.Loc m [] w0 m ((b2, .cells (toArr (reC k s0 s1 s2 s3 (.slice A n c) lo hi neg)) 27 (0, 0)) :: []) w := hL
  conv => whnf
  repeat ((first | refine zT ?_ | refine zF ?_ | refine zL hX hL ?_ | refine zB hX hL ?_ | (refine zS hX hL ?_; clear hL; intro w hL) | refine zI ?_ | refine zG hX ?_ | refine zO ?_); conv => whnf)
  refine CallReq.pure (awake_fn m) hL ?_
  clear hL
  rintro u m0 w hL hm0 rfl
  have hrep := hrep.le hm0
  have hw : SlI m0 .u8 (.slice W wn wc) ws := hw.le hm0 (fun _ _ _ h => h)
  conv => whnf
  repeat ((first | refine zT ?_ | refine zF ?_ | refine zL hX hL ?_ | refine zB hX hL ?_ | (refine zS hX hL ?_; clear hL; intro w hL) | refine zI ?_ | refine zG hX ?_ | refine zO ?_); conv => whnf)
  refine CallReq.val (Few_fn m0 r _ hrep 60 (by omega)) hL ?_
  clear hL
  intro w hL
  by_cases hfew : cR 60 r ≤ 2000
  rotate_left
  · rw [decide_eq_false hfew]
    conv => whnf
    repeat ((first | refine zT ?_ | refine zF ?_ | refine zL hX hL ?_ | refine zB hX hL ?_ | (refine zS hX hL ?_; clear hL; intro w hL) | refine zI ?_ | refine zG hX ?_ | refine zO ?_); conv => whnf)
    refine CallReq.pure (awake_fn m0) hL ?_
    clear hL
    rintro u m1 w hL hm1 rfl
    conv => whnf
    repeat ((first | refine zT ?_ | refine zF ?_ | refine zL hX hL ?_ | refine zB hX hL ?_ | (refine zS hX hL ?_; clear hL; intro w hL) | refine zI ?_ | refine zG hX ?_ | refine zO ?_); conv => whnf)
    exact RetReq.mk (hL.sublist (List.nil_sublist _)) rfl
  rw [decide_eq_true hfew]
  have hsmall := small_of 60 r hfew
  by_cases h6 : (6 : Int) < wn
  · conv => whnf
    repeat ((first | refine BrReq.yes h6 ?_ | refine zT ?_ | refine zF ?_ | refine zL hX hL ?_ | refine zB hX hL ?_ | (refine zS hX hL ?_; clear hL; intro w hL) | refine zI ?_ | refine zG hX ?_ | refine zO ?_); conv => whnf)
    refine CallReq.pure (awake_fn m0) hL ?_
    clear hL
    rintro u m1 w hL hm1 rfl
    conv => whnf
    repeat ((first | refine zT ?_ | refine zF ?_ | refine zL hX hL ?_ | refine zB hX hL ?_ | (refine zS hX hL ?_; clear hL; intro w hL) | refine zI ?_ | refine zG hX ?_ | refine zO ?_); conv => whnf)
    exact RetReq.mk (hL.sublist (List.nil_sublist _)) rfl
  have hfm := refFormed_fn m0 r _ hrep
  by_cases hff : formedR r = false
  · rw [hff] at hfm
    conv => whnf
    repeat ((first | refine BrReq.no h6 ?_ | refine zT ?_ | refine zF ?_ | refine zL hX hL ?_ | refine zB hX hL ?_ | (refine zS hX hL ?_; clear hL; intro w hL) | refine zI ?_ | refine zG hX ?_ | refine zO ?_); conv => whnf)
    refine CallReq.val hfm hL ?_
    clear hL
    intro w hL
    conv => whnf
    repeat ((first | refine zT ?_ | refine zF ?_ | refine zL hX hL ?_ | refine zB hX hL ?_ | (refine zS hX hL ?_; clear hL; intro w hL) | refine zI ?_ | refine zG hX ?_ | refine zO ?_); conv => whnf)
    refine CallReq.pure (awake_fn m0) hL ?_
    clear hL
    rintro u m1 w hL hm1 rfl
    conv => whnf
    repeat ((first | refine zT ?_ | refine zF ?_ | refine zL hX hL ?_ | refine zB hX hL ?_ | (refine zS hX hL ?_; clear hL; intro w hL) | refine zI ?_ | refine zG hX ?_ | refine zO ?_); conv => whnf)
    exact RetReq.mk (hL.sublist (List.nil_sublist _)) rfl
  have hf : formedR r = true := by cases h : formedR r; exact absurd h hff; rfl
  rw [hf] at hfm
  have hsz := refSize_fn r m0 _ hrep
  conv => whnf
  repeat ((first | refine BrReq.no h6 ?_ | refine zT ?_ | refine zF ?_ | refine zL hX hL ?_ | refine zB hX hL ?_ | (refine zS hX hL ?_; clear hL; intro w hL) | refine zI ?_ | refine zG hX ?_ | refine zO ?_); conv => whnf)
  refine CallReq.val hfm hL ?_
  clear hL
  intro w hL
  conv => whnf
  repeat ((first | refine zT ?_ | refine zF ?_ | refine zL hX hL ?_ | refine zB hX hL ?_ | (refine zS hX hL ?_; clear hL; intro w hL) | refine zI ?_ | refine zG hX ?_ | refine zO ?_); conv => whnf)
  refine CallReq.val hsz hL ?_
  clear hL
  intro w hL
  by_cases h150 : (150 : Int) < sizeR r
  · conv => whnf
    repeat ((first | refine BrReq.yes h150 ?_ | refine zT ?_ | refine zF ?_ | refine zL hX hL ?_ | refine zB hX hL ?_ | (refine zS hX hL ?_; clear hL; intro w hL) | refine zI ?_ | refine zG hX ?_ | refine zO ?_); conv => whnf)
    refine CallReq.pure (awake_fn m0) hL ?_
    clear hL
    rintro u m1 w hL hm1 rfl
    conv => whnf
    repeat ((first | refine zT ?_ | refine zF ?_ | refine zL hX hL ?_ | refine zB hX hL ?_ | (refine zS hX hL ?_; clear hL; intro w hL) | refine zI ?_ | refine zG hX ?_ | refine zO ?_); conv => whnf)
    exact RetReq.mk (hL.sublist (List.nil_sublist _)) rfl
  conv => whnf
  repeat ((first | refine BrReq.no h150 ?_ | refine zT ?_ | refine zF ?_ | refine zL hX hL ?_ | refine zB hX hL ?_ | (refine zS hX hL ?_; clear hL; intro w hL) | refine zI ?_ | refine zG hX ?_ | refine zO ?_); conv => whnf)
  refine NewReq.mk hL ?_
  clear hL
  intro g5 w hL
  have hL : Ev.Loc m [] w0 m0 ((g5, .cells (toArr (List.flatten [reC k s0 s1 s2 s3 (.slice A n c) lo hi neg])) 27 (0, 0)) :: [(b2, .cells (toArr (reC k s0 s1 s2 s3 (.slice A n c) lo hi neg)) 27 (0, 0))]) w := hL
  obtain ⟨m1, hL, hm1, hsl⟩ := rows_freeze (n := 1) (cap := 1) (l := [r]) (R := RepRe m0) hL rfl (Nat.le_refl 1) (by decide) (fun r hr => by rw [List.mem_singleton] at hr; subst hr; rfl) fun i x hx => by
    cases i with
    | zero => simp at hx; subst hx; exact ⟨_, rfl, hrep⟩
    | succ i => simp at hx
  have hnb := nodes_le 60 r hfew
  conv => whnf
  repeat ((first | refine zT ?_ | refine zF ?_ | refine zL hX hL ?_ | refine zB hX hL ?_ | (refine zS hX hL ?_; clear hL; intro w hL) | refine zI ?_ | refine zG hX ?_ | refine zO ?_); conv => whnf)
  refine CallReq.pure (Make_fn m1 _ [r] (hsl.le (Mem.Le.refl m1) fun cs x _ hx => hx.le hm1) (fun r hr => by rw [List.mem_singleton] at hr; subst hr; exact hsmall) (by simp only [nodesL]; omega)) hL ?_
  clear hL
  rintro u m2 w hL hm2 ⟨Ap, np, cp, rfl, hsp⟩
  have hls : looksL [r] [] = looksR r [] := rfl
  have hmk : makeR [r] = if 4 < (looksR r []).length then (10, []) else (0, looksR r []) := by
    unfold makeR
    rw [if_neg (by simp [hf])]; rfl
  rw [hmk] at hsp ⊢
  by_cases hl4 : 4 < (looksR r []).length
  · rw [if_pos hl4] at hsp ⊢
    conv => whnf
    repeat ((first | refine zT ?_ | refine zF ?_ | refine zL hX hL ?_ | refine zB hX hL ?_ | (refine zS hX hL ?_; clear hL; intro w hL) | refine zI ?_ | refine zG hX ?_ | refine zO ?_); conv => whnf)
    refine NewReq.mk hL ?_
    clear hL
    intro b5 w hL
    conv => whnf
    conv => whnf
    repeat ((first | refine zT ?_ | refine zF ?_ | refine zL hX hL ?_ | refine zB hX hL ?_ | (refine zS hX hL ?_; clear hL; intro w hL) | refine zI ?_ | refine zG hX ?_ | refine zO ?_); conv => whnf)
    exact RetReq.mk (hL.sublist (List.nil_sublist _)) rfl
  rw [if_neg hl4] at hsp ⊢
  have hd40 : deepR 40 r ≤ 40 := formed_deep hf
  obtain ⟨hall, hsz1⟩ := formed_size hf
  have hin := rep_in r hrep
  have hfnd := looks_fnd (looksR r []) r [] hd40 (fun x hx => by cases hx) (fun x hx => hx)
  have hlsm := looks_of (P := Small) (fun r h => small_bare h) (fun _ _ _ _ _ _ _ _ _ h => by cases h; assumption) r [] hsmall (fun x hx => by cases hx)
  have hlall := looks_of (P := fun r => allR r = true) all_bare all_part r [] hall (fun x hx => by cases hx)
  generalize looksR r [] = ls at *
  have herr := err_fnd (by omega) r hfnd [] 0 (fun _ _ _ _ _ _ _ _ _ _ => trivial) hall
  have hlk := bits_ok (ls := ls) (ws := ws) (by omega)
  have hm02 := hm1.trans hm2
  have hrep2 := hrep.le hm02
  have hw2 : SlI m2 .u8 (.slice W wn wc) ws := hw.le hm02 (fun _ _ _ h => h)
  dsimp only at hsp ⊢
  conv => whnf
  repeat ((first | refine zT ?_ | refine zF ?_ | refine zL hX hL ?_ | refine zB hX hL ?_ | (refine zS hX hL ?_; clear hL; intro w hL) | refine zI ?_ | refine zG hX ?_ | refine zO ?_); conv => whnf)
  refine NewReq.mk hL ?_
  clear hL
  intro b5 w hL
  conv => whnf
  replace hL : Ev.Loc m [] w0 m2 [(b5, .cells (toArr [.slice none 0 0]) 34 (0, 0)), (b2, .cells (toArr (reC k s0 s1 s2 s3 (.slice A n c) lo hi neg)) 27 (0, 0))] w := hL
  conv => whnf
  repeat ((first | refine zT ?_ | refine zF ?_ | refine zL hX hL ?_ | refine zB hX hL ?_ | (refine zS hX hL ?_; clear hL; intro w hL) | refine zI ?_ | refine zG hX ?_ | refine zO ?_); conv => whnf)
  refine CallReq.mk (L1 := []) (L2 := [_, _]) (New_fn m2) hL ?_
  clear hL
  rintro u mx La w hL - ⟨hmx', ab, rfl, hA⟩
  rw [hmx'] at hL
  clear hmx' mx
  have hL := Loc.back (L1 := La) (L2 := [_, _]) hL
  replace hL : Ev.Loc m [] w0 m2 ((b5, .cells (toArr [.slice Ap np cp]) 34 (0, 0)) :: (b2, .cells (toArr (reC k s0 s1 s2 s3 (.slice A n c) lo hi neg)) 27 (0, 0)) :: La) w := hL
  conv => whnf
  repeat ((first | refine zT ?_ | refine zF ?_ | refine zL hX hL ?_ | refine zB hX hL ?_ | (refine zS hX hL ?_; clear hL; intro w hL) | refine zI ?_ | refine zG hX ?_ | refine zO ?_); conv => whnf)
  refine CallReq.mk (L1 := La) (L2 := [_, _]) (PlanBuild_fn m2 _ ls hsp r _ hrep2 ab [] La hA okA_nil) (Loc.back (L1 := [_, _]) hL) ?_
  clear hL
  rintro u m3 Lb w hL hm3 ⟨rfl, hA2⟩
  have hL := Loc.back (L1 := Lb) (L2 := [_, _]) hL
  replace hL : Ev.Loc m [] w0 m3 ((b5, .cells (toArr [.slice Ap np cp]) 34 (0, 0)) :: (b2, .cells (toArr (reC k s0 s1 s2 s3 (.slice A n c) lo hi neg)) 27 (0, 0)) :: Lb) w := hL
  have hrep3 := hrep2.le hm3
  have hw3 : SlI m3 .u8 (.slice W wn wc) ws := hw2.le hm3 (fun _ _ _ h => h)
  have hsp3 : Sl m3 9 (RepRe m3) (.slice Ap np cp) ls := hsp.le hm3 fun _ _ _ h => h.le hm3
  have hm03 := (hm0.trans hm02).trans hm3
  unfold buildN at hA2 ⊢
  rw [if_neg hff] at hA2 ⊢
  dsimp only at hA2 ⊢
  rw [herr, if_neg (by decide)] at hA2 ⊢
  have hdp := dp_le 40 r hd40
  have hg : gR r ≤ 19990 := by
    rw [gR_eq]
    unfold gB
    have h1 : sizeR r * dpR r ≤ 150 * 40 := Nat.mul_le_mul (by omega) (by omega)
    omega
  obtain ⟨hb1, hb2, hb3⟩ := bR_bd (lkR ls) r hin hall hsz1 [] 0 okA_nil (by simpa using hg)
  rw [List.length_nil, Nat.zero_add] at hb3
  have hhas := bR_has (ws := ws) (bts := bitsR ls ws ls.length) hlk r hin hall [] okA_nil herr (by omega)
  generalize bR (lkR ls) r [] 0 = b at *
  obtain ⟨⟨ns, e⟩, id⟩ := b
  dsimp only at hA2 hb1 hb2 hb3 hhas ⊢
  have hid := hb1.ok
  rw [if_neg (show ¬ id < 0 by have := hid.1; omega)] at hA2 ⊢
  dsimp only at hA2 ⊢
  obtain ⟨i, rfl⟩ : ∃ i : Nat, id = i := ⟨id.toNat, by have := hid.1; omega⟩
  have hil : i < ns.length := by have := hid.2; omega
  conv => whnf
  repeat ((first | refine BrReq.no (show ¬ ((i : Int) < 0) by omega) ?_ | refine zT ?_ | refine zF ?_ | refine zL hX hL ?_ | refine zB hX hL ?_ | (refine zS hX hL ?_; clear hL; intro w hL) | refine zI ?_ | refine zG hX ?_ | refine zO ?_); conv => whnf)
  have hA3 := hA2
  obtain ⟨A1, c1, mb, L1, hLb, -⟩ := id hA2
  refine CallReq.li (L1 := [(ab, arO (.slice A1 ns.length c1) mb)]) (L2 := ((mb, mapW (ndW ns 0)) :: L1) ++ [(b5, .cells (toArr [.slice Ap np cp]) 34 (0, 0)), (b2, .cells (toArr (reC k s0 s1 s2 s3 (.slice A n c) lo hi neg)) 27 (0, 0))]) (Len_fn m3 ab mb ns.length c1 A1) (by
    have h := Loc.back (L1 := [_, _]) hL
    rw [hLb] at h; exact h) ?_
  clear hL
  intro w hL
  replace hL : Ev.Loc m [] w0 m3 ((b5, .cells (toArr [.slice Ap np cp]) 34 (0, 0)) :: (b2, .cells (toArr (reC k s0 s1 s2 s3 (.slice A n c) lo hi neg)) 27 (0, 0)) :: Lb) w := by
    have h : Ev.Loc m [] w0 m3 (Lb ++ [(b5, .cells (toArr [.slice Ap np cp]) 34 (0, 0)), (b2, .cells (toArr (reC k s0 s1 s2 s3 (.slice A n c) lo hi neg)) 27 (0, 0))]) w := by rw [hLb]; exact hL
    exact Loc.back (L2 := [_, _]) h
  conv => whnf
  repeat ((first | refine BrReq.no (show ¬ ((ns.length : Int) ≤ (i : Int)) by omega) ?_ | refine zT ?_ | refine zF ?_ | refine zL hX hL ?_ | refine zB hX hL ?_ | (refine zS hX hL ?_; clear hL; intro w hL) | refine zI ?_ | refine zG hX ?_ | refine zO ?_); conv => whnf)
  refine DrawReq.plan hX (.fst 0 (.fst 2 (.fst 3 (.fst 4 (.fst 5 (.fst 8 (.alt 1 (.alt 6 (.alt 7 (.fst 9 (.alt 10 (.fst 11 (.done)) (.stop))) (.stop)) (.stop)) (.stop)))))))) [(b5, .cells (toArr [.slice Ap np cp]) 34 (0, 0))] (by kernel_rfl) (by kernel_rfl) hL (fun h => h.one 0 rfl) ?_
  clear hL
  intro w hL
  conv => whnf
  repeat ((first | refine zQ hX ?_ | refine zR hX ?_ | refine zA ?_ | refine zT ?_ | refine zF ?_ | refine zL hX hL ?_ | refine zB hX hL ?_ | (refine zS hX hL ?_; clear hL; intro w hL) | refine zI ?_ | refine zG hX ?_ | refine zO ?_); conv => whnf)
  refine CallReq.mk (L1 := Lb) (L2 := [_, _]) (Nodes_fn m3 ab ns Lb hA3 hb2) (Loc.back (L1 := [_, _]) hL) ?_
  clear hL
  rintro u m4 Lx w hL hm4 ⟨hLx, hnd⟩
  rw [hLx] at hL
  clear hLx Lx
  have hL := Loc.back (L1 := Lb) (L2 := [_, _]) hL
  replace hL : Ev.Loc m [] w0 m4 ((b5, .cells (toArr [.slice Ap np cp]) 34 (0, 0)) :: (b2, .cells (toArr (reC k s0 s1 s2 s3 (.slice A n c) lo hi neg)) 27 (0, 0)) :: Lb) w := hL
  obtain ⟨A2, n2, c2, rfl, -⟩ := id hnd
  refine SReq.mk ((hL.one 0 rfl).weaken hm4 hm03) ?_
  conv => whnf
  repeat ((first | refine zQ hX ?_ | refine zR hX ?_ | refine zA ?_ | refine zT ?_ | refine zF ?_ | refine zL hX hL ?_ | refine zB hX hL ?_ | (refine zS hX hL ?_; clear hL; intro w hL) | refine zI ?_ | refine zG hX ?_ | refine zO ?_); conv => whnf)
  refine CallReq.pure (Bits_fn m4 _ _ ls ws (hsp3.le hm4 fun _ _ _ h => h.le hm4) hlsm hlall (hw3.le hm4 (fun _ _ _ h => h)) hwb (by omega) (by omega)) hL ?_
  clear hL
  rintro u m5 w hL hm5 hbs
  obtain ⟨Ab, nb, cb, rfl, -⟩ := id hbs
  have hm35 := hm4.trans hm5
  refine SReq.mk ((hL.one 0 rfl).weaken hm35 hm03) ?_
  conv => whnf
  repeat ((first | refine zQ hX ?_ | refine zR hX ?_ | refine zA ?_ | refine zT ?_ | refine zF ?_ | refine zL hX hL ?_ | refine zB hX hL ?_ | (refine zS hX hL ?_; clear hL; intro w hL) | refine zI ?_ | refine zG hX ?_ | refine zO ?_); conv => whnf)
  refine CallReq.mk (L1 := []) (L2 := (b5, .cells (toArr [.slice Ap np cp]) 34 (0, 0)) :: (b2, .cells (toArr (reC k s0 s1 s2 s3 (.slice A n c) lo hi neg)) 27 (0, 0)) :: Lb) (ar.Spans_fn m5 _ ns (hnd.le hm5 (fun _ _ _ h => h)) hb2.inn hb2.right hb2.len _ ws (hw3.le hm35 (fun _ _ _ h => h)) hwb (by omega) _ (bitsR ls ws ls.length) hbs (bitsR_rng (by omega)) (bitsR_len _ _ _)) hL ?_
  clear hL
  rintro u m6 Ly w hL hm6 ⟨hLy, tabs, htabs, htl, hT⟩
  rw [hLy] at hL
  clear hLy Ly
  obtain ⟨At, ct, et, hrt⟩ := hT i hil
  obtain ⟨A5, n5, c5, rfl, hn5, -⟩ := id htabs
  obtain ⟨at_, cst, eat, hcl, hcc, rfl⟩ := htabs.elem i _ et
  have hmc := hcc 0 _ rfl
  have add0 : ∀ x : Addr, x.add 0 = x := fun x => by cases x; rfl
  rw [add0] at hmc
  replace hL : Ev.Loc m [] w0 m6 ((b5, .cells (toArr [.slice Ap np cp]) 34 (0, 0)) :: (b2, .cells (toArr (reC k s0 s1 s2 s3 (.slice A n c) lo hi neg)) 27 (0, 0)) :: Lb) w := hL
  have hm36 := hm35.trans hm6
  refine SReq.mk ((hL.one 0 rfl).weaken hm36 hm03) ?_
  have hTi : T ws (bitsR ls ws ls.length) ns (i : Int) = tabN ws (bitsR ls ws ls.length) ns i := by unfold T; rw [Int.toNat_natCast]
  have hq := (hhas (by omega)).2
  conv => whnf
  repeat ((first | refine Idx2Req.mk i at_ rfl (by omega) eat ?_ | refine LdReq.one hX rfl rfl hL hmc ?_ | refine SReq.mk ((hL.one 0 rfl).weaken hm36 hm03) ?_ | refine zQ hX ?_ | refine zR hX ?_ | refine zA ?_ | refine zT ?_ | refine zF ?_ | refine zL hX hL ?_ | refine zB hX hL ?_ | (refine zS hX hL ?_; clear hL; intro w hL) | refine zI ?_ | refine zG hX ?_ | refine zO ?_); conv => whnf)
  refine CallReq.pure (Go.Proofs.YtpdiljdklllmjaaGreat.tabs.Spans_fn r m6 _ _ ws (hrep3.le hm36) hsmall hall (hw3.le hm36 (fun _ _ _ h => h)) hwb (by omega)) hL ?_
  clear hL
  rintro u m7 w hL hm7 hR
  have hT7 := hrt.le hm7
  obtain ⟨A7, c7, rfl, -, -, hrb⟩ := id hR
  obtain ⟨A8, c8, e8, -, -, hra⟩ := id hT7
  cases e8
  have he : Eqt (ws.length + 1) (tabN ws (bitsR ls ws ls.length) ns i) (spansR ws r) := by rw [← hTi]; exact hq
  clear hrt hT hq
  replace hL : Ev.Loc m [] w0 m7 [] w := hL.sublist (List.nil_sublist _)
  conv => whnf
  repeat ((first | refine zT ?_ | refine zF ?_ | refine zL hX hL ?_ | refine zB hX hL ?_ | (refine zS hX hL ?_; clear hL; intro w hL) | refine zI ?_ | refine zG hX ?_ | refine zO ?_); conv => whnf)
  refine LoopReq.inv hX (fun j : Nat => [(83, .int .i64 j)]) [10, 11, 82]
    (fun j w => j ≤ ws.length + 1 ∧ Ev.Loc m [] w0 m7 [] w) (fun j => ws.length + 1 - j) 0
    ⟨by omega, hL⟩ ⟨rfl, trivial⟩ ?_
  clear hL
  rintro i w f1 ⟨hi, hL⟩
  conv => whnf
  repeat ((first | refine zT ?_ | refine zF ?_ | refine zL hX hL ?_ | refine zB hX hL ?_ | (refine zS hX hL ?_; clear hL; intro w hL) | refine zI ?_ | refine zG hX ?_ | refine zO ?_); conv => whnf)
  refine BrReq.dec (fun hlt => ?_) (fun hlt => ?_)
  · have hi' : i < ws.length + 1 := by omega
    obtain ⟨a, rfl, A1, c1, h1, h2⟩ := hra i hi'
    obtain ⟨b, rfl, B1, d1, k1, k2⟩ := hrb i hi'
    conv => whnf
    repeat ((first | refine zT ?_ | refine zF ?_ | refine zL hX hL ?_ | refine zB hX hL ?_ | (refine zS hX hL ?_; clear hL; intro w hL) | refine zI ?_ | refine zG hX ?_ | refine zO ?_); conv => whnf)
    refine LoopReq.inv hX (fun j : Nat => [(88, .int .i64 j)]) [10, 11, 12, 82, 83, 87]
      (fun j w => j ≤ ws.length + 1 ∧ Ev.Loc m [] w0 m7 [] w) (fun j => ws.length + 1 - j) 0
      ⟨by omega, hL⟩ ⟨rfl, trivial⟩ ?_
    clear hL
    rintro j w f2 ⟨hj, hL⟩
    conv => whnf
    repeat ((first | refine zT ?_ | refine zF ?_ | refine zL hX hL ?_ | refine zB hX hL ?_ | (refine zS hX hL ?_; clear hL; intro w hL) | refine zI ?_ | refine zG hX ?_ | refine zO ?_); conv => whnf)
    refine BrReq.dec (fun hlt2 => ?_) (fun hlt2 => ?_)
    · have hj' : j < ws.length + 1 := by omega
      obtain ⟨a', rfl, h3⟩ := h2 j hj'
      obtain ⟨b', rfl, k3⟩ := k2 j hj'
      have e := he i j hi' hj'
      generalize tabN ws (bitsR ls ws ls.length) ns _ i j = x at h3 e
      generalize spansR ws r i j = y at k3 e
      subst e
      cases x
      · conv => whnf
        repeat ((first | refine zT ?_ | refine zF ?_ | refine zL hX hL ?_ | refine zB hX hL ?_ | (refine zS hX hL ?_; clear hL; intro w hL) | refine zI ?_ | refine zG hX ?_ | refine zO ?_); conv => whnf)
        refine DrawReq.plan hX (.fst 0 (.fst 1 (.fst 2 (.fst 3 (.fst 4 (.fst 5 (.fst 6 (.fst 7 (.fst 8 (.fst 9 (.fst 10 (.fst 11 (.fst 12 (.fst 13 (.fst 14 (.done)))))))))))))))) [] (by kernel_rfl) (by kernel_rfl) hL (fun h => h.sublist (List.nil_sublist _)) ?_
        clear hL
        intro w hL
        conv => whnf
        repeat ((first | refine Idx2Req.mk i a rfl (by omega) rfl ?_ | refine Idx2Req.mk i b rfl (by omega) rfl ?_ | refine Idx2Req.mk j a' rfl (by omega) rfl ?_ | refine Idx2Req.mk j b' rfl (by omega) rfl ?_ | refine QLdReq.one hX rfl rfl h1 ?_ | refine QLdReq.one hX rfl rfl k1 ?_ | refine QLdReq.one hX rfl rfl h3 ?_ | refine QLdReq.one hX rfl rfl k3 ?_ | refine zQ hX ?_ | refine zR hX ?_ | refine zA ?_ | refine zT ?_ | refine zF ?_ | refine zL hX hL ?_ | refine zB hX hL ?_ | (refine zS hX hL ?_; clear hL; intro w hL) | refine zI ?_ | refine zG hX ?_ | refine zO ?_); conv => whnf)
        refine ⟨j + 1, ⟨by omega, hL⟩, by first | omega | (simp only; omega), ?_, ?_⟩
        · repeat (first | exact trivial | (refine And.intro (by (conv => lhs; whnf) <;> (conv => rhs; whnf) <;> (first | rfl)) ?_))
        · repeat (first | exact trivial | (refine And.intro (by (conv => lhs; whnf) <;> (conv => rhs; whnf) <;> (first | rfl)) ?_))
      · conv => whnf
        repeat ((first | refine zT ?_ | refine zF ?_ | refine zL hX hL ?_ | refine zB hX hL ?_ | (refine zS hX hL ?_; clear hL; intro w hL) | refine zI ?_ | refine zG hX ?_ | refine zO ?_); conv => whnf)
        refine DrawReq.plan hX (.fst 0 (.fst 1 (.fst 2 (.fst 3 (.fst 4 (.fst 5 (.fst 6 (.fst 7 (.fst 8 (.fst 9 (.fst 10 (.fst 11 (.fst 12 (.fst 13 (.fst 14 (.done)))))))))))))))) [] (by kernel_rfl) (by kernel_rfl) hL (fun h => h.sublist (List.nil_sublist _)) ?_
        clear hL
        intro w hL
        conv => whnf
        repeat ((first | refine Idx2Req.mk i a rfl (by omega) rfl ?_ | refine Idx2Req.mk i b rfl (by omega) rfl ?_ | refine Idx2Req.mk j a' rfl (by omega) rfl ?_ | refine Idx2Req.mk j b' rfl (by omega) rfl ?_ | refine QLdReq.one hX rfl rfl h1 ?_ | refine QLdReq.one hX rfl rfl k1 ?_ | refine QLdReq.one hX rfl rfl h3 ?_ | refine QLdReq.one hX rfl rfl k3 ?_ | refine zQ hX ?_ | refine zR hX ?_ | refine zA ?_ | refine zT ?_ | refine zF ?_ | refine zL hX hL ?_ | refine zB hX hL ?_ | (refine zS hX hL ?_; clear hL; intro w hL) | refine zI ?_ | refine zG hX ?_ | refine zO ?_); conv => whnf)
        refine ⟨j + 1, ⟨by omega, hL⟩, by first | omega | (simp only; omega), ?_, ?_⟩
        · repeat (first | exact trivial | (refine And.intro (by (conv => lhs; whnf) <;> (conv => rhs; whnf) <;> (first | rfl)) ?_))
        · repeat (first | exact trivial | (refine And.intro (by (conv => lhs; whnf) <;> (conv => rhs; whnf) <;> (first | rfl)) ?_))
    · conv => whnf
      repeat ((first | refine zT ?_ | refine zF ?_ | refine zL hX hL ?_ | refine zB hX hL ?_ | (refine zS hX hL ?_; clear hL; intro w hL) | refine zI ?_ | refine zG hX ?_ | refine zO ?_); conv => whnf)
      refine ⟨i + 1, ⟨by omega, hL⟩, by first | omega | (simp only; omega), ?_, ?_⟩
      · repeat (first | exact trivial | (refine And.intro (by (conv => lhs; whnf) <;> (conv => rhs; whnf) <;> (first | rfl)) ?_))
      · repeat (first | exact trivial | (refine And.intro (by (conv => lhs; whnf) <;> (conv => rhs; whnf) <;> (first | rfl)) ?_))
  · conv => whnf
    repeat ((first | refine zT ?_ | refine zF ?_ | refine zL hX hL ?_ | refine zB hX hL ?_ | (refine zS hX hL ?_; clear hL; intro w hL) | refine zI ?_ | refine zG hX ?_ | refine zO ?_); conv => whnf)
    exact RetReq.mk hL rfl

theorem contract (m : Mem) (vs : List Value) (hl : vs.length = Tryz.f3.params.size) (hg : ∀ (j : Nat) t v, Tryz.f3.params.toList[j]? = some t → vs[j]? = some v → Given X m t v) :
    Ev.Fn Tryz.prog 3 vs m [] fun _ _ v => v = .bool true := by
  match vs, hl with
  | [va, vb], _ =>
    obtain ⟨ca, na, rfl, h2⟩ := (hg 0 27 va rfl rfl).agg rfl rfl
    obtain ⟨r, h1⟩ := re_of na ca h2
    obtain ⟨l, h3, -, h5⟩ := (hg 1 28 vb rfl rfl).ints (k := .u8) rfl rfl rfl rfl rfl
    exact walk m r ca vb l h1 h3 h5

theorem spec (H : Type) (ds : List (DataW H)) (h : ds.length = Tryz.f3.params.size) : Rows.looksBuiltSpec.fn H ds = { results := [.lit (.bool true)], args := ds } := by
  match ds, h with
  | [_, _], _ => rfl

set_option maxRecDepth 100000 in
theorem lifted (os : Os) (started : os.Started) (H : Type) (enc : TypeId × Value → H) :
    ReturnsInHanded {} Tryz.checked os 3 .any (Rows.looksBuiltSpec.pre6 enc Tryz.prog Tryz.f3 Rows.looksBuiltRow.domain false) (Rows.looksBuiltSpec.post enc Tryz.prog Tryz.f3 false true false false) := by
  refine returnsInHanded_of_change_sized (C := Tryz.checked) (by kernel_rfl) started (by kernel_rfl) Tryz.func3
    (ChangeSpec.witness6 (enc := enc) (C := Tryz.checked) false ⟨#[], #[.agg (toArr (reC 0 0 0 0 0 (.slice none 0 0) 0 0 false)), .slice none 0 0], []⟩ 8 (by kernel_rfl) (by kernel_rfl) (by kernel_rfl) (by kernel_rfl)) ?_
  intro W base args ds gs before hval hW _ hsz _
  exact law_core hX (by kernel_rfl) rfl rfl Tryz.underlying4 (by decide +kernel) (fun H ds h => spec H ds h) contract W base args ds gs before hval hW hsz

set_option maxRecDepth 100000 in
theorem proved : Rows.LooksBuiltSaid :=
  OpenClaim.holds_of_wide 3 Tryz.f3 rfl rfl rfl rfl rfl rfl rfl ⟨rfl, rfl, rfl, rfl, rfl⟩ rfl rfl rfl rfl rfl (by kernel_rfl) Tryz.func3 (by kernel_rfl)
    (of_decide_eq_true (by kernel_rfl)) (by unfold Func.isWrapper; first | (rw [if_pos (by decide +kernel)]; kernel_rfl) | (rw [if_neg (by decide +kernel)]; exact ⟨rfl, rfl⟩))
    (fun os started H enc _ => lifted os started H enc)
end Go.Proofs.YtpdiljdklllmjaaGreat.lbt
