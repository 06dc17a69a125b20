/- Looks: gathered out of a pattern. Conditions: none. -/
import Derived.Test.YtpdiljdklllmjaaGreatLooksFn
import Derived.Test.YtpdiljdklllmjaaGreatEv

namespace Go.Proofs.YtpdiljdklllmjaaGreat.looks
open Go Go.Ev Go.Proofs Go.Proofs.YtpdiljdklllmjaaGreat.tree

mutual
/-- The looks of a pattern, behind others. -/
def looksR : Re → List Re → List Re
  | .mk k s0 s1 s2 s3 rs lo hi neg, ls =>
    if k < 8 then looksL rs ls
    else if (looksL rs ls).any (fun x => sameR 41 x (bareR (.mk k s0 s1 s2 s3 rs lo hi neg))) then looksL rs ls
    else looksL rs ls ++ [bareR (.mk k s0 s1 s2 s3 rs lo hi neg)]
def looksL : List Re → List Re → List Re
  | [], ls => ls
  | p :: l, ls => looksL l (looksR p ls)
end
mutual
def nodesR : Re → Nat
  | .mk _ _ _ _ _ rs _ _ _ => nodesL rs + 1
def nodesL : List Re → Nat
  | [] => 0
  | p :: l => nodesR p + nodesL l
end
theorem looksL_append (a b : List Re) : ∀ ls, looksL (a ++ b) ls = looksL b (looksL a ls) := by
  induction a with
  | nil => intro ls; rfl
  | cons p a ih => intro ls; simp only [List.cons_append, looksL]; exact ih _
theorem nodesL_append (a b : List Re) : nodesL (a ++ b) = nodesL a + nodesL b := by
  induction a with
  | nil => simp [nodesL]
  | cons p a ih => simp only [List.cons_append, nodesL, ih]; omega
theorem looksL_take (rs : List Re) (j : Nat) (h : j < rs.length) (ls : List Re) : looksL (rs.take (j + 1)) ls = looksR rs[j] (looksL (rs.take j) ls) := by
  rw [List.take_succ_eq_append_getElem h, looksL_append]; rfl
theorem nodesL_take (rs : List Re) (j : Nat) (h : j < rs.length) : nodesL (rs.take (j + 1)) = nodesL (rs.take j) + nodesR rs[j] := by
  rw [List.take_succ_eq_append_getElem h, nodesL_append]; simp [nodesL]
theorem nodesL_take_le (rs : List Re) (j : Nat) : nodesL (rs.take j) ≤ nodesL rs := by
  conv => rhs; rw [← List.take_append_drop j rs]
  rw [nodesL_append]; omega

theorem deep_up : ∀ (k : Nat) (r : Re), deepR k r ≤ k → deepR (k + 1) r ≤ k + 1 := by
  intro k
  induction k with
  | zero => intro r h; simp [deepR] at h
  | succ k ih =>
    intro r h
    obtain ⟨kd, s0, s1, s2, s3, rs, lo, hi, neg⟩ := r
    have hp := deep_part h
    show (rs.map (deepR (k + 1))).foldl max 0 + 1 ≤ k + 2
    have := foldl_max_le (B := k + 1) (rs.map (deepR (k + 1))) 0 (by omega) (by intro x hx; obtain ⟨p, hp', rfl⟩ := List.mem_map.1 hx; exact ih p (hp p hp'))
    omega
theorem deep40_part {kd s0 s1 s2 s3 lo hi : Int} {neg : Bool} {rs : List Re} (h : deepR 40 (.mk kd s0 s1 s2 s3 rs lo hi neg) ≤ 40) : ∀ p ∈ rs, deepR 40 p ≤ 40 := fun p hp => deep_up 39 p (deep_part h p hp)
theorem deep_bare (k : Nat) (r : Re) : deepR k (bareR r) = deepR k r := by
  obtain ⟨kd, s0, s1, s2, s3, rs, lo, hi, neg⟩ := r
  cases k <;> rfl

theorem looks_deep (r : Re) : ∀ ls, deepR 40 r ≤ 40 → (∀ x ∈ ls, deepR 40 x ≤ 40) → ∀ x ∈ looksR r ls, deepR 40 x ≤ 40 := by
  induction r using Re.ind with
  | h k s0 s1 s2 s3 rs lo hi neg ih =>
    intro ls hd hls
    have hL : ∀ (l : List Re), (∀ p ∈ l, p ∈ rs) → ∀ ls, (∀ x ∈ ls, deepR 40 x ≤ 40) → ∀ x ∈ looksL l ls, deepR 40 x ≤ 40 := by
      intro l
      induction l with
      | nil => intro _ ls h; exact h
      | cons p l ihl =>
        intro hm ls h
        exact ihl (fun q hq => hm q (by simp [hq])) _ (ih p (hm p (by simp)) ls (deep40_part hd p (hm p (by simp))) h)
    have h1 := hL rs (fun p hp => hp) ls hls
    simp only [looksR]
    split
    · exact h1
    · split
      · exact h1
      · intro x hx
        rcases List.mem_append.1 hx with hx | hx
        · exact h1 x hx
        · rw [List.mem_singleton] at hx; subst hx
          rw [deep_bare]; exact hd
theorem looksL_deep : ∀ (l : List Re) (ls : List Re), (∀ p ∈ l, deepR 40 p ≤ 40) → (∀ x ∈ ls, deepR 40 x ≤ 40) → ∀ x ∈ looksL l ls, deepR 40 x ≤ 40 := by
  intro l
  induction l with
  | nil => intro ls _ h; exact h
  | cons p l ih => intro ls hl h; exact ih _ (fun q hq => hl q (by simp [hq])) (looks_deep p ls (hl p (by simp)) h)
theorem looks_len (r : Re) : ∀ ls, (looksR r ls).length ≤ ls.length + nodesR r := by
  induction r using Re.ind with
  | h k s0 s1 s2 s3 rs lo hi neg ih =>
    intro ls
    have hL : ∀ (l : List Re), (∀ p ∈ l, p ∈ rs) → ∀ ls, (looksL l ls).length ≤ ls.length + nodesL l := by
      intro l
      induction l with
      | nil => intro _ ls; simp [looksL]
      | cons p l ihl =>
        intro hm ls
        have h1 := ihl (fun q hq => hm q (by simp [hq])) (looksR p ls)
        have h2 := ih p (hm p (by simp)) ls
        simp only [looksL, nodesL]; omega
    have h1 := hL rs (fun p hp => hp) ls
    simp only [looksR, nodesR]
    split
    · omega
    · split
      · omega
      · rw [List.length_append, List.length_singleton]; omega
theorem looksL_len : ∀ (l : List Re) (ls : List Re), (looksL l ls).length ≤ ls.length + nodesL l := by
  intro l
  induction l with
  | nil => intro ls; simp [looksL]
  | cons p l ih =>
    intro ls
    have h1 := ih (looksR p ls)
    have h2 := looks_len p ls
    simp only [looksL, nodesL]; omega

theorem alt2 {A B : Prop} (a : A) (b : B) : AltReq A B := ⟨⟨a, b⟩⟩

theorem small_bare {r : Re} (h : Small r) : Small (bareR r) := by
  cases h with
  | mk k s0 s1 s2 s3 rs lo hi neg h hp => exact .mk k s0 s1 s2 s3 rs lo hi false h hp

/-- A plan in a block of one's own: the list of looks lies in a slice of one's own. -/
def PlanOwn (m : Mem) (bp : Nat) (ls : List Re) (L : Ev.Own) : Prop :=
  ∃ A n c rows Lx, L = (bp, .cells (toArr [.slice A n c]) 34 (0, 0)) :: Lx ∧ OwnS 27 9 (.slice A n c) (List.flatten rows) Lx ∧ (∀ r ∈ rows, r.length = 9) ∧ rows.length = ls.length ∧ n = ls.length ∧
    ∀ (i : Nat) (x : Re), ls[i]? = some x → ∃ cs, rows[i]? = some cs ∧ RepRe m cs x
-- of 34
theorem PlanOwn.le {m m' : Mem} {bp : Nat} {ls : List Re} {L : Ev.Own} (hm : Mem.Le m m') (h : PlanOwn m bp ls L) : PlanOwn m' bp ls L := by
  obtain ⟨A, n, c, rows, Lx, h1, h2, h3, h4, h5, h6⟩ := h
  exact ⟨A, n, c, rows, Lx, h1, h2, h3, h4, h5, fun i x hx => by obtain ⟨cs, e1, e2⟩ := h6 i x hx; exact ⟨cs, e1, e2.le hm⟩⟩

theorem Clone_fn (m : Mem) (r : Re) (cs : List Value) (h : RepRe m cs r) (hs : Small r) (hd : deepR 40 r ≤ 40) : Fn0 Tryz.prog 43 [.agg (toArr cs)] m fun m' u => ∃ cs', u = .agg (toArr cs') ∧ RepRe m' cs' r := by
  obtain ⟨k1, u0, u1, u2, u3, A1, n1, c1, lo1, hi1, neg1, rfl⟩ := h.form
  refine Fn.enter (N := 9) hX Tryz.func43 rfl rfl (by show _ ≤ _; simp) (fun w0 hL => ?_)
  conv => whnf
  refine NewReq.mk hL ?_
  clear hL
  intro b1 w hL
  conv => whnf
  refine NewReq.mk hL ?_
  clear hL
  intro b2 w hL
  conv => whnf
  conv => whnf
  repeat ((first | refine zT ?_ | refine zF ?_ | refine zL hX hL ?_ | refine zB hX hL ?_ | (refine zS hX hL ?_; clear hL; intro w hL) | refine zI ?_ | refine zG hX ?_ | refine zO ?_); conv => whnf)
  refine CallReq.val (Deep_fn m r _ h) hL ?_
  clear hL
  intro w hL
  conv => whnf
  repeat ((first | refine zT ?_ | refine zF ?_ | refine zL hX hL ?_ | refine zB hX hL ?_ | (refine zS hX hL ?_; clear hL; intro w hL) | refine zI ?_ | refine zG hX ?_ | refine zO ?_); conv => whnf)
  refine BrReq.dec (fun d1 => absurd d1 (by omega)) (fun d1 => ?_)
  conv => whnf
  repeat ((first | refine zT ?_ | refine zF ?_ | refine zL hX hL ?_ | refine zB hX hL ?_ | (refine zS hX hL ?_; clear hL; intro w hL) | refine zI ?_ | refine zG hX ?_ | refine zO ?_); conv => whnf)
  refine CallReq.mk (L1 := []) (cloneT_fn r m _ h hs) hL ?_
  clear hL
  rintro v m2 L1 w hL hm2 ⟨cs3, rfl, ho⟩
  obtain ⟨m3, hL, hm3, hrep⟩ := ho.freeze hL
  obtain ⟨k3, v0, v1, v2, v3, A3, n3, c3, lo3, hi3, neg3, rfl⟩ := hrep.form
  conv => whnf
  repeat ((first | refine zT ?_ | refine zF ?_ | refine zL hX hL ?_ | refine zB hX hL ?_ | (refine zS hX hL ?_; clear hL; intro w hL) | refine zI ?_ | refine zG hX ?_ | refine zO ?_); conv => whnf)
  exact RetReq.mk hL.drop.drop ⟨rfl, _, rfl, hrep⟩

set_option maxHeartbeats 4000000 in
theorem gather_fn (r : Re) : ∀ (m : Mem) (cs : List Value) (bp : Nat) (ls : List Re) (L : Ev.Own), RepRe m cs r → Small r → deepR 40 r ≤ 40 → (∀ x ∈ ls, deepR 40 x ≤ 40) → ls.length + nodesR r ≤ 1000000 → PlanOwn m bp ls L →
    Ev.Fn Tryz.prog 23 [.pointer (some ⟨bp, 0, none⟩), .agg (toArr cs)] m L fun m' L' u => u = resV [] ∧ PlanOwn m' bp (looksR r ls) L' := by
  induction r using Re.ind with
  | h kd s0 s1 s2 s3 rs lo hi neg ih =>
    intro m cs bp ls L h hsm hd hld hnb hp
    obtain ⟨A, n, c, rfl, hs, hrng⟩ := h.open
    obtain ⟨hn, hc, hm⟩ := hs.lens
    have hmx : maxLen = 9223372036854775807 := rfl
    have he := hs.elem
    have hsub : rs.length ≤ 2000 ∧ ∀ p ∈ rs, Small p := by cases hsm; exact ⟨by assumption, by assumption⟩
    simp only [nodesR] at hnb
    refine Fn.enter (N := 41) hX Tryz.func23 rfl rfl (by show _ ≤ _; simp) (fun w0 hL => ?_)
    conv => whnf
    obtain ⟨S0, hS0⟩ : ∃ S0, S0 = keys L := ⟨_, rfl⟩
    rw [← hS0] at hL ⊢
    refine NewReq.mk hL ?_
    clear hL
    intro b3 w hL
    conv => whnf
    conv => whnf
    repeat ((first | refine zT ?_ | refine zF ?_ | refine zL hX hL ?_ | refine zB hX hL ?_ | (refine zS hX hL ?_; clear hL; intro w hL) | refine zI ?_ | refine zG hX ?_ | refine zO ?_); conv => whnf)
    refine LoopReq.inv hX (fun j : Nat => [(9, .int .i64 j)]) [0, 3, 7, 8]
      (fun j w => j ≤ n ∧ ∃ m1 L1, Mem.Le m m1 ∧ PlanOwn m1 bp (looksL (rs.take j) ls) L1 ∧ Ev.Loc m S0 w0 m1 ((b3, .cells (toArr (reC kd s0 s1 s2 s3 (.slice A n c) lo hi neg)) 27 (0, 0)) :: L1) w) (fun j => n - j) 0
      ⟨by omega, m, L, Mem.Le.refl m, hp, hL⟩ ⟨rfl, trivial⟩ ?_
    clear hL hp
    rintro j w f ⟨hj, m1, L1, hm1, hp, hL⟩
    conv => whnf
    repeat ((first | refine zT ?_ | refine zF ?_ | refine zL hX hL ?_ | refine zB hX hL ?_ | (refine zS hX hL ?_; clear hL; intro w hL) | refine zI ?_ | refine zG hX ?_ | refine zO ?_); conv => whnf)
    refine BrReq.dec (fun hlt => ?_) (fun hlt => ?_)
    · have hlt' : j < rs.length := by omega
      obtain ⟨a, cs', rfl, hl9, hcells, hrep⟩ := he j _ (List.getElem?_eq_getElem hlt')
      obtain ⟨k1, u0, u1, u2, u3, A1, n1, c1, lo1, hi1, neg1, rfl⟩ := hrep.form
      have hln := looksL_len (rs.take j) ls
      have hnt := nodesL_take rs j hlt'
      have hnl := nodesL_take_le rs (j + 1)
      have htk := looksL_take rs j hlt' ls
      have hdj := looksL_deep (rs.take j) ls (fun p hp => deep40_part hd p (List.mem_of_mem_take hp)) hld
      conv => whnf
      repeat ((first | refine Idx2Req.mk j a rfl (by omega) rfl ?_ | refine LdReq.agg hX rfl rfl hL hl9 (hcells.le hm1) ?_ | refine zT ?_ | refine zF ?_ | refine zL hX hL ?_ | refine zB hX hL ?_ | (refine zS hX hL ?_; clear hL; intro w hL) | refine zI ?_ | refine zG hX ?_ | refine zO ?_); conv => whnf)
      refine NewReq.mk hL ?_
      clear hL
      intro b5 w hL
      conv => whnf
      conv => whnf
      repeat ((first | refine zT ?_ | refine zF ?_ | refine zL hX hL ?_ | refine zB hX hL ?_ | (refine zS hX hL ?_; clear hL; intro w hL) | refine zI ?_ | refine zG hX ?_ | refine zO ?_); conv => whnf)
      refine CallReq.mk (L1 := L1) (ih _ (List.getElem_mem hlt') m1 _ bp _ L1 (hrep.le hm1) (hsub.2 _ (List.getElem_mem hlt')) (deep40_part hd _ (List.getElem_mem hlt')) hdj (by omega) hp) (Ev.Loc.back (L1 := [_, _]) hL) ?_
      clear hL
      rintro v m2 L2 w hL hm2 ⟨rfl, hp2⟩
      rw [← htk] at hp2
      replace hL := hL.back
      have hL : Ev.Loc m S0 w0 m2 (_ :: _ :: L2) w := hL
      conv => whnf
      repeat ((first | refine zT ?_ | refine zF ?_ | refine zL hX hL ?_ | refine zB hX hL ?_ | (refine zS hX hL ?_; clear hL; intro w hL) | refine zI ?_ | refine zG hX ?_ | refine zO ?_); conv => whnf)
      refine ⟨j + 1, ⟨by omega, m2, L2, hm1.trans hm2, hp2, hL.drop⟩, by first | omega | (simp only; omega), ?_, ?_⟩
      · repeat (first | exact trivial | (refine And.intro (by (conv => lhs; whnf) <;> (conv => rhs; whnf) <;> (first | rfl)) ?_))
      · repeat (first | exact trivial | (refine And.intro (by (conv => lhs; whnf) <;> (conv => rhs; whnf) <;> (first | rfl)) ?_))
    have hjn : j = rs.length := by omega
    rw [hjn, List.take_length] at hp
    have hln := looksL_len rs ls
    have hdl := looksL_deep rs ls (fun p hp => deep40_part hd p hp) hld
    obtain ⟨A0, n0, c0, rows, Lx, rfl, hown, hrows, hrl, hn0, hrl2⟩ := hp
    conv => whnf
    repeat ((first | refine zT ?_ | refine zF ?_ | refine zL hX hL ?_ | refine zB hX hL ?_ | (refine zS hX hL ?_; clear hL; intro w hL) | refine zI ?_ | refine zG hX ?_ | refine zO ?_); conv => whnf)
    refine DrawReq.plan hX (.fst 0 (.fst 1 (.fst 2 (.fst 3 (.fst 4 (.fst 5 (.fst 6 (.fst 7 (.alt 8 (.fst 9 (.fst 10 (.done))) (.stop)))))))))) [(b3, .cells (toArr (reC kd s0 s1 s2 s3 (.slice A n c) lo hi neg)) 27 (0, 0)), (bp, .cells (toArr [.slice A0 n0 c0]) 34 (0, 0))] (by kernel_rfl) (by kernel_rfl) hL (fun h => h.sublist (.cons_cons _ (.cons_cons _ (List.nil_sublist _)))) ?_
    clear hL
    intro w hL
    conv => whnf
    repeat ((first | refine zQ hX ?_ | refine zR hX ?_ | refine zA ?_ | refine zT ?_ | refine zF ?_ | refine zL hX hL ?_ | refine zB hX hL ?_ | (refine zS hX hL ?_; clear hL; intro w hL) | refine zI ?_ | refine zG hX ?_ | refine zO ?_); conv => whnf)
    have hfin : ¬ (8 ≤ kd ∧ ¬ (looksL rs ls).any (fun x => sameR 41 x (bareR (.mk kd s0 s1 s2 s3 rs lo hi neg))) = true) → looksR (.mk kd s0 s1 s2 s3 rs lo hi neg) ls = looksL rs ls := by
      intro h
      simp only [looksR]
      by_cases e : kd < 8
      · rw [if_pos e]
      · rw [if_neg e, if_pos]
        exact Decidable.not_not.1 fun h' => h ⟨by omega, h'⟩
    refine BrReq.dec (fun k8 => ?_) (fun k8 => ?_)
    rotate_left
    · conv => whnf
      repeat ((first | refine zQ hX ?_ | refine zR hX ?_ | refine zA ?_ | refine zT ?_ | refine zF ?_ | refine zL hX hL ?_ | refine zB hX hL ?_ | (refine zS hX hL ?_; clear hL; intro w hL) | refine zI ?_ | refine zG hX ?_ | refine zO ?_); conv => whnf)
      refine RetReq.mk hL.drop ⟨rfl, ?_⟩
      rw [hfin fun h => k8 h.1]
      exact ⟨A0, n0, c0, rows, Lx, rfl, hown, hrows, hrl, hn0, hrl2⟩
    obtain ⟨mm, A', c', ev, hLf, hle, hsl, -⟩ := OwnS.freezeRows (size := 9) (l := looksL rs ls) (L2 := [_, _]) (by omega) hown (Ev.Loc.back (L1 := [_, _]) hL) hrows (by omega) hrl2
    cases ev
    replace hsl : Sl mm 9 (RepRe mm) (.slice A0 rows.length c0) (looksL rs ls) := hsl.le (Mem.Le.refl mm) fun cs x _ hx => hx.le hle
    have hrm := (h.le hm1).le hle
    have hix := Index_fn mm _ _ _ _ hsl hrm
    conv => whnf
    repeat ((first | refine zQ hX ?_ | refine zR hX ?_ | refine zA ?_ | refine zT ?_ | refine zF ?_ | refine zL hX hL ?_ | refine zB hX hL ?_ | (refine zS hX hL ?_; clear hL; intro w hL) | refine zI ?_ | refine zG hX ?_ | refine zO ?_); conv => whnf)
    refine CallReq.lend hix hLf.sub hL ?_
    clear hL hLf
    intro w hL
    conv => whnf
    repeat ((first | refine SReq.mk (hL.sublist (.cons_cons _ (.cons_cons _ (List.nil_sublist _)))) ?_ | refine zQ hX ?_ | refine zR hX ?_ | refine zA ?_ | refine zT ?_ | refine zF ?_ | refine zL hX hL ?_ | refine zB hX hL ?_ | (refine zS hX hL ?_; clear hL; intro w hL) | refine zI ?_ | refine zG hX ?_ | refine zO ?_); conv => whnf)
    have hlike : ∀ x ∈ looksL rs ls, likeR x (.mk kd s0 s1 s2 s3 rs lo hi neg) = sameR 41 x (bareR (.mk kd s0 s1 s2 s3 rs lo hi neg)) := by
      intro x hx
      unfold likeR
      rw [decide_eq_true (hdl x hx), decide_eq_true (by rw [deep_bare]; exact hd), Bool.true_and, Bool.true_and]
    have hany : 0 ≤ idxR (fun x => likeR x (.mk kd s0 s1 s2 s3 rs lo hi neg)) (looksL rs ls) ↔ (looksL rs ls).any (fun x => sameR 41 x (bareR (.mk kd s0 s1 s2 s3 rs lo hi neg))) = true := by
      rw [idxR_neg, List.any_eq_true, List.any_eq_true]
      exact exists_congr fun x => and_congr_right fun hx => by rw [hlike x hx]
    refine BrReq.dec (fun kn => ?_) (fun kn => ?_)
    rotate_left
    · conv => whnf
      repeat ((first | refine zQ hX ?_ | refine zR hX ?_ | refine zA ?_ | refine zT ?_ | refine zF ?_ | refine zL hX hL ?_ | refine zB hX hL ?_ | (refine zS hX hL ?_; clear hL; intro w hL) | refine zI ?_ | refine zG hX ?_ | refine zO ?_); conv => whnf)
      refine RetReq.mk hL.drop ⟨rfl, ?_⟩
      rw [hfin fun h => h.2 (hany.1 (by omega))]
      exact ⟨A0, _, c0, rows, Lx, rfl, hown, hrows, hrl, hn0, hrl2⟩
    have hnew : looksR (.mk kd s0 s1 s2 s3 rs lo hi neg) ls = looksL rs ls ++ [bareR (.mk kd s0 s1 s2 s3 rs lo hi neg)] := by
      simp only [looksR]
      rw [if_neg (by omega), if_neg (fun h => absurd (hany.2 h) (by omega))]
    have hbr := bare_rep (h.le hm1)
    have hsb := small_bare hsm
    have hdb : deepR 40 (bareR (.mk kd s0 s1 s2 s3 rs lo hi neg)) ≤ 40 := by rw [deep_bare]; exact hd
    obtain ⟨zr, hzr⟩ : ∃ zr, zr = reC 0 0 0 0 0 (.slice none 0 0) 0 0 false := ⟨_, rfl⟩
    have hz9 : zr.length = 9 := by rw [hzr]; rfl
    have fin : ∀ (m3 : Mem) (row : List Value) (g6 n6 cap : Nat) (cur : List Value), Mem.Le m1 m3 → RepRe m3 row (bareR (.mk kd s0 s1 s2 s3 rs lo hi neg)) → n6 = rows.length + 1 → n6 ≤ cap → cap ≤ maxLen → cur.length = cap * 9 → cur.take (n6 * 9) = rows.flatten ++ zr →
        PlanOwn m3 bp (looksR (.mk kd s0 s1 s2 s3 rs lo hi neg) ls) [(bp, .cells (toArr [.slice (some ⟨g6, 0, none⟩) n6 cap]) 34 (0, 0)), (g6, .cells (toArr (spliceL cur (rows.length * 9) row)) 27 (0, 0))] := by
      intro m3 row g6 n6 cap cur hm3 hrow hn6 q1 q2 q3 q4
      have ef : rows.flatten ++ zr = (rows ++ [zr]).flatten := by rw [List.flatten_append, List.flatten_cons, List.flatten_nil, List.append_nil]
      rw [ef] at q4
      have hset : (rows ++ [zr]).set rows.length row = rows ++ [row] := by rw [List.set_append_right _ _ (Nat.le_refl _), Nat.sub_self]; rfl
      have ho := owns_row (te := 27) (g := g6) (row := row) rows.length q1 q2 q3 q4 (by
        intro r hr
        rcases List.mem_append.1 hr with hr | hr
        · exact hrows r hr
        · rw [List.mem_singleton] at hr; subst hr; exact hz9) (by rw [List.length_append, List.length_singleton]; omega) hrow.len (by rw [List.length_append, List.length_singleton]; exact hn6)
      rw [hset] at ho
      refine ⟨some ⟨g6, 0, none⟩, n6, cap, rows ++ [row], _, rfl, ho, ?_, by rw [hnew, List.length_append, List.length_append, hrl]; rfl, by rw [hnew, List.length_append, hn6, ← hrl]; rfl, ?_⟩
      · intro r hr
        rcases List.mem_append.1 hr with hr | hr
        · exact hrows r hr
        · rw [List.mem_singleton] at hr; subst hr; exact hrow.len
      · intro i x hx
        rw [hnew] at hx
        by_cases hi : i < rows.length
        · rw [List.getElem?_append_left (by omega)] at hx
          obtain ⟨cs, e1, e2⟩ := hrl2 i x hx
          exact ⟨cs, by rw [List.getElem?_append_left hi]; exact e1, e2.le hm3⟩
        · rw [List.getElem?_append_right (by omega)] at hx
          have hi0 : i - (looksL rs ls).length = 0 := by have := (List.getElem?_eq_some_iff.1 hx).1; simp at this; omega
          rw [hi0] at hx
          simp only [List.getElem?_cons_zero, Option.some.injEq] at hx
          subst hx
          refine ⟨row, ?_, hrow⟩
          rw [List.getElem?_append_right (by omega), show i - rows.length = 0 by omega]; rfl
    have hnodup := hrl
    conv => whnf
    repeat ((first | refine zT ?_ | refine zF ?_ | refine zL hX hL ?_ | refine zB hX hL ?_ | (refine zS hX hL ?_; clear hL; intro w hL) | refine zI ?_ | refine zG hX ?_ | refine zO ?_); conv => whnf)
    refine DrawReq.plan hX (.fst 0 (.fst 1 (.fst 2 (.fst 4 (.alt 3 (.fst 7 (.alt 5 (.alt 6 (.alt 8 (.alt 9 (.fst 10 (.fst 12 (.fst 13 (.alt 11 (.alt 14 (.done) (.stop)) (.alt 14 (.alt 11 (.done) (.stop)) (.stop)))))) (.stop)) (.stop)) (.alt 8 (.alt 6 (.alt 9 (.fst 10 (.fst 12 (.fst 13 (.alt 11 (.alt 14 (.done) (.stop)) (.alt 14 (.alt 11 (.done) (.stop)) (.stop)))))) (.stop)) (.stop)) (.stop))) (.alt 8 (.alt 5 (.alt 6 (.alt 9 (.fst 10 (.fst 12 (.fst 13 (.alt 11 (.alt 14 (.done) (.stop)) (.alt 14 (.alt 11 (.done) (.stop)) (.stop)))))) (.stop)) (.stop)) (.stop)) (.stop)))) (.alt 5 (.alt 3 (.fst 7 (.alt 6 (.alt 8 (.alt 9 (.fst 10 (.fst 12 (.fst 13 (.alt 11 (.alt 14 (.done) (.stop)) (.alt 14 (.alt 11 (.done) (.stop)) (.stop)))))) (.stop)) (.stop)) (.alt 8 (.alt 6 (.alt 9 (.fst 10 (.fst 12 (.fst 13 (.alt 11 (.alt 14 (.done) (.stop)) (.alt 14 (.alt 11 (.done) (.stop)) (.stop)))))) (.stop)) (.stop)) (.stop)))) (.alt 6 (.alt 3 (.fst 7 (.alt 8 (.alt 9 (.fst 10 (.fst 12 (.fst 13 (.alt 11 (.alt 14 (.done) (.stop)) (.alt 14 (.alt 11 (.done) (.stop)) (.stop)))))) (.stop)) (.stop))) (.alt 8 (.alt 3 (.fst 7 (.alt 9 (.fst 10 (.fst 12 (.fst 13 (.alt 11 (.alt 14 (.done) (.stop)) (.alt 14 (.alt 11 (.done) (.stop)) (.stop)))))) (.stop))) (.stop)) (.stop))) (.alt 8 (.alt 3 (.fst 7 (.alt 6 (.alt 9 (.fst 10 (.fst 12 (.fst 13 (.alt 11 (.alt 14 (.done) (.stop)) (.alt 14 (.alt 11 (.done) (.stop)) (.stop)))))) (.stop)) (.stop))) (.alt 6 (.alt 3 (.fst 7 (.alt 9 (.fst 10 (.fst 12 (.fst 13 (.alt 11 (.alt 14 (.done) (.stop)) (.alt 14 (.alt 11 (.done) (.stop)) (.stop)))))) (.stop))) (.stop)) (.stop))) (.stop)))) (.alt 8 (.alt 3 (.fst 7 (.alt 5 (.alt 6 (.alt 9 (.fst 10 (.fst 12 (.fst 13 (.alt 11 (.alt 14 (.done) (.stop)) (.alt 14 (.alt 11 (.done) (.stop)) (.stop)))))) (.stop)) (.stop)) (.stop))) (.alt 5 (.alt 3 (.fst 7 (.alt 6 (.alt 9 (.fst 10 (.fst 12 (.fst 13 (.alt 11 (.alt 14 (.done) (.stop)) (.alt 14 (.alt 11 (.done) (.stop)) (.stop)))))) (.stop)) (.stop))) (.alt 6 (.alt 3 (.fst 7 (.alt 9 (.fst 10 (.fst 12 (.fst 13 (.alt 11 (.alt 14 (.done) (.stop)) (.alt 14 (.alt 11 (.done) (.stop)) (.stop)))))) (.stop))) (.stop)) (.stop))) (.stop))) (.stop)))))))) [(b3, .cells (toArr (reC kd s0 s1 s2 s3 (.slice A n c) lo hi neg)) 27 (0, 0))] (by kernel_rfl) (by kernel_rfl) hL (fun h => h.one 0 rfl) ?_
    clear hL
    intro w hL
    conv => whnf
    repeat' (first
      | ((first | refine BrReq.tt ?_ | refine BrReq.ff ?_ | refine QLdReq.ownA hX rfl rfl 0 rfl rfl ?_ | refine LdReq.own1 hX rfl rfl 1 hL rfl rfl ?_ | refine LdReq.own1 hX rfl rfl 2 hL rfl rfl ?_ | refine AltReq.one ?_ | refine SReq.mk (hL.one 0 rfl) ?_ | refine SReq.mk (hL.one 1 rfl) ?_ | refine SReq.mk ((hL.one 0 rfl).weaken hm3 hm1) ?_ | refine SReq.mk ((hL.one 1 rfl).weaken hm3 hm1) ?_); conv => whnf)
      | (refine NewReq.mk hL ?_; clear hL; intro b36 w hL; conv => whnf)
      | (refine CallReq.val (bare_fn _ kd s0 s1 s2 s3 lo hi neg A n c) hL ?_; clear hL; intro w hL; conv => whnf)
      | (refine CallReq.pure (Clone_fn m1 _ _ hbr hsb hdb) hL ?_; clear hL; rintro v m3 w hL hm3 ⟨csn, rfl, hrn⟩; obtain ⟨kk, x0, x1, x2, x3, A3, n3, c3, lo3, hi3, neg3, rfl⟩ := hrn.form; conv => whnf)
      | (refine alt2 ?_ ?_ <;> (conv => whnf)))
    all_goals (
      have hL : Ev.Loc m S0 w0 m3 ([(b36, .cells (toArr (reC 0 0 0 0 0 (.slice none 0 0) 0 0 false)) 27 (0, 0)), (b3, .cells (toArr (reC kd s0 s1 s2 s3 (.slice A n c) lo hi neg)) 27 (0, 0)), (bp, .cells (toArr [.slice A0 rows.length c0]) 34 (0, 0))] ++ Lx) w := hL
      rw [← hzr] at hL
      refine RunReq.append hX 25 27 rfl rfl rfl rfl rfl hown hL.back (k := 1) (news := zr) (by rw [hz9]; rfl) (hL.src 0 rfl) (by rw [hzr]; simp [reC, Value.oneCell']) (by rw [flat_len rows hrows, hz9]; omega) rfl ?_
      clear hL
      intro A6 n6 c6 L6 w hn6 ho6 hL
      replace hL := hL.back
      rw [List.length_append, flat_len rows hrows, hz9] at hn6
      have hn6 : rows.length * 9 + 9 = n6 * 9 := hn6
      have hn6' : n6 = rows.length + 1 := by omega
      obtain ⟨n', h1, h2⟩ := ho6
      rcases h2 with ⟨e, _, _⟩ | ⟨g6, cap, cur, e, rfl, q1, q2, q3, q4⟩
      · injection e with e1 e2 e3; omega
      injection e with e1 e2 e3
      subst e1 e2 e3
      have q3 : cur.length = c6 * 9 := q3
      have q4 : cur.take (n6 * 9) = rows.flatten ++ zr := q4
      have hf := fin m3 _ g6 n6 c6 cur hm3 hrn hn6' q1 q2 q3 q4
      have hle9 : 0 + scale rows.length 9 + 9 ≤ cur.length := by rw [scale_eq, q3, Nat.zero_add]; have : (rows.length + 1) * 9 ≤ c6 * 9 := Nat.mul_le_mul_right _ (by omega); omega
      have esc : 0 + scale rows.length 9 = rows.length * 9 := by rw [scale_eq, Nat.zero_add]
      rw [← esc] at hf
      have hL : Ev.Loc m S0 w0 m3 [(b36, .cells (toArr zr) 27 (0, 0)), (b3, .cells (toArr (reC kd s0 s1 s2 s3 (.slice A n c) lo hi neg)) 27 (0, 0)), (bp, .cells (toArr [.slice A0 rows.length c0]) 34 (0, 0)), (g6, .cells (toArr cur) 27 (0, 0))] w := hL
      conv => whnf
      repeat ((first | refine SReq.mk ((hL.one 1 rfl).weaken hm3 hm1) ?_ | refine Idx2Req.mk rows.length _ rfl (by omega) rfl ?_ | refine zQ hX ?_ | refine zR hX ?_ | refine zA ?_ | refine zT ?_ | refine zF ?_ | refine zL hX hL ?_ | refine zB hX hL ?_ | (refine zS hX hL ?_; clear hL; intro w hL) | refine zI ?_ | refine zG hX ?_ | refine zO ?_); conv => whnf)
      refine alt2 ?_ ?_
      · conv => whnf
        repeat ((first | (refine StReq.ownAt hX rfl 3 hL rfl rfl hle9 rfl ?_; clear hL; intro w hL) | refine SReq.mk ((hL.one 1 rfl).weaken hm3 hm1) ?_ | refine zQ hX ?_ | refine zR hX ?_ | refine zA ?_ | refine zT ?_ | refine zF ?_ | refine zL hX hL ?_ | refine zB hX hL ?_ | (refine zS hX hL ?_; clear hL; intro w hL) | refine zI ?_ | refine zG hX ?_ | refine zO ?_); conv => whnf)
        exact RetReq.mk hL.drop.drop ⟨rfl, hf⟩
      · conv => whnf
        repeat ((first | (refine StReq.ownAt hX rfl 3 hL rfl rfl hle9 rfl ?_; clear hL; intro w hL) | refine SReq.mk ((hL.one 1 rfl).weaken hm3 hm1) ?_ | refine zQ hX ?_ | refine zR hX ?_ | refine zA ?_ | refine zT ?_ | refine zF ?_ | refine zL hX hL ?_ | refine zB hX hL ?_ | (refine zS hX hL ?_; clear hL; intro w hL) | refine zI ?_ | refine zG hX ?_ | refine zO ?_); conv => whnf)
        exact RetReq.mk hL.drop.drop ⟨rfl, hf⟩)
end Go.Proofs.YtpdiljdklllmjaaGreat.looks
