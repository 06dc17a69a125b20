/- The looks of patterns are told in order, each once, those within ahead. Conditions: none. -/
import Derived.Test.YtmgfcckboncecaaLooksMake
import Derived.Test.YtmgfcckboncecaaRows
import Derived.ProofKit
import Derived.SizedLaws

namespace Go.Proofs.Ytmgfcckboncecaa.looksFound
open Go Go.Ev Go.Proofs Go.Proofs.Ytmgfcckboncecaa.tree Go.Proofs.Ytmgfcckboncecaa.looks

theorem loopC_sum {f : Re → Nat} : ∀ (l : List Re) (n : Nat), loopC f l n ≤ 2000 → loopC f l n = n + (l.map f).sum := by
  intro l
  induction l with
  | nil => intro n _; simp [loopC]
  | cons p l ih =>
    intro n h
    simp only [loopC] at h ⊢
    split at h
    · omega
    · rename_i h2
      rw [if_neg h2, ih _ h]; simp [Nat.add_assoc]
theorem nodes_le : ∀ (k : Nat) (r : Re), cR k r ≤ 2000 → nodesR r ≤ cR k r := by
  intro k
  induction k with
  | zero => intro r h; simp [cR] at h
  | succ k ih =>
    intro r h
    obtain ⟨kd, s0, s1, s2, s3, rs, lo, hi, neg⟩ := r
    simp only [cR, Re.parts] at h ⊢
    obtain ⟨_, hs⟩ := loopC_small (cR_pos k) _ _ h
    rw [loopC_sum _ _ h]
    have : ∀ l : List Re, (∀ p ∈ l, cR k p ≤ 2000) → nodesL l ≤ (l.map (cR k)).sum := by
      intro l
      induction l with
      | nil => intro _; simp [nodesL]
      | cons p l ihl =>
        intro hl
        have h1 := ih p (hl p (by simp))
        have h2 := ihl fun q hq => hl q (by simp [hq])
        simp only [nodesL, List.map_cons, List.sum_cons]; omega
    have := this rs hs
    simp only [nodesR]; omega
theorem nodesL_le (l : List Re) (h : ∀ p ∈ l, cR 60 p ≤ 2000) : nodesL l ≤ l.length * 2000 := by
  induction l with
  | nil => simp [nodesL]
  | cons p l ih =>
    have h1 := nodes_le 60 p (h p (by simp))
    have h2 := h p (by simp)
    have h3 := ih fun q hq => h q (by simp [hq])
    simp only [nodesL, List.length_cons]; omega

theorem few_fn (m : Mem) (v : Value) (l : List Re) (hs : Sl m 9 (RepRe m) v l) : Fn0 Try.prog 23 [v] m fun _ u => ∃ b, u = .bool b ∧ (b = true → l.length ≤ 20 ∧ ∀ r ∈ l, cR 60 r ≤ 2000) := by
  have hs' := hs
  obtain ⟨A, n, c, rfl, hn, hc, hm, -⟩ := hs
  have he := hs'.elem
  have hmx : maxLen = 9223372036854775807 := rfl
  refine Fn.enter (N := 20) hX Try.func23 rfl rfl (by show _ ≤ _; simp) (fun w0 hL => ?_)
  conv => whnf
  conv => whnf
  repeat ((first | refine BrReq.tt ?_ | refine BrReq.ff ?_ | refine LdReq.own1 hX rfl rfl 0 hL rfl rfl ?_ | refine LdReq.own1 hX rfl rfl 1 hL rfl rfl ?_ | refine LdReq.own1 hX rfl rfl 2 hL rfl rfl ?_ | refine LdReq.own1 hX rfl rfl 3 hL rfl rfl ?_ | refine LdReq.own1 hX rfl rfl 4 hL rfl rfl ?_ | refine LdReq.own1 hX rfl rfl 5 hL rfl rfl ?_ | refine LdReq.own1 hX rfl rfl 6 hL rfl rfl ?_ | refine LdReq.ownA hX rfl rfl 0 hL rfl rfl ?_ | refine LdReq.ownA hX rfl rfl 1 hL rfl rfl ?_ | refine LdReq.ownA hX rfl rfl 2 hL rfl rfl ?_ | refine LdReq.ownA hX rfl rfl 3 hL rfl rfl ?_ | refine LdReq.ownA hX rfl rfl 4 hL rfl rfl ?_ | refine LdReq.ownA hX rfl rfl 5 hL rfl rfl ?_ | refine LdReq.ownA hX rfl rfl 6 hL rfl rfl ?_ | (refine StReq.own hX rfl 0 hL rfl rfl rfl rfl ?_; clear hL; intro w hL) | (refine StReq.own hX rfl 1 hL rfl rfl rfl rfl ?_; clear hL; intro w hL) | (refine StReq.own hX rfl 2 hL rfl rfl rfl rfl ?_; clear hL; intro w hL) | (refine StReq.own hX rfl 3 hL rfl rfl rfl rfl ?_; clear hL; intro w hL) | (refine StReq.own hX rfl 4 hL rfl rfl rfl rfl ?_; clear hL; intro w hL) | (refine StReq.own hX rfl 5 hL rfl rfl rfl rfl ?_; clear hL; intro w hL) | (refine StReq.own hX rfl 6 hL rfl rfl rfl rfl ?_; clear hL; intro w hL) | refine ArReq.i64 (by omega) (by omega) ?_ | refine SeqReq.go hX ?_ | refine OptReq.mk rfl ?_); conv => whnf)
  refine LoopReq.inv hX (fun j : Nat => [(6, .int .i64 j)]) [0, 5]
    (fun j w => (j ≤ n ∧ j ≤ 20 ∧ ∀ (i : Nat) (x : Re), i < j → l[i]? = some x → cR 60 x ≤ 2000) ∧ Ev.Loc m [] w0 m [] w) (fun j => n - j) 0
    ⟨⟨by omega, by omega, fun i x h => absurd h (by omega)⟩, hL⟩ ⟨rfl, trivial⟩ ?_
  clear hL
  rintro j w f ⟨⟨hj, hj20, hdone⟩, hL⟩
  conv => whnf
  repeat ((first | refine BrReq.tt ?_ | refine BrReq.ff ?_ | refine LdReq.own1 hX rfl rfl 0 hL rfl rfl ?_ | refine LdReq.own1 hX rfl rfl 1 hL rfl rfl ?_ | refine LdReq.own1 hX rfl rfl 2 hL rfl rfl ?_ | refine LdReq.own1 hX rfl rfl 3 hL rfl rfl ?_ | refine LdReq.own1 hX rfl rfl 4 hL rfl rfl ?_ | refine LdReq.own1 hX rfl rfl 5 hL rfl rfl ?_ | refine LdReq.own1 hX rfl rfl 6 hL rfl rfl ?_ | refine LdReq.ownA hX rfl rfl 0 hL rfl rfl ?_ | refine LdReq.ownA hX rfl rfl 1 hL rfl rfl ?_ | refine LdReq.ownA hX rfl rfl 2 hL rfl rfl ?_ | refine LdReq.ownA hX rfl rfl 3 hL rfl rfl ?_ | refine LdReq.ownA hX rfl rfl 4 hL rfl rfl ?_ | refine LdReq.ownA hX rfl rfl 5 hL rfl rfl ?_ | refine LdReq.ownA hX rfl rfl 6 hL rfl rfl ?_ | (refine StReq.own hX rfl 0 hL rfl rfl rfl rfl ?_; clear hL; intro w hL) | (refine StReq.own hX rfl 1 hL rfl rfl rfl rfl ?_; clear hL; intro w hL) | (refine StReq.own hX rfl 2 hL rfl rfl rfl rfl ?_; clear hL; intro w hL) | (refine StReq.own hX rfl 3 hL rfl rfl rfl rfl ?_; clear hL; intro w hL) | (refine StReq.own hX rfl 4 hL rfl rfl rfl rfl ?_; clear hL; intro w hL) | (refine StReq.own hX rfl 5 hL rfl rfl rfl rfl ?_; clear hL; intro w hL) | (refine StReq.own hX rfl 6 hL rfl rfl rfl rfl ?_; clear hL; intro w hL) | refine ArReq.i64 (by omega) (by omega) ?_ | refine SeqReq.go hX ?_ | refine OptReq.mk rfl ?_); conv => whnf)
  refine BrReq.dec (fun hlt => ?_) (fun hlt => ?_)
  · have hlt' : j < l.length := by omega
    obtain ⟨a, cs', rfl, hl9, hcells, hrep⟩ := he j _ (List.getElem?_eq_getElem hlt')
    obtain ⟨k1, u0, u1, u2, u3, A1, n1, c1, lo1, hi1, neg1, rfl⟩ := hrep.form
    conv => whnf
    repeat ((first | refine BrReq.tt ?_ | refine BrReq.ff ?_ | refine LdReq.own1 hX rfl rfl 0 hL rfl rfl ?_ | refine LdReq.own1 hX rfl rfl 1 hL rfl rfl ?_ | refine LdReq.own1 hX rfl rfl 2 hL rfl rfl ?_ | refine LdReq.own1 hX rfl rfl 3 hL rfl rfl ?_ | refine LdReq.own1 hX rfl rfl 4 hL rfl rfl ?_ | refine LdReq.own1 hX rfl rfl 5 hL rfl rfl ?_ | refine LdReq.own1 hX rfl rfl 6 hL rfl rfl ?_ | refine LdReq.ownA hX rfl rfl 0 hL rfl rfl ?_ | refine LdReq.ownA hX rfl rfl 1 hL rfl rfl ?_ | refine LdReq.ownA hX rfl rfl 2 hL rfl rfl ?_ | refine LdReq.ownA hX rfl rfl 3 hL rfl rfl ?_ | refine LdReq.ownA hX rfl rfl 4 hL rfl rfl ?_ | refine LdReq.ownA hX rfl rfl 5 hL rfl rfl ?_ | refine LdReq.ownA hX rfl rfl 6 hL rfl rfl ?_ | (refine StReq.own hX rfl 0 hL rfl rfl rfl rfl ?_; clear hL; intro w hL) | (refine StReq.own hX rfl 1 hL rfl rfl rfl rfl ?_; clear hL; intro w hL) | (refine StReq.own hX rfl 2 hL rfl rfl rfl rfl ?_; clear hL; intro w hL) | (refine StReq.own hX rfl 3 hL rfl rfl rfl rfl ?_; clear hL; intro w hL) | (refine StReq.own hX rfl 4 hL rfl rfl rfl rfl ?_; clear hL; intro w hL) | (refine StReq.own hX rfl 5 hL rfl rfl rfl rfl ?_; clear hL; intro w hL) | (refine StReq.own hX rfl 6 hL rfl rfl rfl rfl ?_; clear hL; intro w hL) | refine ArReq.i64 (by omega) (by omega) ?_ | refine SeqReq.go hX ?_ | refine OptReq.mk rfl ?_); conv => whnf)
    refine BrReq.dec (fun h20 => ?_) (fun h20 => ?_)
    · conv => whnf
      repeat ((first | refine BrReq.tt ?_ | refine BrReq.ff ?_ | refine LdReq.own1 hX rfl rfl 0 hL rfl rfl ?_ | refine LdReq.own1 hX rfl rfl 1 hL rfl rfl ?_ | refine LdReq.own1 hX rfl rfl 2 hL rfl rfl ?_ | refine LdReq.own1 hX rfl rfl 3 hL rfl rfl ?_ | refine LdReq.own1 hX rfl rfl 4 hL rfl rfl ?_ | refine LdReq.own1 hX rfl rfl 5 hL rfl rfl ?_ | refine LdReq.own1 hX rfl rfl 6 hL rfl rfl ?_ | refine LdReq.ownA hX rfl rfl 0 hL rfl rfl ?_ | refine LdReq.ownA hX rfl rfl 1 hL rfl rfl ?_ | refine LdReq.ownA hX rfl rfl 2 hL rfl rfl ?_ | refine LdReq.ownA hX rfl rfl 3 hL rfl rfl ?_ | refine LdReq.ownA hX rfl rfl 4 hL rfl rfl ?_ | refine LdReq.ownA hX rfl rfl 5 hL rfl rfl ?_ | refine LdReq.ownA hX rfl rfl 6 hL rfl rfl ?_ | (refine StReq.own hX rfl 0 hL rfl rfl rfl rfl ?_; clear hL; intro w hL) | (refine StReq.own hX rfl 1 hL rfl rfl rfl rfl ?_; clear hL; intro w hL) | (refine StReq.own hX rfl 2 hL rfl rfl rfl rfl ?_; clear hL; intro w hL) | (refine StReq.own hX rfl 3 hL rfl rfl rfl rfl ?_; clear hL; intro w hL) | (refine StReq.own hX rfl 4 hL rfl rfl rfl rfl ?_; clear hL; intro w hL) | (refine StReq.own hX rfl 5 hL rfl rfl rfl rfl ?_; clear hL; intro w hL) | (refine StReq.own hX rfl 6 hL rfl rfl rfl rfl ?_; clear hL; intro w hL) | refine ArReq.i64 (by omega) (by omega) ?_ | refine SeqReq.go hX ?_ | refine OptReq.mk rfl ?_); conv => whnf)
      exact RetReq.mk hL ⟨rfl, false, rfl, fun h => by cases h⟩
    · conv => whnf
      repeat ((first | refine Idx2Req.mk j a rfl (by omega) rfl ?_ | refine LdReq.agg hX rfl rfl hL hl9 hcells ?_ | refine BrReq.tt ?_ | refine BrReq.ff ?_ | refine LdReq.own1 hX rfl rfl 0 hL rfl rfl ?_ | refine LdReq.own1 hX rfl rfl 1 hL rfl rfl ?_ | refine LdReq.own1 hX rfl rfl 2 hL rfl rfl ?_ | refine LdReq.own1 hX rfl rfl 3 hL rfl rfl ?_ | refine LdReq.own1 hX rfl rfl 4 hL rfl rfl ?_ | refine LdReq.own1 hX rfl rfl 5 hL rfl rfl ?_ | refine LdReq.own1 hX rfl rfl 6 hL rfl rfl ?_ | refine LdReq.ownA hX rfl rfl 0 hL rfl rfl ?_ | refine LdReq.ownA hX rfl rfl 1 hL rfl rfl ?_ | refine LdReq.ownA hX rfl rfl 2 hL rfl rfl ?_ | refine LdReq.ownA hX rfl rfl 3 hL rfl rfl ?_ | refine LdReq.ownA hX rfl rfl 4 hL rfl rfl ?_ | refine LdReq.ownA hX rfl rfl 5 hL rfl rfl ?_ | refine LdReq.ownA hX rfl rfl 6 hL rfl rfl ?_ | (refine StReq.own hX rfl 0 hL rfl rfl rfl rfl ?_; clear hL; intro w hL) | (refine StReq.own hX rfl 1 hL rfl rfl rfl rfl ?_; clear hL; intro w hL) | (refine StReq.own hX rfl 2 hL rfl rfl rfl rfl ?_; clear hL; intro w hL) | (refine StReq.own hX rfl 3 hL rfl rfl rfl rfl ?_; clear hL; intro w hL) | (refine StReq.own hX rfl 4 hL rfl rfl rfl rfl ?_; clear hL; intro w hL) | (refine StReq.own hX rfl 5 hL rfl rfl rfl rfl ?_; clear hL; intro w hL) | (refine StReq.own hX rfl 6 hL rfl rfl rfl rfl ?_; clear hL; intro w hL) | refine ArReq.i64 (by omega) (by omega) ?_ | refine SeqReq.go hX ?_ | refine OptReq.mk rfl ?_); conv => whnf)
      refine CallReq.val (Few_fn m _ _ hrep 60 (by omega)) hL ?_
      clear hL
      intro w hL
      conv => whnf
      repeat ((first | refine BrReq.tt ?_ | refine BrReq.ff ?_ | refine LdReq.own1 hX rfl rfl 0 hL rfl rfl ?_ | refine LdReq.own1 hX rfl rfl 1 hL rfl rfl ?_ | refine LdReq.own1 hX rfl rfl 2 hL rfl rfl ?_ | refine LdReq.own1 hX rfl rfl 3 hL rfl rfl ?_ | refine LdReq.own1 hX rfl rfl 4 hL rfl rfl ?_ | refine LdReq.own1 hX rfl rfl 5 hL rfl rfl ?_ | refine LdReq.own1 hX rfl rfl 6 hL rfl rfl ?_ | refine LdReq.ownA hX rfl rfl 0 hL rfl rfl ?_ | refine LdReq.ownA hX rfl rfl 1 hL rfl rfl ?_ | refine LdReq.ownA hX rfl rfl 2 hL rfl rfl ?_ | refine LdReq.ownA hX rfl rfl 3 hL rfl rfl ?_ | refine LdReq.ownA hX rfl rfl 4 hL rfl rfl ?_ | refine LdReq.ownA hX rfl rfl 5 hL rfl rfl ?_ | refine LdReq.ownA hX rfl rfl 6 hL rfl rfl ?_ | (refine StReq.own hX rfl 0 hL rfl rfl rfl rfl ?_; clear hL; intro w hL) | (refine StReq.own hX rfl 1 hL rfl rfl rfl rfl ?_; clear hL; intro w hL) | (refine StReq.own hX rfl 2 hL rfl rfl rfl rfl ?_; clear hL; intro w hL) | (refine StReq.own hX rfl 3 hL rfl rfl rfl rfl ?_; clear hL; intro w hL) | (refine StReq.own hX rfl 4 hL rfl rfl rfl rfl ?_; clear hL; intro w hL) | (refine StReq.own hX rfl 5 hL rfl rfl rfl rfl ?_; clear hL; intro w hL) | (refine StReq.own hX rfl 6 hL rfl rfl rfl rfl ?_; clear hL; intro w hL) | refine ArReq.i64 (by omega) (by omega) ?_ | refine SeqReq.go hX ?_ | refine OptReq.mk rfl ?_); conv => whnf)
      refine BrReq.not ?_
      refine BrReq.dec (fun hf => ?_) (fun hf => ?_)
      · have hd : ∀ (i : Nat) (x : Re), i < j + 1 → l[i]? = some x → cR 60 x ≤ 2000 := by
          intro i x hi hx
          by_cases e : i = j
          · subst e
            rw [List.getElem?_eq_getElem hlt'] at hx
            cases hx; exact hf
          · exact hdone i x (by omega) hx
        conv => whnf
        repeat ((first | refine BrReq.tt ?_ | refine BrReq.ff ?_ | refine LdReq.own1 hX rfl rfl 0 hL rfl rfl ?_ | refine LdReq.own1 hX rfl rfl 1 hL rfl rfl ?_ | refine LdReq.own1 hX rfl rfl 2 hL rfl rfl ?_ | refine LdReq.own1 hX rfl rfl 3 hL rfl rfl ?_ | refine LdReq.own1 hX rfl rfl 4 hL rfl rfl ?_ | refine LdReq.own1 hX rfl rfl 5 hL rfl rfl ?_ | refine LdReq.own1 hX rfl rfl 6 hL rfl rfl ?_ | refine LdReq.ownA hX rfl rfl 0 hL rfl rfl ?_ | refine LdReq.ownA hX rfl rfl 1 hL rfl rfl ?_ | refine LdReq.ownA hX rfl rfl 2 hL rfl rfl ?_ | refine LdReq.ownA hX rfl rfl 3 hL rfl rfl ?_ | refine LdReq.ownA hX rfl rfl 4 hL rfl rfl ?_ | refine LdReq.ownA hX rfl rfl 5 hL rfl rfl ?_ | refine LdReq.ownA hX rfl rfl 6 hL rfl rfl ?_ | (refine StReq.own hX rfl 0 hL rfl rfl rfl rfl ?_; clear hL; intro w hL) | (refine StReq.own hX rfl 1 hL rfl rfl rfl rfl ?_; clear hL; intro w hL) | (refine StReq.own hX rfl 2 hL rfl rfl rfl rfl ?_; clear hL; intro w hL) | (refine StReq.own hX rfl 3 hL rfl rfl rfl rfl ?_; clear hL; intro w hL) | (refine StReq.own hX rfl 4 hL rfl rfl rfl rfl ?_; clear hL; intro w hL) | (refine StReq.own hX rfl 5 hL rfl rfl rfl rfl ?_; clear hL; intro w hL) | (refine StReq.own hX rfl 6 hL rfl rfl rfl rfl ?_; clear hL; intro w hL) | refine ArReq.i64 (by omega) (by omega) ?_ | refine SeqReq.go hX ?_ | refine OptReq.mk rfl ?_); conv => whnf)
        refine ⟨j + 1, ⟨⟨by omega, by omega, hd⟩, hL⟩, by omega, ?_, ?_⟩
        · repeat (first | exact trivial | (refine And.intro (by (conv => lhs; whnf) <;> (conv => rhs; whnf) <;> (first | rfl)) ?_))
        · repeat (first | exact trivial | (refine And.intro (by (conv => lhs; whnf) <;> (conv => rhs; whnf) <;> (first | rfl)) ?_))
      · conv => whnf
        repeat ((first | refine BrReq.tt ?_ | refine BrReq.ff ?_ | refine LdReq.own1 hX rfl rfl 0 hL rfl rfl ?_ | refine LdReq.own1 hX rfl rfl 1 hL rfl rfl ?_ | refine LdReq.own1 hX rfl rfl 2 hL rfl rfl ?_ | refine LdReq.own1 hX rfl rfl 3 hL rfl rfl ?_ | refine LdReq.own1 hX rfl rfl 4 hL rfl rfl ?_ | refine LdReq.own1 hX rfl rfl 5 hL rfl rfl ?_ | refine LdReq.own1 hX rfl rfl 6 hL rfl rfl ?_ | refine LdReq.ownA hX rfl rfl 0 hL rfl rfl ?_ | refine LdReq.ownA hX rfl rfl 1 hL rfl rfl ?_ | refine LdReq.ownA hX rfl rfl 2 hL rfl rfl ?_ | refine LdReq.ownA hX rfl rfl 3 hL rfl rfl ?_ | refine LdReq.ownA hX rfl rfl 4 hL rfl rfl ?_ | refine LdReq.ownA hX rfl rfl 5 hL rfl rfl ?_ | refine LdReq.ownA hX rfl rfl 6 hL rfl rfl ?_ | (refine StReq.own hX rfl 0 hL rfl rfl rfl rfl ?_; clear hL; intro w hL) | (refine StReq.own hX rfl 1 hL rfl rfl rfl rfl ?_; clear hL; intro w hL) | (refine StReq.own hX rfl 2 hL rfl rfl rfl rfl ?_; clear hL; intro w hL) | (refine StReq.own hX rfl 3 hL rfl rfl rfl rfl ?_; clear hL; intro w hL) | (refine StReq.own hX rfl 4 hL rfl rfl rfl rfl ?_; clear hL; intro w hL) | (refine StReq.own hX rfl 5 hL rfl rfl rfl rfl ?_; clear hL; intro w hL) | (refine StReq.own hX rfl 6 hL rfl rfl rfl rfl ?_; clear hL; intro w hL) | refine ArReq.i64 (by omega) (by omega) ?_ | refine SeqReq.go hX ?_ | refine OptReq.mk rfl ?_); conv => whnf)
        exact RetReq.mk hL ⟨rfl, false, rfl, fun h => by cases h⟩
  · conv => whnf
    repeat ((first | refine BrReq.tt ?_ | refine BrReq.ff ?_ | refine LdReq.own1 hX rfl rfl 0 hL rfl rfl ?_ | refine LdReq.own1 hX rfl rfl 1 hL rfl rfl ?_ | refine LdReq.own1 hX rfl rfl 2 hL rfl rfl ?_ | refine LdReq.own1 hX rfl rfl 3 hL rfl rfl ?_ | refine LdReq.own1 hX rfl rfl 4 hL rfl rfl ?_ | refine LdReq.own1 hX rfl rfl 5 hL rfl rfl ?_ | refine LdReq.own1 hX rfl rfl 6 hL rfl rfl ?_ | refine LdReq.ownA hX rfl rfl 0 hL rfl rfl ?_ | refine LdReq.ownA hX rfl rfl 1 hL rfl rfl ?_ | refine LdReq.ownA hX rfl rfl 2 hL rfl rfl ?_ | refine LdReq.ownA hX rfl rfl 3 hL rfl rfl ?_ | refine LdReq.ownA hX rfl rfl 4 hL rfl rfl ?_ | refine LdReq.ownA hX rfl rfl 5 hL rfl rfl ?_ | refine LdReq.ownA hX rfl rfl 6 hL rfl rfl ?_ | (refine StReq.own hX rfl 0 hL rfl rfl rfl rfl ?_; clear hL; intro w hL) | (refine StReq.own hX rfl 1 hL rfl rfl rfl rfl ?_; clear hL; intro w hL) | (refine StReq.own hX rfl 2 hL rfl rfl rfl rfl ?_; clear hL; intro w hL) | (refine StReq.own hX rfl 3 hL rfl rfl rfl rfl ?_; clear hL; intro w hL) | (refine StReq.own hX rfl 4 hL rfl rfl rfl rfl ?_; clear hL; intro w hL) | (refine StReq.own hX rfl 5 hL rfl rfl rfl rfl ?_; clear hL; intro w hL) | (refine StReq.own hX rfl 6 hL rfl rfl rfl rfl ?_; clear hL; intro w hL) | refine ArReq.i64 (by omega) (by omega) ?_ | refine SeqReq.go hX ?_ | refine OptReq.mk rfl ?_); conv => whnf)
    refine RetReq.mk hL ⟨rfl, true, rfl, fun _ => ⟨by omega, fun r hr => ?_⟩⟩
    obtain ⟨i, hi, rfl⟩ := List.getElem_of_mem hr
    exact hdone i _ (by omega) (List.getElem?_eq_getElem hi)

/-- A list of looks, each once. -/
def GoodL (ls : List Re) : Prop := (∀ x ∈ ls, 8 ≤ x.kind ∧ bareR x = x ∧ deepR 40 x ≤ 40) ∧ ∀ (q i : Nat) (x y : Re), q < i → ls[q]? = some x → ls[i]? = some y → sameR 41 x y = false
theorem good_looks (r : Re) : ∀ ls, deepR 40 r ≤ 40 → GoodL ls → GoodL (looksR r ls) := by
  induction r using Re.ind with
  | h k s0 s1 s2 s3 rs lo hi neg ih =>
    intro ls hd hls
    have hL : ∀ (l : List Re), (∀ p ∈ l, p ∈ rs) → ∀ ls, GoodL ls → GoodL (looksL l ls) := by
      intro l
      induction l with
      | nil => intro _ ls h; exact h
      | cons p l ihl =>
        intro hm ls h
        exact ihl (fun q hq => hm q (by simp [hq])) _ (ih p (hm p (by simp)) ls (deep40_part hd p (hm p (by simp))) h)
    have h1 := hL rs (fun p hp => hp) ls hls
    simp only [looksR]
    split
    · exact h1
    · rename_i hk
      split
      · exact h1
      · rename_i hany
        refine ⟨fun x hx => ?_, fun q i x y hqi hx hy => ?_⟩
        · rcases List.mem_append.1 hx with hx | hx
          · exact h1.1 x hx
          · rw [List.mem_singleton] at hx; subst hx
            exact ⟨by show 8 ≤ k; omega, rfl, by rw [deep_bare]; exact hd⟩
        · by_cases hi : i < (looksL rs ls).length
          · rw [List.getElem?_append_left hi] at hy
            rw [List.getElem?_append_left (by omega)] at hx
            exact h1.2 q i x y hqi hx hy
          · have hil := (List.getElem?_eq_some_iff.1 hy).1
            rw [List.length_append, List.length_singleton] at hil
            rw [List.getElem?_append_right (by omega), show i - (looksL rs ls).length = 0 by omega] at hy
            simp only [List.getElem?_cons_zero, Option.some.injEq] at hy
            subst hy
            rw [List.getElem?_append_left (by omega)] at hx
            have := List.any_eq_false.1 (Bool.eq_false_iff.2 hany) x (List.mem_of_getElem? hx)
            simpa using this
theorem good_looksL : ∀ (l ls : List Re), (∀ p ∈ l, deepR 40 p ≤ 40) → GoodL ls → GoodL (looksL l ls) := by
  intro l
  induction l with
  | nil => intro ls _ h; exact h
  | cons p l ih => intro ls hl h; exact ih _ (fun q hq => hl q (by simp [hq])) (good_looks p ls (hl p (by simp)) h)

theorem good_index {ls : List Re} (h : GoodL ls) {i : Nat} {x r : Re} (hx : ls[i]? = some x) (hr : bareR r = x) : idxR (fun y => likeR y r) ls = i := by
  obtain ⟨h1, h2⟩ := h
  have hm := h1 x (List.mem_of_getElem? hx)
  refine idxR_at ls i x hx ?_ fun q y hq hy => ?_
  · unfold likeR
    rw [hr, decide_eq_true hm.2.2, sameR_refl 40 x hm.2.2]; rfl
  · unfold likeR
    rw [hr, h2 q i y x hq hy hx, Bool.and_false]
theorem good_none {ls : List Re} (h : GoodL ls) : idxR (fun y => likeR y (leafR 1)) ls = -1 := by
  refine idxR_none ls fun x hx => ?_
  have := (h.1 x hx).1
  obtain ⟨k, s0, s1, s2, s3, rs, lo, hi, neg⟩ := x
  have hne : sameR 41 (.mk k s0 s1 s2 s3 rs lo hi neg) (bareR (leafR 1)) = false := by
    simp only [sameR, bareR, leafR, headEq]
    rw [decide_eq_false, Bool.false_and]
    intro hc
    have : (8 : Int) ≤ k := this
    omega
  unfold likeR
  rw [hne, Bool.and_false]

theorem awake_fn (m : Mem) : Fn0 Try.prog 22 [] m fun _ u => u = .bool true := by
  refine Fn.enter (N := 23) hX Try.func22 rfl rfl (by show _ ≤ _; simp) (fun w0 hL => ?_)
  conv => whnf
  conv => whnf
  repeat ((first | refine BrReq.tt ?_ | refine BrReq.ff ?_ | refine LdReq.own1 hX rfl rfl 0 hL rfl rfl ?_ | refine LdReq.own1 hX rfl rfl 1 hL rfl rfl ?_ | refine LdReq.own1 hX rfl rfl 2 hL rfl rfl ?_ | refine LdReq.own1 hX rfl rfl 3 hL rfl rfl ?_ | refine LdReq.own1 hX rfl rfl 4 hL rfl rfl ?_ | refine LdReq.own1 hX rfl rfl 5 hL rfl rfl ?_ | refine LdReq.own1 hX rfl rfl 6 hL rfl rfl ?_ | refine LdReq.ownA hX rfl rfl 0 hL rfl rfl ?_ | refine LdReq.ownA hX rfl rfl 1 hL rfl rfl ?_ | refine LdReq.ownA hX rfl rfl 2 hL rfl rfl ?_ | refine LdReq.ownA hX rfl rfl 3 hL rfl rfl ?_ | refine LdReq.ownA hX rfl rfl 4 hL rfl rfl ?_ | refine LdReq.ownA hX rfl rfl 5 hL rfl rfl ?_ | refine LdReq.ownA hX rfl rfl 6 hL rfl rfl ?_ | (refine StReq.own hX rfl 0 hL rfl rfl rfl rfl ?_; clear hL; intro w hL) | (refine StReq.own hX rfl 1 hL rfl rfl rfl rfl ?_; clear hL; intro w hL) | (refine StReq.own hX rfl 2 hL rfl rfl rfl rfl ?_; clear hL; intro w hL) | (refine StReq.own hX rfl 3 hL rfl rfl rfl rfl ?_; clear hL; intro w hL) | (refine StReq.own hX rfl 4 hL rfl rfl rfl rfl ?_; clear hL; intro w hL) | (refine StReq.own hX rfl 5 hL rfl rfl rfl rfl ?_; clear hL; intro w hL) | (refine StReq.own hX rfl 6 hL rfl rfl rfl rfl ?_; clear hL; intro w hL) | refine ArReq.i64 (by omega) (by omega) ?_ | refine SeqReq.go hX ?_ | refine OptReq.mk rfl ?_); conv => whnf)
  refine NewReq.mk hL ?_
  clear hL
  intro b5 w hL
  have hL : Ev.Loc m [] w0 m [(b5, .cells (toArr (List.flatten [reC 10 0 0 0 0 (.slice none 0 0) 0 0 false])) 27 (0, 0))] w := hL
  obtain ⟨m1, hL, hm1, hsl⟩ := rows_freeze (n := 1) (cap := 1) (l := [leafR 10]) (R := RepRe m) hL rfl (Nat.le_refl 1) (by decide) (fun r hr => by rw [List.mem_singleton] at hr; subst hr; rfl) fun i x hx => by
    cases i with
    | zero => simp at hx; subst hx; exact ⟨_, rfl, leaf_rep m 10 (by simp [inI])⟩
    | succ i => simp at hx
  have hmk : makeR [leafR 10] = (0, [leafR 10]) := by
    have hf : formedR (leafR 10) = true := by decide
    unfold makeR
    rw [if_neg (by simp [hf]), if_neg (by decide)]; rfl
  conv => whnf
  repeat ((first | refine BrReq.tt ?_ | refine BrReq.ff ?_ | refine LdReq.own1 hX rfl rfl 0 hL rfl rfl ?_ | refine LdReq.own1 hX rfl rfl 1 hL rfl rfl ?_ | refine LdReq.own1 hX rfl rfl 2 hL rfl rfl ?_ | refine LdReq.own1 hX rfl rfl 3 hL rfl rfl ?_ | refine LdReq.own1 hX rfl rfl 4 hL rfl rfl ?_ | refine LdReq.own1 hX rfl rfl 5 hL rfl rfl ?_ | refine LdReq.own1 hX rfl rfl 6 hL rfl rfl ?_ | refine LdReq.ownA hX rfl rfl 0 hL rfl rfl ?_ | refine LdReq.ownA hX rfl rfl 1 hL rfl rfl ?_ | refine LdReq.ownA hX rfl rfl 2 hL rfl rfl ?_ | refine LdReq.ownA hX rfl rfl 3 hL rfl rfl ?_ | refine LdReq.ownA hX rfl rfl 4 hL rfl rfl ?_ | refine LdReq.ownA hX rfl rfl 5 hL rfl rfl ?_ | refine LdReq.ownA hX rfl rfl 6 hL rfl rfl ?_ | (refine StReq.own hX rfl 0 hL rfl rfl rfl rfl ?_; clear hL; intro w hL) | (refine StReq.own hX rfl 1 hL rfl rfl rfl rfl ?_; clear hL; intro w hL) | (refine StReq.own hX rfl 2 hL rfl rfl rfl rfl ?_; clear hL; intro w hL) | (refine StReq.own hX rfl 3 hL rfl rfl rfl rfl ?_; clear hL; intro w hL) | (refine StReq.own hX rfl 4 hL rfl rfl rfl rfl ?_; clear hL; intro w hL) | (refine StReq.own hX rfl 5 hL rfl rfl rfl rfl ?_; clear hL; intro w hL) | (refine StReq.own hX rfl 6 hL rfl rfl rfl rfl ?_; clear hL; intro w hL) | refine ArReq.i64 (by omega) (by omega) ?_ | refine SeqReq.go hX ?_ | refine OptReq.mk rfl ?_); conv => whnf)
  refine CallReq.pure (Make_fn m1 _ _ (hsl.le (Mem.Le.refl m1) fun cs x _ hx => hx.le hm1) (fun r hr => by rw [List.mem_singleton] at hr; subst hr; exact .mk _ _ _ _ _ _ _ _ _ (by decide) (fun p hp => by simp at hp)) (by decide)) hL ?_
  clear hL
  rintro v m2 w hL hm2 ⟨A, n, c, rfl, hs2⟩
  rw [hmk] at hs2 ⊢
  have hn := hs2.lens.1
  conv => whnf
  repeat ((first | refine BrReq.tt ?_ | refine BrReq.ff ?_ | refine LdReq.own1 hX rfl rfl 0 hL rfl rfl ?_ | refine LdReq.own1 hX rfl rfl 1 hL rfl rfl ?_ | refine LdReq.own1 hX rfl rfl 2 hL rfl rfl ?_ | refine LdReq.own1 hX rfl rfl 3 hL rfl rfl ?_ | refine LdReq.own1 hX rfl rfl 4 hL rfl rfl ?_ | refine LdReq.own1 hX rfl rfl 5 hL rfl rfl ?_ | refine LdReq.own1 hX rfl rfl 6 hL rfl rfl ?_ | refine LdReq.ownA hX rfl rfl 0 hL rfl rfl ?_ | refine LdReq.ownA hX rfl rfl 1 hL rfl rfl ?_ | refine LdReq.ownA hX rfl rfl 2 hL rfl rfl ?_ | refine LdReq.ownA hX rfl rfl 3 hL rfl rfl ?_ | refine LdReq.ownA hX rfl rfl 4 hL rfl rfl ?_ | refine LdReq.ownA hX rfl rfl 5 hL rfl rfl ?_ | refine LdReq.ownA hX rfl rfl 6 hL rfl rfl ?_ | (refine StReq.own hX rfl 0 hL rfl rfl rfl rfl ?_; clear hL; intro w hL) | (refine StReq.own hX rfl 1 hL rfl rfl rfl rfl ?_; clear hL; intro w hL) | (refine StReq.own hX rfl 2 hL rfl rfl rfl rfl ?_; clear hL; intro w hL) | (refine StReq.own hX rfl 3 hL rfl rfl rfl rfl ?_; clear hL; intro w hL) | (refine StReq.own hX rfl 4 hL rfl rfl rfl rfl ?_; clear hL; intro w hL) | (refine StReq.own hX rfl 5 hL rfl rfl rfl rfl ?_; clear hL; intro w hL) | (refine StReq.own hX rfl 6 hL rfl rfl rfl rfl ?_; clear hL; intro w hL) | refine ArReq.i64 (by omega) (by omega) ?_ | refine SeqReq.go hX ?_ | refine OptReq.mk rfl ?_); conv => whnf)
  have hn : n = 1 := hn
  subst hn
  have hs2 : Sl m2 9 (RepRe m2) (.slice A 1 c) [leafR 10] := hs2
  have hix : idxR (fun x => likeR x (leafR 10)) [leafR 10] = 0 := by decide
  refine NewReq.mk hL ?_
  clear hL
  intro b1 w hL
  conv => whnf
  conv => whnf
  repeat ((first | refine BrReq.tt ?_ | refine BrReq.ff ?_ | refine LdReq.own1 hX rfl rfl 0 hL rfl rfl ?_ | refine LdReq.own1 hX rfl rfl 1 hL rfl rfl ?_ | refine LdReq.own1 hX rfl rfl 2 hL rfl rfl ?_ | refine LdReq.own1 hX rfl rfl 3 hL rfl rfl ?_ | refine LdReq.own1 hX rfl rfl 4 hL rfl rfl ?_ | refine LdReq.own1 hX rfl rfl 5 hL rfl rfl ?_ | refine LdReq.own1 hX rfl rfl 6 hL rfl rfl ?_ | refine LdReq.ownA hX rfl rfl 0 hL rfl rfl ?_ | refine LdReq.ownA hX rfl rfl 1 hL rfl rfl ?_ | refine LdReq.ownA hX rfl rfl 2 hL rfl rfl ?_ | refine LdReq.ownA hX rfl rfl 3 hL rfl rfl ?_ | refine LdReq.ownA hX rfl rfl 4 hL rfl rfl ?_ | refine LdReq.ownA hX rfl rfl 5 hL rfl rfl ?_ | refine LdReq.ownA hX rfl rfl 6 hL rfl rfl ?_ | (refine StReq.own hX rfl 0 hL rfl rfl rfl rfl ?_; clear hL; intro w hL) | (refine StReq.own hX rfl 1 hL rfl rfl rfl rfl ?_; clear hL; intro w hL) | (refine StReq.own hX rfl 2 hL rfl rfl rfl rfl ?_; clear hL; intro w hL) | (refine StReq.own hX rfl 3 hL rfl rfl rfl rfl ?_; clear hL; intro w hL) | (refine StReq.own hX rfl 4 hL rfl rfl rfl rfl ?_; clear hL; intro w hL) | (refine StReq.own hX rfl 5 hL rfl rfl rfl rfl ?_; clear hL; intro w hL) | (refine StReq.own hX rfl 6 hL rfl rfl rfl rfl ?_; clear hL; intro w hL) | refine ArReq.i64 (by omega) (by omega) ?_ | refine SeqReq.go hX ?_ | refine OptReq.mk rfl ?_); conv => whnf)
  refine CallReq.val (Index_fn m2 _ _ (leafR 10) _ hs2 (leaf_rep m2 10 (by simp [inI]))) hL ?_
  clear hL
  intro w hL
  rw [hix]
  conv => whnf
  repeat ((first | refine BrReq.tt ?_ | refine BrReq.ff ?_ | refine LdReq.own1 hX rfl rfl 0 hL rfl rfl ?_ | refine LdReq.own1 hX rfl rfl 1 hL rfl rfl ?_ | refine LdReq.own1 hX rfl rfl 2 hL rfl rfl ?_ | refine LdReq.own1 hX rfl rfl 3 hL rfl rfl ?_ | refine LdReq.own1 hX rfl rfl 4 hL rfl rfl ?_ | refine LdReq.own1 hX rfl rfl 5 hL rfl rfl ?_ | refine LdReq.own1 hX rfl rfl 6 hL rfl rfl ?_ | refine LdReq.ownA hX rfl rfl 0 hL rfl rfl ?_ | refine LdReq.ownA hX rfl rfl 1 hL rfl rfl ?_ | refine LdReq.ownA hX rfl rfl 2 hL rfl rfl ?_ | refine LdReq.ownA hX rfl rfl 3 hL rfl rfl ?_ | refine LdReq.ownA hX rfl rfl 4 hL rfl rfl ?_ | refine LdReq.ownA hX rfl rfl 5 hL rfl rfl ?_ | refine LdReq.ownA hX rfl rfl 6 hL rfl rfl ?_ | (refine StReq.own hX rfl 0 hL rfl rfl rfl rfl ?_; clear hL; intro w hL) | (refine StReq.own hX rfl 1 hL rfl rfl rfl rfl ?_; clear hL; intro w hL) | (refine StReq.own hX rfl 2 hL rfl rfl rfl rfl ?_; clear hL; intro w hL) | (refine StReq.own hX rfl 3 hL rfl rfl rfl rfl ?_; clear hL; intro w hL) | (refine StReq.own hX rfl 4 hL rfl rfl rfl rfl ?_; clear hL; intro w hL) | (refine StReq.own hX rfl 5 hL rfl rfl rfl rfl ?_; clear hL; intro w hL) | (refine StReq.own hX rfl 6 hL rfl rfl rfl rfl ?_; clear hL; intro w hL) | refine ArReq.i64 (by omega) (by omega) ?_ | refine SeqReq.go hX ?_ | refine OptReq.mk rfl ?_); conv => whnf)
  exact RetReq.mk hL.drop ⟨rfl, rfl⟩

theorem neg_rep {m : Mem} {k s0 s1 s2 s3 lo hi : Int} {neg : Bool} {A : Option Addr} {n c : Nat} {r : Re} (neg' : Bool) (h : RepRe m (reC k s0 s1 s2 s3 (.slice A n c) lo hi neg) r) : ∃ r', RepRe m (reC k s0 s1 s2 s3 (.slice A n c) lo hi neg') r' ∧ bareR r' = bareR r := by
  obtain ⟨k', t0, t1, t2, t3, rs, lo', hi', neg0⟩ := r
  obtain ⟨A', n', c', e, hs, hr⟩ := h.open
  injection e with e0 e; injection e with e1 e; injection e with e2 e; injection e with e3 e; injection e with e4 e; injection e with e5 e; injection e with e6 e; injection e with e7 e
  cases e0; cases e1; cases e2; cases e3; cases e4; cases e5; cases e6; cases e7
  exact ⟨.mk _ _ _ _ _ rs _ _ neg', RepRe.shut hs hr, rfl⟩


set_option maxHeartbeats 4000000 in
theorem walk (m : Mem) (v : Value) (l : List Re) (hs : Sl m 9 (RepRe m) v l) : Fn0 Try.prog 6 [v] m fun _ u => u = .bool true := by
  have hs' := hs
  obtain ⟨A, n, c, rfl, hn, hc, hm, -⟩ := hs
  have he := hs'.elem
  have hmx : maxLen = 9223372036854775807 := rfl
  refine Fn.enter (N := 134) hX Try.func6 rfl rfl (by show _ ≤ _; simp) (fun w0 hL => ?_)
  conv => whnf
  conv => whnf
  repeat ((first | refine BrReq.tt ?_ | refine BrReq.ff ?_ | refine LdReq.own1 hX rfl rfl 0 hL rfl rfl ?_ | refine LdReq.own1 hX rfl rfl 1 hL rfl rfl ?_ | refine LdReq.own1 hX rfl rfl 2 hL rfl rfl ?_ | refine LdReq.own1 hX rfl rfl 3 hL rfl rfl ?_ | refine LdReq.own1 hX rfl rfl 4 hL rfl rfl ?_ | refine LdReq.own1 hX rfl rfl 5 hL rfl rfl ?_ | refine LdReq.own1 hX rfl rfl 6 hL rfl rfl ?_ | refine LdReq.ownA hX rfl rfl 0 hL rfl rfl ?_ | refine LdReq.ownA hX rfl rfl 1 hL rfl rfl ?_ | refine LdReq.ownA hX rfl rfl 2 hL rfl rfl ?_ | refine LdReq.ownA hX rfl rfl 3 hL rfl rfl ?_ | refine LdReq.ownA hX rfl rfl 4 hL rfl rfl ?_ | refine LdReq.ownA hX rfl rfl 5 hL rfl rfl ?_ | refine LdReq.ownA hX rfl rfl 6 hL rfl rfl ?_ | (refine StReq.own hX rfl 0 hL rfl rfl rfl rfl ?_; clear hL; intro w hL) | (refine StReq.own hX rfl 1 hL rfl rfl rfl rfl ?_; clear hL; intro w hL) | (refine StReq.own hX rfl 2 hL rfl rfl rfl rfl ?_; clear hL; intro w hL) | (refine StReq.own hX rfl 3 hL rfl rfl rfl rfl ?_; clear hL; intro w hL) | (refine StReq.own hX rfl 4 hL rfl rfl rfl rfl ?_; clear hL; intro w hL) | (refine StReq.own hX rfl 5 hL rfl rfl rfl rfl ?_; clear hL; intro w hL) | (refine StReq.own hX rfl 6 hL rfl rfl rfl rfl ?_; clear hL; intro w hL) | refine ArReq.i64 (by omega) (by omega) ?_ | refine SeqReq.go hX ?_ | refine OptReq.mk rfl ?_); conv => whnf)
  refine CallReq.pure (awake_fn m) hL ?_
  clear hL
  rintro u m1 w hL hm1 rfl
  conv => whnf
  repeat ((first | refine BrReq.tt ?_ | refine BrReq.ff ?_ | refine LdReq.own1 hX rfl rfl 0 hL rfl rfl ?_ | refine LdReq.own1 hX rfl rfl 1 hL rfl rfl ?_ | refine LdReq.own1 hX rfl rfl 2 hL rfl rfl ?_ | refine LdReq.own1 hX rfl rfl 3 hL rfl rfl ?_ | refine LdReq.own1 hX rfl rfl 4 hL rfl rfl ?_ | refine LdReq.own1 hX rfl rfl 5 hL rfl rfl ?_ | refine LdReq.own1 hX rfl rfl 6 hL rfl rfl ?_ | refine LdReq.ownA hX rfl rfl 0 hL rfl rfl ?_ | refine LdReq.ownA hX rfl rfl 1 hL rfl rfl ?_ | refine LdReq.ownA hX rfl rfl 2 hL rfl rfl ?_ | refine LdReq.ownA hX rfl rfl 3 hL rfl rfl ?_ | refine LdReq.ownA hX rfl rfl 4 hL rfl rfl ?_ | refine LdReq.ownA hX rfl rfl 5 hL rfl rfl ?_ | refine LdReq.ownA hX rfl rfl 6 hL rfl rfl ?_ | (refine StReq.own hX rfl 0 hL rfl rfl rfl rfl ?_; clear hL; intro w hL) | (refine StReq.own hX rfl 1 hL rfl rfl rfl rfl ?_; clear hL; intro w hL) | (refine StReq.own hX rfl 2 hL rfl rfl rfl rfl ?_; clear hL; intro w hL) | (refine StReq.own hX rfl 3 hL rfl rfl rfl rfl ?_; clear hL; intro w hL) | (refine StReq.own hX rfl 4 hL rfl rfl rfl rfl ?_; clear hL; intro w hL) | (refine StReq.own hX rfl 5 hL rfl rfl rfl rfl ?_; clear hL; intro w hL) | (refine StReq.own hX rfl 6 hL rfl rfl rfl rfl ?_; clear hL; intro w hL) | refine ArReq.i64 (by omega) (by omega) ?_ | refine SeqReq.go hX ?_ | refine OptReq.mk rfl ?_); conv => whnf)
  refine CallReq.pure (few_fn m1 _ l (hs'.le hm1 fun cs x _ h => h.le hm1)) hL ?_
  clear hL
  rintro u m2 w hL hm2 ⟨b, rfl, hfew⟩
  conv => whnf
  repeat ((first | refine BrReq.tt ?_ | refine BrReq.ff ?_ | refine LdReq.own1 hX rfl rfl 0 hL rfl rfl ?_ | refine LdReq.own1 hX rfl rfl 1 hL rfl rfl ?_ | refine LdReq.own1 hX rfl rfl 2 hL rfl rfl ?_ | refine LdReq.own1 hX rfl rfl 3 hL rfl rfl ?_ | refine LdReq.own1 hX rfl rfl 4 hL rfl rfl ?_ | refine LdReq.own1 hX rfl rfl 5 hL rfl rfl ?_ | refine LdReq.own1 hX rfl rfl 6 hL rfl rfl ?_ | refine LdReq.ownA hX rfl rfl 0 hL rfl rfl ?_ | refine LdReq.ownA hX rfl rfl 1 hL rfl rfl ?_ | refine LdReq.ownA hX rfl rfl 2 hL rfl rfl ?_ | refine LdReq.ownA hX rfl rfl 3 hL rfl rfl ?_ | refine LdReq.ownA hX rfl rfl 4 hL rfl rfl ?_ | refine LdReq.ownA hX rfl rfl 5 hL rfl rfl ?_ | refine LdReq.ownA hX rfl rfl 6 hL rfl rfl ?_ | (refine StReq.own hX rfl 0 hL rfl rfl rfl rfl ?_; clear hL; intro w hL) | (refine StReq.own hX rfl 1 hL rfl rfl rfl rfl ?_; clear hL; intro w hL) | (refine StReq.own hX rfl 2 hL rfl rfl rfl rfl ?_; clear hL; intro w hL) | (refine StReq.own hX rfl 3 hL rfl rfl rfl rfl ?_; clear hL; intro w hL) | (refine StReq.own hX rfl 4 hL rfl rfl rfl rfl ?_; clear hL; intro w hL) | (refine StReq.own hX rfl 5 hL rfl rfl rfl rfl ?_; clear hL; intro w hL) | (refine StReq.own hX rfl 6 hL rfl rfl rfl rfl ?_; clear hL; intro w hL) | refine ArReq.i64 (by omega) (by omega) ?_ | refine SeqReq.go hX ?_ | refine OptReq.mk rfl ?_); conv => whnf)
  refine BrReq.not ?_
  refine BrReq.bool (fun hb => ?_) (fun hb => ?_)
  rotate_left
  · conv => whnf
    repeat ((first | refine BrReq.tt ?_ | refine BrReq.ff ?_ | refine LdReq.own1 hX rfl rfl 0 hL rfl rfl ?_ | refine LdReq.own1 hX rfl rfl 1 hL rfl rfl ?_ | refine LdReq.own1 hX rfl rfl 2 hL rfl rfl ?_ | refine LdReq.own1 hX rfl rfl 3 hL rfl rfl ?_ | refine LdReq.own1 hX rfl rfl 4 hL rfl rfl ?_ | refine LdReq.own1 hX rfl rfl 5 hL rfl rfl ?_ | refine LdReq.own1 hX rfl rfl 6 hL rfl rfl ?_ | refine LdReq.ownA hX rfl rfl 0 hL rfl rfl ?_ | refine LdReq.ownA hX rfl rfl 1 hL rfl rfl ?_ | refine LdReq.ownA hX rfl rfl 2 hL rfl rfl ?_ | refine LdReq.ownA hX rfl rfl 3 hL rfl rfl ?_ | refine LdReq.ownA hX rfl rfl 4 hL rfl rfl ?_ | refine LdReq.ownA hX rfl rfl 5 hL rfl rfl ?_ | refine LdReq.ownA hX rfl rfl 6 hL rfl rfl ?_ | (refine StReq.own hX rfl 0 hL rfl rfl rfl rfl ?_; clear hL; intro w hL) | (refine StReq.own hX rfl 1 hL rfl rfl rfl rfl ?_; clear hL; intro w hL) | (refine StReq.own hX rfl 2 hL rfl rfl rfl rfl ?_; clear hL; intro w hL) | (refine StReq.own hX rfl 3 hL rfl rfl rfl rfl ?_; clear hL; intro w hL) | (refine StReq.own hX rfl 4 hL rfl rfl rfl rfl ?_; clear hL; intro w hL) | (refine StReq.own hX rfl 5 hL rfl rfl rfl rfl ?_; clear hL; intro w hL) | (refine StReq.own hX rfl 6 hL rfl rfl rfl rfl ?_; clear hL; intro w hL) | refine ArReq.i64 (by omega) (by omega) ?_ | refine SeqReq.go hX ?_ | refine OptReq.mk rfl ?_); conv => whnf)
    refine CallReq.pure (awake_fn m2) hL ?_
    clear hL
    rintro u m3 w hL hm3 rfl
    conv => whnf
    repeat ((first | refine BrReq.tt ?_ | refine BrReq.ff ?_ | refine LdReq.own1 hX rfl rfl 0 hL rfl rfl ?_ | refine LdReq.own1 hX rfl rfl 1 hL rfl rfl ?_ | refine LdReq.own1 hX rfl rfl 2 hL rfl rfl ?_ | refine LdReq.own1 hX rfl rfl 3 hL rfl rfl ?_ | refine LdReq.own1 hX rfl rfl 4 hL rfl rfl ?_ | refine LdReq.own1 hX rfl rfl 5 hL rfl rfl ?_ | refine LdReq.own1 hX rfl rfl 6 hL rfl rfl ?_ | refine LdReq.ownA hX rfl rfl 0 hL rfl rfl ?_ | refine LdReq.ownA hX rfl rfl 1 hL rfl rfl ?_ | refine LdReq.ownA hX rfl rfl 2 hL rfl rfl ?_ | refine LdReq.ownA hX rfl rfl 3 hL rfl rfl ?_ | refine LdReq.ownA hX rfl rfl 4 hL rfl rfl ?_ | refine LdReq.ownA hX rfl rfl 5 hL rfl rfl ?_ | refine LdReq.ownA hX rfl rfl 6 hL rfl rfl ?_ | (refine StReq.own hX rfl 0 hL rfl rfl rfl rfl ?_; clear hL; intro w hL) | (refine StReq.own hX rfl 1 hL rfl rfl rfl rfl ?_; clear hL; intro w hL) | (refine StReq.own hX rfl 2 hL rfl rfl rfl rfl ?_; clear hL; intro w hL) | (refine StReq.own hX rfl 3 hL rfl rfl rfl rfl ?_; clear hL; intro w hL) | (refine StReq.own hX rfl 4 hL rfl rfl rfl rfl ?_; clear hL; intro w hL) | (refine StReq.own hX rfl 5 hL rfl rfl rfl rfl ?_; clear hL; intro w hL) | (refine StReq.own hX rfl 6 hL rfl rfl rfl rfl ?_; clear hL; intro w hL) | refine ArReq.i64 (by omega) (by omega) ?_ | refine SeqReq.go hX ?_ | refine OptReq.mk rfl ?_); conv => whnf)
    exact RetReq.mk hL ⟨rfl, rfl⟩
  obtain ⟨h20, hcr⟩ := hfew hb
  have hsm : ∀ r ∈ l, Small r := fun r hr => small_of _ _ (hcr r hr)
  have hnb := nodesL_le l hcr
  have hm02 := hm1.trans hm2
  conv => whnf
  repeat ((first | refine BrReq.tt ?_ | refine BrReq.ff ?_ | refine LdReq.own1 hX rfl rfl 0 hL rfl rfl ?_ | refine LdReq.own1 hX rfl rfl 1 hL rfl rfl ?_ | refine LdReq.own1 hX rfl rfl 2 hL rfl rfl ?_ | refine LdReq.own1 hX rfl rfl 3 hL rfl rfl ?_ | refine LdReq.own1 hX rfl rfl 4 hL rfl rfl ?_ | refine LdReq.own1 hX rfl rfl 5 hL rfl rfl ?_ | refine LdReq.own1 hX rfl rfl 6 hL rfl rfl ?_ | refine LdReq.ownA hX rfl rfl 0 hL rfl rfl ?_ | refine LdReq.ownA hX rfl rfl 1 hL rfl rfl ?_ | refine LdReq.ownA hX rfl rfl 2 hL rfl rfl ?_ | refine LdReq.ownA hX rfl rfl 3 hL rfl rfl ?_ | refine LdReq.ownA hX rfl rfl 4 hL rfl rfl ?_ | refine LdReq.ownA hX rfl rfl 5 hL rfl rfl ?_ | refine LdReq.ownA hX rfl rfl 6 hL rfl rfl ?_ | (refine StReq.own hX rfl 0 hL rfl rfl rfl rfl ?_; clear hL; intro w hL) | (refine StReq.own hX rfl 1 hL rfl rfl rfl rfl ?_; clear hL; intro w hL) | (refine StReq.own hX rfl 2 hL rfl rfl rfl rfl ?_; clear hL; intro w hL) | (refine StReq.own hX rfl 3 hL rfl rfl rfl rfl ?_; clear hL; intro w hL) | (refine StReq.own hX rfl 4 hL rfl rfl rfl rfl ?_; clear hL; intro w hL) | (refine StReq.own hX rfl 5 hL rfl rfl rfl rfl ?_; clear hL; intro w hL) | (refine StReq.own hX rfl 6 hL rfl rfl rfl rfl ?_; clear hL; intro w hL) | refine ArReq.i64 (by omega) (by omega) ?_ | refine SeqReq.go hX ?_ | refine OptReq.mk rfl ?_); conv => whnf)
  refine CallReq.pure (Make_fn m2 _ l (hs'.le hm02 fun cs x _ h => h.le hm02) hsm (by omega)) hL ?_
  clear hL
  rintro u m3 w hL hm3 ⟨Ap, np, cp, rfl, hsp⟩
  have hm03 := hm02.trans hm3
  have hnp := hsp.lens.1
  conv => whnf
  repeat ((first | refine BrReq.tt ?_ | refine BrReq.ff ?_ | refine LdReq.own1 hX rfl rfl 0 hL rfl rfl ?_ | refine LdReq.own1 hX rfl rfl 1 hL rfl rfl ?_ | refine LdReq.own1 hX rfl rfl 2 hL rfl rfl ?_ | refine LdReq.own1 hX rfl rfl 3 hL rfl rfl ?_ | refine LdReq.own1 hX rfl rfl 4 hL rfl rfl ?_ | refine LdReq.own1 hX rfl rfl 5 hL rfl rfl ?_ | refine LdReq.own1 hX rfl rfl 6 hL rfl rfl ?_ | refine LdReq.ownA hX rfl rfl 0 hL rfl rfl ?_ | refine LdReq.ownA hX rfl rfl 1 hL rfl rfl ?_ | refine LdReq.ownA hX rfl rfl 2 hL rfl rfl ?_ | refine LdReq.ownA hX rfl rfl 3 hL rfl rfl ?_ | refine LdReq.ownA hX rfl rfl 4 hL rfl rfl ?_ | refine LdReq.ownA hX rfl rfl 5 hL rfl rfl ?_ | refine LdReq.ownA hX rfl rfl 6 hL rfl rfl ?_ | (refine StReq.own hX rfl 0 hL rfl rfl rfl rfl ?_; clear hL; intro w hL) | (refine StReq.own hX rfl 1 hL rfl rfl rfl rfl ?_; clear hL; intro w hL) | (refine StReq.own hX rfl 2 hL rfl rfl rfl rfl ?_; clear hL; intro w hL) | (refine StReq.own hX rfl 3 hL rfl rfl rfl rfl ?_; clear hL; intro w hL) | (refine StReq.own hX rfl 4 hL rfl rfl rfl rfl ?_; clear hL; intro w hL) | (refine StReq.own hX rfl 5 hL rfl rfl rfl rfl ?_; clear hL; intro w hL) | (refine StReq.own hX rfl 6 hL rfl rfl rfl rfl ?_; clear hL; intro w hL) | refine ArReq.i64 (by omega) (by omega) ?_ | refine SeqReq.go hX ?_ | refine OptReq.mk rfl ?_); conv => whnf)
  refine NewReq.mk hL ?_
  clear hL
  intro b3 w hL
  conv => whnf
  conv => whnf
  repeat ((first | refine BrReq.tt ?_ | refine BrReq.ff ?_ | refine LdReq.own1 hX rfl rfl 0 hL rfl rfl ?_ | refine LdReq.own1 hX rfl rfl 1 hL rfl rfl ?_ | refine LdReq.own1 hX rfl rfl 2 hL rfl rfl ?_ | refine LdReq.own1 hX rfl rfl 3 hL rfl rfl ?_ | refine LdReq.own1 hX rfl rfl 4 hL rfl rfl ?_ | refine LdReq.own1 hX rfl rfl 5 hL rfl rfl ?_ | refine LdReq.own1 hX rfl rfl 6 hL rfl rfl ?_ | refine LdReq.ownA hX rfl rfl 0 hL rfl rfl ?_ | refine LdReq.ownA hX rfl rfl 1 hL rfl rfl ?_ | refine LdReq.ownA hX rfl rfl 2 hL rfl rfl ?_ | refine LdReq.ownA hX rfl rfl 3 hL rfl rfl ?_ | refine LdReq.ownA hX rfl rfl 4 hL rfl rfl ?_ | refine LdReq.ownA hX rfl rfl 5 hL rfl rfl ?_ | refine LdReq.ownA hX rfl rfl 6 hL rfl rfl ?_ | (refine StReq.own hX rfl 0 hL rfl rfl rfl rfl ?_; clear hL; intro w hL) | (refine StReq.own hX rfl 1 hL rfl rfl rfl rfl ?_; clear hL; intro w hL) | (refine StReq.own hX rfl 2 hL rfl rfl rfl rfl ?_; clear hL; intro w hL) | (refine StReq.own hX rfl 3 hL rfl rfl rfl rfl ?_; clear hL; intro w hL) | (refine StReq.own hX rfl 4 hL rfl rfl rfl rfl ?_; clear hL; intro w hL) | (refine StReq.own hX rfl 5 hL rfl rfl rfl rfl ?_; clear hL; intro w hL) | (refine StReq.own hX rfl 6 hL rfl rfl rfl rfl ?_; clear hL; intro w hL) | refine ArReq.i64 (by omega) (by omega) ?_ | refine SeqReq.go hX ?_ | refine OptReq.mk rfl ?_); conv => whnf)
  refine LoopReq.inv hX (fun j : Nat => [(25, .int .i64 j)]) [0, 3, 4, 5, 24]
    (fun j w => (j ≤ n ∧ ∀ (i : Nat) (x : Re), i < j → l[i]? = some x → formedR x = true) ∧ Ev.Loc m [] w0 m3 [(b3, .cells (toArr [.slice Ap np cp]) 45 (0, 0))] w) (fun j => n - j) 0
    ⟨⟨by omega, fun i x h => absurd h (by omega)⟩, hL⟩ ⟨rfl, trivial⟩ ?_
  clear hL
  rintro j w f ⟨⟨hj, hdone⟩, hL⟩
  conv => whnf
  repeat ((first | refine BrReq.tt ?_ | refine BrReq.ff ?_ | refine LdReq.own1 hX rfl rfl 0 hL rfl rfl ?_ | refine LdReq.own1 hX rfl rfl 1 hL rfl rfl ?_ | refine LdReq.own1 hX rfl rfl 2 hL rfl rfl ?_ | refine LdReq.own1 hX rfl rfl 3 hL rfl rfl ?_ | refine LdReq.own1 hX rfl rfl 4 hL rfl rfl ?_ | refine LdReq.own1 hX rfl rfl 5 hL rfl rfl ?_ | refine LdReq.own1 hX rfl rfl 6 hL rfl rfl ?_ | refine LdReq.ownA hX rfl rfl 0 hL rfl rfl ?_ | refine LdReq.ownA hX rfl rfl 1 hL rfl rfl ?_ | refine LdReq.ownA hX rfl rfl 2 hL rfl rfl ?_ | refine LdReq.ownA hX rfl rfl 3 hL rfl rfl ?_ | refine LdReq.ownA hX rfl rfl 4 hL rfl rfl ?_ | refine LdReq.ownA hX rfl rfl 5 hL rfl rfl ?_ | refine LdReq.ownA hX rfl rfl 6 hL rfl rfl ?_ | (refine StReq.own hX rfl 0 hL rfl rfl rfl rfl ?_; clear hL; intro w hL) | (refine StReq.own hX rfl 1 hL rfl rfl rfl rfl ?_; clear hL; intro w hL) | (refine StReq.own hX rfl 2 hL rfl rfl rfl rfl ?_; clear hL; intro w hL) | (refine StReq.own hX rfl 3 hL rfl rfl rfl rfl ?_; clear hL; intro w hL) | (refine StReq.own hX rfl 4 hL rfl rfl rfl rfl ?_; clear hL; intro w hL) | (refine StReq.own hX rfl 5 hL rfl rfl rfl rfl ?_; clear hL; intro w hL) | (refine StReq.own hX rfl 6 hL rfl rfl rfl rfl ?_; clear hL; intro w hL) | refine ArReq.i64 (by omega) (by omega) ?_ | refine SeqReq.go hX ?_ | refine OptReq.mk rfl ?_); conv => whnf)
  refine BrReq.dec (fun hlt => ?_) (fun hlt => ?_)
  · have hlt' : j < l.length := by omega
    obtain ⟨a, cs', rfl, hl9, hcells, hrep⟩ := he j _ (List.getElem?_eq_getElem hlt')
    obtain ⟨k1, u0, u1, u2, u3, A1, n1, c1, lo1, hi1, neg1, rfl⟩ := hrep.form
    conv => whnf
    repeat ((first | refine Idx2Req.mk j a rfl (by omega) rfl ?_ | refine LdReq.agg hX rfl rfl hL hl9 (hcells.le hm03) ?_ | refine BrReq.tt ?_ | refine BrReq.ff ?_ | refine LdReq.own1 hX rfl rfl 0 hL rfl rfl ?_ | refine LdReq.own1 hX rfl rfl 1 hL rfl rfl ?_ | refine LdReq.own1 hX rfl rfl 2 hL rfl rfl ?_ | refine LdReq.own1 hX rfl rfl 3 hL rfl rfl ?_ | refine LdReq.own1 hX rfl rfl 4 hL rfl rfl ?_ | refine LdReq.own1 hX rfl rfl 5 hL rfl rfl ?_ | refine LdReq.own1 hX rfl rfl 6 hL rfl rfl ?_ | refine LdReq.ownA hX rfl rfl 0 hL rfl rfl ?_ | refine LdReq.ownA hX rfl rfl 1 hL rfl rfl ?_ | refine LdReq.ownA hX rfl rfl 2 hL rfl rfl ?_ | refine LdReq.ownA hX rfl rfl 3 hL rfl rfl ?_ | refine LdReq.ownA hX rfl rfl 4 hL rfl rfl ?_ | refine LdReq.ownA hX rfl rfl 5 hL rfl rfl ?_ | refine LdReq.ownA hX rfl rfl 6 hL rfl rfl ?_ | (refine StReq.own hX rfl 0 hL rfl rfl rfl rfl ?_; clear hL; intro w hL) | (refine StReq.own hX rfl 1 hL rfl rfl rfl rfl ?_; clear hL; intro w hL) | (refine StReq.own hX rfl 2 hL rfl rfl rfl rfl ?_; clear hL; intro w hL) | (refine StReq.own hX rfl 3 hL rfl rfl rfl rfl ?_; clear hL; intro w hL) | (refine StReq.own hX rfl 4 hL rfl rfl rfl rfl ?_; clear hL; intro w hL) | (refine StReq.own hX rfl 5 hL rfl rfl rfl rfl ?_; clear hL; intro w hL) | (refine StReq.own hX rfl 6 hL rfl rfl rfl rfl ?_; clear hL; intro w hL) | refine ArReq.i64 (by omega) (by omega) ?_ | refine SeqReq.go hX ?_ | refine OptReq.mk rfl ?_); conv => whnf)
    refine CallReq.val (refFormed_fn m3 _ _ (hrep.le hm03)) hL ?_
    clear hL
    intro w hL
    conv => whnf
    repeat ((first | refine BrReq.tt ?_ | refine BrReq.ff ?_ | refine LdReq.own1 hX rfl rfl 0 hL rfl rfl ?_ | refine LdReq.own1 hX rfl rfl 1 hL rfl rfl ?_ | refine LdReq.own1 hX rfl rfl 2 hL rfl rfl ?_ | refine LdReq.own1 hX rfl rfl 3 hL rfl rfl ?_ | refine LdReq.own1 hX rfl rfl 4 hL rfl rfl ?_ | refine LdReq.own1 hX rfl rfl 5 hL rfl rfl ?_ | refine LdReq.own1 hX rfl rfl 6 hL rfl rfl ?_ | refine LdReq.ownA hX rfl rfl 0 hL rfl rfl ?_ | refine LdReq.ownA hX rfl rfl 1 hL rfl rfl ?_ | refine LdReq.ownA hX rfl rfl 2 hL rfl rfl ?_ | refine LdReq.ownA hX rfl rfl 3 hL rfl rfl ?_ | refine LdReq.ownA hX rfl rfl 4 hL rfl rfl ?_ | refine LdReq.ownA hX rfl rfl 5 hL rfl rfl ?_ | refine LdReq.ownA hX rfl rfl 6 hL rfl rfl ?_ | (refine StReq.own hX rfl 0 hL rfl rfl rfl rfl ?_; clear hL; intro w hL) | (refine StReq.own hX rfl 1 hL rfl rfl rfl rfl ?_; clear hL; intro w hL) | (refine StReq.own hX rfl 2 hL rfl rfl rfl rfl ?_; clear hL; intro w hL) | (refine StReq.own hX rfl 3 hL rfl rfl rfl rfl ?_; clear hL; intro w hL) | (refine StReq.own hX rfl 4 hL rfl rfl rfl rfl ?_; clear hL; intro w hL) | (refine StReq.own hX rfl 5 hL rfl rfl rfl rfl ?_; clear hL; intro w hL) | (refine StReq.own hX rfl 6 hL rfl rfl rfl rfl ?_; clear hL; intro w hL) | refine ArReq.i64 (by omega) (by omega) ?_ | refine SeqReq.go hX ?_ | refine OptReq.mk rfl ?_); conv => whnf)
    refine BrReq.not ?_
    refine BrReq.bool (fun hf => ?_) (fun hf => ?_)
    · have hd : ∀ (i : Nat) (x : Re), i < j + 1 → l[i]? = some x → formedR x = true := by
        intro i x hi hx
        by_cases e : i = j
        · subst e
          rw [List.getElem?_eq_getElem hlt'] at hx
          cases hx; exact hf
        · exact hdone i x (by omega) hx
      conv => whnf
      repeat ((first | refine BrReq.tt ?_ | refine BrReq.ff ?_ | refine LdReq.own1 hX rfl rfl 0 hL rfl rfl ?_ | refine LdReq.own1 hX rfl rfl 1 hL rfl rfl ?_ | refine LdReq.own1 hX rfl rfl 2 hL rfl rfl ?_ | refine LdReq.own1 hX rfl rfl 3 hL rfl rfl ?_ | refine LdReq.own1 hX rfl rfl 4 hL rfl rfl ?_ | refine LdReq.own1 hX rfl rfl 5 hL rfl rfl ?_ | refine LdReq.own1 hX rfl rfl 6 hL rfl rfl ?_ | refine LdReq.ownA hX rfl rfl 0 hL rfl rfl ?_ | refine LdReq.ownA hX rfl rfl 1 hL rfl rfl ?_ | refine LdReq.ownA hX rfl rfl 2 hL rfl rfl ?_ | refine LdReq.ownA hX rfl rfl 3 hL rfl rfl ?_ | refine LdReq.ownA hX rfl rfl 4 hL rfl rfl ?_ | refine LdReq.ownA hX rfl rfl 5 hL rfl rfl ?_ | refine LdReq.ownA hX rfl rfl 6 hL rfl rfl ?_ | (refine StReq.own hX rfl 0 hL rfl rfl rfl rfl ?_; clear hL; intro w hL) | (refine StReq.own hX rfl 1 hL rfl rfl rfl rfl ?_; clear hL; intro w hL) | (refine StReq.own hX rfl 2 hL rfl rfl rfl rfl ?_; clear hL; intro w hL) | (refine StReq.own hX rfl 3 hL rfl rfl rfl rfl ?_; clear hL; intro w hL) | (refine StReq.own hX rfl 4 hL rfl rfl rfl rfl ?_; clear hL; intro w hL) | (refine StReq.own hX rfl 5 hL rfl rfl rfl rfl ?_; clear hL; intro w hL) | (refine StReq.own hX rfl 6 hL rfl rfl rfl rfl ?_; clear hL; intro w hL) | refine ArReq.i64 (by omega) (by omega) ?_ | refine SeqReq.go hX ?_ | refine OptReq.mk rfl ?_); conv => whnf)
      refine ⟨j + 1, ⟨⟨by omega, hd⟩, hL⟩, by omega, ?_, ?_⟩
      · repeat (first | exact trivial | (refine And.intro (by (conv => lhs; whnf) <;> (conv => rhs; whnf) <;> (first | rfl)) ?_))
      · repeat (first | exact trivial | (refine And.intro (by (conv => lhs; whnf) <;> (conv => rhs; whnf) <;> (first | rfl)) ?_))
    · have hu : l.any (fun r => !formedR r) = true := List.any_eq_true.2 ⟨_, List.getElem_mem hlt', by rw [hf]; rfl⟩
      have em : makeR l = (1, []) := by unfold makeR; rw [if_pos hu]
      rw [em] at hnp ⊢
      have hnp : np = 0 := hnp
      subst hnp
      conv => whnf
      repeat ((first | refine BrReq.tt ?_ | refine BrReq.ff ?_ | refine LdReq.own1 hX rfl rfl 0 hL rfl rfl ?_ | refine LdReq.own1 hX rfl rfl 1 hL rfl rfl ?_ | refine LdReq.own1 hX rfl rfl 2 hL rfl rfl ?_ | refine LdReq.own1 hX rfl rfl 3 hL rfl rfl ?_ | refine LdReq.own1 hX rfl rfl 4 hL rfl rfl ?_ | refine LdReq.own1 hX rfl rfl 5 hL rfl rfl ?_ | refine LdReq.own1 hX rfl rfl 6 hL rfl rfl ?_ | refine LdReq.ownA hX rfl rfl 0 hL rfl rfl ?_ | refine LdReq.ownA hX rfl rfl 1 hL rfl rfl ?_ | refine LdReq.ownA hX rfl rfl 2 hL rfl rfl ?_ | refine LdReq.ownA hX rfl rfl 3 hL rfl rfl ?_ | refine LdReq.ownA hX rfl rfl 4 hL rfl rfl ?_ | refine LdReq.ownA hX rfl rfl 5 hL rfl rfl ?_ | refine LdReq.ownA hX rfl rfl 6 hL rfl rfl ?_ | (refine StReq.own hX rfl 0 hL rfl rfl rfl rfl ?_; clear hL; intro w hL) | (refine StReq.own hX rfl 1 hL rfl rfl rfl rfl ?_; clear hL; intro w hL) | (refine StReq.own hX rfl 2 hL rfl rfl rfl rfl ?_; clear hL; intro w hL) | (refine StReq.own hX rfl 3 hL rfl rfl rfl rfl ?_; clear hL; intro w hL) | (refine StReq.own hX rfl 4 hL rfl rfl rfl rfl ?_; clear hL; intro w hL) | (refine StReq.own hX rfl 5 hL rfl rfl rfl rfl ?_; clear hL; intro w hL) | (refine StReq.own hX rfl 6 hL rfl rfl rfl rfl ?_; clear hL; intro w hL) | refine ArReq.i64 (by omega) (by omega) ?_ | refine SeqReq.go hX ?_ | refine OptReq.mk rfl ?_); conv => whnf)
      exact RetReq.mk hL.drop ⟨rfl, rfl⟩
  have hform : ∀ r ∈ l, formedR r = true := by
    intro r hr
    obtain ⟨i, hi, rfl⟩ := List.getElem_of_mem hr
    exact hdone i _ (by omega) (List.getElem?_eq_getElem hi)
  have hu : ¬ l.any (fun r => !formedR r) = true := by
    rw [List.any_eq_true]; rintro ⟨x, hx, h⟩; rw [hform x hx] at h; cases h
  have hWg : GoodL (looksL l []) := good_looksL l [] (fun p hp => formed_deep (hform p hp)) ⟨fun x hx => by simp at hx, fun q i x y _ hx => by simp at hx⟩
  obtain ⟨W, hW⟩ : ∃ W, W = looksL l [] := ⟨_, rfl⟩
  rw [← hW] at hWg
  conv => whnf
  repeat ((first | refine BrReq.tt ?_ | refine BrReq.ff ?_ | refine LdReq.own1 hX rfl rfl 0 hL rfl rfl ?_ | refine LdReq.own1 hX rfl rfl 1 hL rfl rfl ?_ | refine LdReq.own1 hX rfl rfl 2 hL rfl rfl ?_ | refine LdReq.own1 hX rfl rfl 3 hL rfl rfl ?_ | refine LdReq.own1 hX rfl rfl 4 hL rfl rfl ?_ | refine LdReq.own1 hX rfl rfl 5 hL rfl rfl ?_ | refine LdReq.own1 hX rfl rfl 6 hL rfl rfl ?_ | refine LdReq.ownA hX rfl rfl 0 hL rfl rfl ?_ | refine LdReq.ownA hX rfl rfl 1 hL rfl rfl ?_ | refine LdReq.ownA hX rfl rfl 2 hL rfl rfl ?_ | refine LdReq.ownA hX rfl rfl 3 hL rfl rfl ?_ | refine LdReq.ownA hX rfl rfl 4 hL rfl rfl ?_ | refine LdReq.ownA hX rfl rfl 5 hL rfl rfl ?_ | refine LdReq.ownA hX rfl rfl 6 hL rfl rfl ?_ | (refine StReq.own hX rfl 0 hL rfl rfl rfl rfl ?_; clear hL; intro w hL) | (refine StReq.own hX rfl 1 hL rfl rfl rfl rfl ?_; clear hL; intro w hL) | (refine StReq.own hX rfl 2 hL rfl rfl rfl rfl ?_; clear hL; intro w hL) | (refine StReq.own hX rfl 3 hL rfl rfl rfl rfl ?_; clear hL; intro w hL) | (refine StReq.own hX rfl 4 hL rfl rfl rfl rfl ?_; clear hL; intro w hL) | (refine StReq.own hX rfl 5 hL rfl rfl rfl rfl ?_; clear hL; intro w hL) | (refine StReq.own hX rfl 6 hL rfl rfl rfl rfl ?_; clear hL; intro w hL) | refine ArReq.i64 (by omega) (by omega) ?_ | refine SeqReq.go hX ?_ | refine OptReq.mk rfl ?_); conv => whnf)
  refine LoopReq.inv hX (fun s : Nat × Option Addr × Nat × Nat => [(5, .slice s.2.1 s.2.2.1 s.2.2.2), (45, .int .i64 s.1)]) [0, 3, 4, 44]
    (fun s w => s.1 ≤ n ∧ ∃ m4, Mem.Le m3 m4 ∧ Sl m4 9 (RepRe m4) (.slice s.2.1 s.2.2.1 s.2.2.2) (looksL (l.take s.1) []) ∧ Ev.Loc m [] w0 m4 [(b3, .cells (toArr [.slice Ap np cp]) 45 (0, 0))] w) (fun s => n - s.1) (0, none, 0, 0)
    ⟨by simp, m3, Mem.Le.refl m3, ⟨none, 0, 0, rfl, rfl, Nat.le_refl 0, Nat.zero_le _, fun i x hx => by simp [looksL] at hx⟩, hL⟩ ⟨rfl, rfl, trivial⟩ ?_
  clear hL hdone hlt hj
  rintro ⟨j2, Aw, nw, cw⟩ w f ⟨hj, m4, hm4, hsw, hL⟩
  simp only at hj hsw
  have hm04 := hm03.trans hm4
  conv => whnf
  repeat ((first | refine BrReq.tt ?_ | refine BrReq.ff ?_ | refine LdReq.own1 hX rfl rfl 0 hL rfl rfl ?_ | refine LdReq.own1 hX rfl rfl 1 hL rfl rfl ?_ | refine LdReq.own1 hX rfl rfl 2 hL rfl rfl ?_ | refine LdReq.own1 hX rfl rfl 3 hL rfl rfl ?_ | refine LdReq.own1 hX rfl rfl 4 hL rfl rfl ?_ | refine LdReq.own1 hX rfl rfl 5 hL rfl rfl ?_ | refine LdReq.own1 hX rfl rfl 6 hL rfl rfl ?_ | refine LdReq.ownA hX rfl rfl 0 hL rfl rfl ?_ | refine LdReq.ownA hX rfl rfl 1 hL rfl rfl ?_ | refine LdReq.ownA hX rfl rfl 2 hL rfl rfl ?_ | refine LdReq.ownA hX rfl rfl 3 hL rfl rfl ?_ | refine LdReq.ownA hX rfl rfl 4 hL rfl rfl ?_ | refine LdReq.ownA hX rfl rfl 5 hL rfl rfl ?_ | refine LdReq.ownA hX rfl rfl 6 hL rfl rfl ?_ | (refine StReq.own hX rfl 0 hL rfl rfl rfl rfl ?_; clear hL; intro w hL) | (refine StReq.own hX rfl 1 hL rfl rfl rfl rfl ?_; clear hL; intro w hL) | (refine StReq.own hX rfl 2 hL rfl rfl rfl rfl ?_; clear hL; intro w hL) | (refine StReq.own hX rfl 3 hL rfl rfl rfl rfl ?_; clear hL; intro w hL) | (refine StReq.own hX rfl 4 hL rfl rfl rfl rfl ?_; clear hL; intro w hL) | (refine StReq.own hX rfl 5 hL rfl rfl rfl rfl ?_; clear hL; intro w hL) | (refine StReq.own hX rfl 6 hL rfl rfl rfl rfl ?_; clear hL; intro w hL) | refine ArReq.i64 (by omega) (by omega) ?_ | refine SeqReq.go hX ?_ | refine OptReq.mk rfl ?_); conv => whnf)
  refine BrReq.dec (fun hlt => ?_) (fun hlt => ?_)
  · have hlt' : j2 < l.length := by simp only at hlt; omega
    obtain ⟨a, cs', rfl, hl9, hcells, hrep⟩ := he j2 _ (List.getElem?_eq_getElem hlt')
    obtain ⟨k1, u0, u1, u2, u3, A1, n1, c1, lo1, hi1, neg1, rfl⟩ := hrep.form
    have hln := looksL_len (l.take j2) []
    have hnt := nodesL_take l j2 hlt'
    have hnl := nodesL_take_le l (j2 + 1)
    have htk := looksL_take l j2 hlt' []
    simp only [List.length_nil, Nat.zero_add] at hln
    conv => whnf
    repeat ((first | refine Idx2Req.mk j2 a rfl (by omega) rfl ?_ | refine LdReq.agg hX rfl rfl hL hl9 (hcells.le hm04) ?_ | refine BrReq.tt ?_ | refine BrReq.ff ?_ | refine LdReq.own1 hX rfl rfl 0 hL rfl rfl ?_ | refine LdReq.own1 hX rfl rfl 1 hL rfl rfl ?_ | refine LdReq.own1 hX rfl rfl 2 hL rfl rfl ?_ | refine LdReq.own1 hX rfl rfl 3 hL rfl rfl ?_ | refine LdReq.own1 hX rfl rfl 4 hL rfl rfl ?_ | refine LdReq.own1 hX rfl rfl 5 hL rfl rfl ?_ | refine LdReq.own1 hX rfl rfl 6 hL rfl rfl ?_ | refine LdReq.ownA hX rfl rfl 0 hL rfl rfl ?_ | refine LdReq.ownA hX rfl rfl 1 hL rfl rfl ?_ | refine LdReq.ownA hX rfl rfl 2 hL rfl rfl ?_ | refine LdReq.ownA hX rfl rfl 3 hL rfl rfl ?_ | refine LdReq.ownA hX rfl rfl 4 hL rfl rfl ?_ | refine LdReq.ownA hX rfl rfl 5 hL rfl rfl ?_ | refine LdReq.ownA hX rfl rfl 6 hL rfl rfl ?_ | (refine StReq.own hX rfl 0 hL rfl rfl rfl rfl ?_; clear hL; intro w hL) | (refine StReq.own hX rfl 1 hL rfl rfl rfl rfl ?_; clear hL; intro w hL) | (refine StReq.own hX rfl 2 hL rfl rfl rfl rfl ?_; clear hL; intro w hL) | (refine StReq.own hX rfl 3 hL rfl rfl rfl rfl ?_; clear hL; intro w hL) | (refine StReq.own hX rfl 4 hL rfl rfl rfl rfl ?_; clear hL; intro w hL) | (refine StReq.own hX rfl 5 hL rfl rfl rfl rfl ?_; clear hL; intro w hL) | (refine StReq.own hX rfl 6 hL rfl rfl rfl rfl ?_; clear hL; intro w hL) | refine ArReq.i64 (by omega) (by omega) ?_ | refine SeqReq.go hX ?_ | refine OptReq.mk rfl ?_); conv => whnf)
    refine CallReq.pure (refLooks_fn _ m4 _ _ _ (hrep.le hm04) hsw (by omega)) hL ?_
    clear hL
    rintro v m5 w hL hm5 hsw2
    rw [← htk] at hsw2
    have hsw2' := hsw2
    obtain ⟨A2, n2, c2, rfl, -⟩ := hsw2
    conv => whnf
    repeat ((first | refine BrReq.tt ?_ | refine BrReq.ff ?_ | refine LdReq.own1 hX rfl rfl 0 hL rfl rfl ?_ | refine LdReq.own1 hX rfl rfl 1 hL rfl rfl ?_ | refine LdReq.own1 hX rfl rfl 2 hL rfl rfl ?_ | refine LdReq.own1 hX rfl rfl 3 hL rfl rfl ?_ | refine LdReq.own1 hX rfl rfl 4 hL rfl rfl ?_ | refine LdReq.own1 hX rfl rfl 5 hL rfl rfl ?_ | refine LdReq.own1 hX rfl rfl 6 hL rfl rfl ?_ | refine LdReq.ownA hX rfl rfl 0 hL rfl rfl ?_ | refine LdReq.ownA hX rfl rfl 1 hL rfl rfl ?_ | refine LdReq.ownA hX rfl rfl 2 hL rfl rfl ?_ | refine LdReq.ownA hX rfl rfl 3 hL rfl rfl ?_ | refine LdReq.ownA hX rfl rfl 4 hL rfl rfl ?_ | refine LdReq.ownA hX rfl rfl 5 hL rfl rfl ?_ | refine LdReq.ownA hX rfl rfl 6 hL rfl rfl ?_ | (refine StReq.own hX rfl 0 hL rfl rfl rfl rfl ?_; clear hL; intro w hL) | (refine StReq.own hX rfl 1 hL rfl rfl rfl rfl ?_; clear hL; intro w hL) | (refine StReq.own hX rfl 2 hL rfl rfl rfl rfl ?_; clear hL; intro w hL) | (refine StReq.own hX rfl 3 hL rfl rfl rfl rfl ?_; clear hL; intro w hL) | (refine StReq.own hX rfl 4 hL rfl rfl rfl rfl ?_; clear hL; intro w hL) | (refine StReq.own hX rfl 5 hL rfl rfl rfl rfl ?_; clear hL; intro w hL) | (refine StReq.own hX rfl 6 hL rfl rfl rfl rfl ?_; clear hL; intro w hL) | refine ArReq.i64 (by omega) (by omega) ?_ | refine SeqReq.go hX ?_ | refine OptReq.mk rfl ?_); conv => whnf)
    refine ⟨(j2 + 1, A2, n2, c2), ⟨by simp only at hlt ⊢; omega, m5, hm4.trans hm5, hsw2', hL⟩, by omega, ?_, ?_⟩
    · repeat (first | exact trivial | (refine And.intro (by (conv => lhs; whnf) <;> (conv => rhs; whnf) <;> (first | rfl)) ?_))
    · repeat (first | exact trivial | (refine And.intro (by (conv => lhs; whnf) <;> (conv => rhs; whnf) <;> (first | rfl)) ?_))
  have hjn : j2 = l.length := by simp only at hlt; omega
  rw [hjn, List.take_length, ← hW] at hsw
  have hnw := hsw.lens.1
  conv => whnf
  repeat ((first | refine BrReq.tt ?_ | refine BrReq.ff ?_ | refine LdReq.own1 hX rfl rfl 0 hL rfl rfl ?_ | refine LdReq.own1 hX rfl rfl 1 hL rfl rfl ?_ | refine LdReq.own1 hX rfl rfl 2 hL rfl rfl ?_ | refine LdReq.own1 hX rfl rfl 3 hL rfl rfl ?_ | refine LdReq.own1 hX rfl rfl 4 hL rfl rfl ?_ | refine LdReq.own1 hX rfl rfl 5 hL rfl rfl ?_ | refine LdReq.own1 hX rfl rfl 6 hL rfl rfl ?_ | refine LdReq.ownA hX rfl rfl 0 hL rfl rfl ?_ | refine LdReq.ownA hX rfl rfl 1 hL rfl rfl ?_ | refine LdReq.ownA hX rfl rfl 2 hL rfl rfl ?_ | refine LdReq.ownA hX rfl rfl 3 hL rfl rfl ?_ | refine LdReq.ownA hX rfl rfl 4 hL rfl rfl ?_ | refine LdReq.ownA hX rfl rfl 5 hL rfl rfl ?_ | refine LdReq.ownA hX rfl rfl 6 hL rfl rfl ?_ | (refine StReq.own hX rfl 0 hL rfl rfl rfl rfl ?_; clear hL; intro w hL) | (refine StReq.own hX rfl 1 hL rfl rfl rfl rfl ?_; clear hL; intro w hL) | (refine StReq.own hX rfl 2 hL rfl rfl rfl rfl ?_; clear hL; intro w hL) | (refine StReq.own hX rfl 3 hL rfl rfl rfl rfl ?_; clear hL; intro w hL) | (refine StReq.own hX rfl 4 hL rfl rfl rfl rfl ?_; clear hL; intro w hL) | (refine StReq.own hX rfl 5 hL rfl rfl rfl rfl ?_; clear hL; intro w hL) | (refine StReq.own hX rfl 6 hL rfl rfl rfl rfl ?_; clear hL; intro w hL) | refine ArReq.i64 (by omega) (by omega) ?_ | refine SeqReq.go hX ?_ | refine OptReq.mk rfl ?_); conv => whnf)
  refine BrReq.dec (fun h4 => ?_) (fun h4 => ?_)
  · have em : makeR l = (10, []) := by unfold makeR; rw [if_neg hu, if_pos (by rw [← hW]; simp only at h4; omega)]
    rw [em] at hnp ⊢
    have hnp : np = 0 := hnp
    subst hnp
    conv => whnf
    repeat ((first | refine BrReq.tt ?_ | refine BrReq.ff ?_ | refine LdReq.own1 hX rfl rfl 0 hL rfl rfl ?_ | refine LdReq.own1 hX rfl rfl 1 hL rfl rfl ?_ | refine LdReq.own1 hX rfl rfl 2 hL rfl rfl ?_ | refine LdReq.own1 hX rfl rfl 3 hL rfl rfl ?_ | refine LdReq.own1 hX rfl rfl 4 hL rfl rfl ?_ | refine LdReq.own1 hX rfl rfl 5 hL rfl rfl ?_ | refine LdReq.own1 hX rfl rfl 6 hL rfl rfl ?_ | refine LdReq.ownA hX rfl rfl 0 hL rfl rfl ?_ | refine LdReq.ownA hX rfl rfl 1 hL rfl rfl ?_ | refine LdReq.ownA hX rfl rfl 2 hL rfl rfl ?_ | refine LdReq.ownA hX rfl rfl 3 hL rfl rfl ?_ | refine LdReq.ownA hX rfl rfl 4 hL rfl rfl ?_ | refine LdReq.ownA hX rfl rfl 5 hL rfl rfl ?_ | refine LdReq.ownA hX rfl rfl 6 hL rfl rfl ?_ | (refine StReq.own hX rfl 0 hL rfl rfl rfl rfl ?_; clear hL; intro w hL) | (refine StReq.own hX rfl 1 hL rfl rfl rfl rfl ?_; clear hL; intro w hL) | (refine StReq.own hX rfl 2 hL rfl rfl rfl rfl ?_; clear hL; intro w hL) | (refine StReq.own hX rfl 3 hL rfl rfl rfl rfl ?_; clear hL; intro w hL) | (refine StReq.own hX rfl 4 hL rfl rfl rfl rfl ?_; clear hL; intro w hL) | (refine StReq.own hX rfl 5 hL rfl rfl rfl rfl ?_; clear hL; intro w hL) | (refine StReq.own hX rfl 6 hL rfl rfl rfl rfl ?_; clear hL; intro w hL) | refine ArReq.i64 (by omega) (by omega) ?_ | refine SeqReq.go hX ?_ | refine OptReq.mk rfl ?_); conv => whnf)
    exact RetReq.mk hL.drop ⟨rfl, rfl⟩
  have em : makeR l = (0, W) := by unfold makeR; rw [if_neg hu, if_neg (by rw [← hW]; simp only at h4; omega), hW]
  rw [em] at hnp hsp ⊢
  have hnp : np = W.length := hnp
  have hsp : Sl m4 9 (RepRe m4) (.slice Ap np cp) W := hsp.le hm4 fun cs x _ h => h.le hm4
  conv => whnf
  repeat ((first | refine BrReq.tt ?_ | refine BrReq.ff ?_ | refine LdReq.own1 hX rfl rfl 0 hL rfl rfl ?_ | refine LdReq.own1 hX rfl rfl 1 hL rfl rfl ?_ | refine LdReq.own1 hX rfl rfl 2 hL rfl rfl ?_ | refine LdReq.own1 hX rfl rfl 3 hL rfl rfl ?_ | refine LdReq.own1 hX rfl rfl 4 hL rfl rfl ?_ | refine LdReq.own1 hX rfl rfl 5 hL rfl rfl ?_ | refine LdReq.own1 hX rfl rfl 6 hL rfl rfl ?_ | refine LdReq.ownA hX rfl rfl 0 hL rfl rfl ?_ | refine LdReq.ownA hX rfl rfl 1 hL rfl rfl ?_ | refine LdReq.ownA hX rfl rfl 2 hL rfl rfl ?_ | refine LdReq.ownA hX rfl rfl 3 hL rfl rfl ?_ | refine LdReq.ownA hX rfl rfl 4 hL rfl rfl ?_ | refine LdReq.ownA hX rfl rfl 5 hL rfl rfl ?_ | refine LdReq.ownA hX rfl rfl 6 hL rfl rfl ?_ | (refine StReq.own hX rfl 0 hL rfl rfl rfl rfl ?_; clear hL; intro w hL) | (refine StReq.own hX rfl 1 hL rfl rfl rfl rfl ?_; clear hL; intro w hL) | (refine StReq.own hX rfl 2 hL rfl rfl rfl rfl ?_; clear hL; intro w hL) | (refine StReq.own hX rfl 3 hL rfl rfl rfl rfl ?_; clear hL; intro w hL) | (refine StReq.own hX rfl 4 hL rfl rfl rfl rfl ?_; clear hL; intro w hL) | (refine StReq.own hX rfl 5 hL rfl rfl rfl rfl ?_; clear hL; intro w hL) | (refine StReq.own hX rfl 6 hL rfl rfl rfl rfl ?_; clear hL; intro w hL) | refine ArReq.i64 (by omega) (by omega) ?_ | refine SeqReq.go hX ?_ | refine OptReq.mk rfl ?_); conv => whnf)
  refine BrReq.dec (fun hne => absurd ?_ hne) (fun hne => ?_)
  · simp only; omega
  conv => whnf
  repeat ((first | refine BrReq.tt ?_ | refine BrReq.ff ?_ | refine LdReq.own1 hX rfl rfl 0 hL rfl rfl ?_ | refine LdReq.own1 hX rfl rfl 1 hL rfl rfl ?_ | refine LdReq.own1 hX rfl rfl 2 hL rfl rfl ?_ | refine LdReq.own1 hX rfl rfl 3 hL rfl rfl ?_ | refine LdReq.own1 hX rfl rfl 4 hL rfl rfl ?_ | refine LdReq.own1 hX rfl rfl 5 hL rfl rfl ?_ | refine LdReq.own1 hX rfl rfl 6 hL rfl rfl ?_ | refine LdReq.ownA hX rfl rfl 0 hL rfl rfl ?_ | refine LdReq.ownA hX rfl rfl 1 hL rfl rfl ?_ | refine LdReq.ownA hX rfl rfl 2 hL rfl rfl ?_ | refine LdReq.ownA hX rfl rfl 3 hL rfl rfl ?_ | refine LdReq.ownA hX rfl rfl 4 hL rfl rfl ?_ | refine LdReq.ownA hX rfl rfl 5 hL rfl rfl ?_ | refine LdReq.ownA hX rfl rfl 6 hL rfl rfl ?_ | (refine StReq.own hX rfl 0 hL rfl rfl rfl rfl ?_; clear hL; intro w hL) | (refine StReq.own hX rfl 1 hL rfl rfl rfl rfl ?_; clear hL; intro w hL) | (refine StReq.own hX rfl 2 hL rfl rfl rfl rfl ?_; clear hL; intro w hL) | (refine StReq.own hX rfl 3 hL rfl rfl rfl rfl ?_; clear hL; intro w hL) | (refine StReq.own hX rfl 4 hL rfl rfl rfl rfl ?_; clear hL; intro w hL) | (refine StReq.own hX rfl 5 hL rfl rfl rfl rfl ?_; clear hL; intro w hL) | (refine StReq.own hX rfl 6 hL rfl rfl rfl rfl ?_; clear hL; intro w hL) | refine ArReq.i64 (by omega) (by omega) ?_ | refine SeqReq.go hX ?_ | refine OptReq.mk rfl ?_); conv => whnf)
  refine CallReq.val (Late_fn m4 _ W hsp) hL ?_
  clear hL
  intro w hL
  conv => whnf
  repeat ((first | refine BrReq.tt ?_ | refine BrReq.ff ?_ | refine LdReq.own1 hX rfl rfl 0 hL rfl rfl ?_ | refine LdReq.own1 hX rfl rfl 1 hL rfl rfl ?_ | refine LdReq.own1 hX rfl rfl 2 hL rfl rfl ?_ | refine LdReq.own1 hX rfl rfl 3 hL rfl rfl ?_ | refine LdReq.own1 hX rfl rfl 4 hL rfl rfl ?_ | refine LdReq.own1 hX rfl rfl 5 hL rfl rfl ?_ | refine LdReq.own1 hX rfl rfl 6 hL rfl rfl ?_ | refine LdReq.ownA hX rfl rfl 0 hL rfl rfl ?_ | refine LdReq.ownA hX rfl rfl 1 hL rfl rfl ?_ | refine LdReq.ownA hX rfl rfl 2 hL rfl rfl ?_ | refine LdReq.ownA hX rfl rfl 3 hL rfl rfl ?_ | refine LdReq.ownA hX rfl rfl 4 hL rfl rfl ?_ | refine LdReq.ownA hX rfl rfl 5 hL rfl rfl ?_ | refine LdReq.ownA hX rfl rfl 6 hL rfl rfl ?_ | (refine StReq.own hX rfl 0 hL rfl rfl rfl rfl ?_; clear hL; intro w hL) | (refine StReq.own hX rfl 1 hL rfl rfl rfl rfl ?_; clear hL; intro w hL) | (refine StReq.own hX rfl 2 hL rfl rfl rfl rfl ?_; clear hL; intro w hL) | (refine StReq.own hX rfl 3 hL rfl rfl rfl rfl ?_; clear hL; intro w hL) | (refine StReq.own hX rfl 4 hL rfl rfl rfl rfl ?_; clear hL; intro w hL) | (refine StReq.own hX rfl 5 hL rfl rfl rfl rfl ?_; clear hL; intro w hL) | (refine StReq.own hX rfl 6 hL rfl rfl rfl rfl ?_; clear hL; intro w hL) | refine ArReq.i64 (by omega) (by omega) ?_ | refine SeqReq.go hX ?_ | refine OptReq.mk rfl ?_); conv => whnf)
  refine CallReq.val (refLate_fn m4 _ W hsw) hL ?_
  clear hL
  intro w hL
  conv => whnf
  repeat ((first | refine BrReq.tt ?_ | refine BrReq.ff ?_ | refine LdReq.own1 hX rfl rfl 0 hL rfl rfl ?_ | refine LdReq.own1 hX rfl rfl 1 hL rfl rfl ?_ | refine LdReq.own1 hX rfl rfl 2 hL rfl rfl ?_ | refine LdReq.own1 hX rfl rfl 3 hL rfl rfl ?_ | refine LdReq.own1 hX rfl rfl 4 hL rfl rfl ?_ | refine LdReq.own1 hX rfl rfl 5 hL rfl rfl ?_ | refine LdReq.own1 hX rfl rfl 6 hL rfl rfl ?_ | refine LdReq.ownA hX rfl rfl 0 hL rfl rfl ?_ | refine LdReq.ownA hX rfl rfl 1 hL rfl rfl ?_ | refine LdReq.ownA hX rfl rfl 2 hL rfl rfl ?_ | refine LdReq.ownA hX rfl rfl 3 hL rfl rfl ?_ | refine LdReq.ownA hX rfl rfl 4 hL rfl rfl ?_ | refine LdReq.ownA hX rfl rfl 5 hL rfl rfl ?_ | refine LdReq.ownA hX rfl rfl 6 hL rfl rfl ?_ | (refine StReq.own hX rfl 0 hL rfl rfl rfl rfl ?_; clear hL; intro w hL) | (refine StReq.own hX rfl 1 hL rfl rfl rfl rfl ?_; clear hL; intro w hL) | (refine StReq.own hX rfl 2 hL rfl rfl rfl rfl ?_; clear hL; intro w hL) | (refine StReq.own hX rfl 3 hL rfl rfl rfl rfl ?_; clear hL; intro w hL) | (refine StReq.own hX rfl 4 hL rfl rfl rfl rfl ?_; clear hL; intro w hL) | (refine StReq.own hX rfl 5 hL rfl rfl rfl rfl ?_; clear hL; intro w hL) | (refine StReq.own hX rfl 6 hL rfl rfl rfl rfl ?_; clear hL; intro w hL) | refine ArReq.i64 (by omega) (by omega) ?_ | refine SeqReq.go hX ?_ | refine OptReq.mk rfl ?_); conv => whnf)
  refine BrReq.bool (fun hne => by simp at hne) (fun _ => ?_)
  conv => whnf
  repeat ((first | refine BrReq.tt ?_ | refine BrReq.ff ?_ | refine LdReq.own1 hX rfl rfl 0 hL rfl rfl ?_ | refine LdReq.own1 hX rfl rfl 1 hL rfl rfl ?_ | refine LdReq.own1 hX rfl rfl 2 hL rfl rfl ?_ | refine LdReq.own1 hX rfl rfl 3 hL rfl rfl ?_ | refine LdReq.own1 hX rfl rfl 4 hL rfl rfl ?_ | refine LdReq.own1 hX rfl rfl 5 hL rfl rfl ?_ | refine LdReq.own1 hX rfl rfl 6 hL rfl rfl ?_ | refine LdReq.ownA hX rfl rfl 0 hL rfl rfl ?_ | refine LdReq.ownA hX rfl rfl 1 hL rfl rfl ?_ | refine LdReq.ownA hX rfl rfl 2 hL rfl rfl ?_ | refine LdReq.ownA hX rfl rfl 3 hL rfl rfl ?_ | refine LdReq.ownA hX rfl rfl 4 hL rfl rfl ?_ | refine LdReq.ownA hX rfl rfl 5 hL rfl rfl ?_ | refine LdReq.ownA hX rfl rfl 6 hL rfl rfl ?_ | (refine StReq.own hX rfl 0 hL rfl rfl rfl rfl ?_; clear hL; intro w hL) | (refine StReq.own hX rfl 1 hL rfl rfl rfl rfl ?_; clear hL; intro w hL) | (refine StReq.own hX rfl 2 hL rfl rfl rfl rfl ?_; clear hL; intro w hL) | (refine StReq.own hX rfl 3 hL rfl rfl rfl rfl ?_; clear hL; intro w hL) | (refine StReq.own hX rfl 4 hL rfl rfl rfl rfl ?_; clear hL; intro w hL) | (refine StReq.own hX rfl 5 hL rfl rfl rfl rfl ?_; clear hL; intro w hL) | (refine StReq.own hX rfl 6 hL rfl rfl rfl rfl ?_; clear hL; intro w hL) | refine ArReq.i64 (by omega) (by omega) ?_ | refine SeqReq.go hX ?_ | refine OptReq.mk rfl ?_); conv => whnf)
  refine LoopReq.inv hX (fun j : Nat => [(85, .int .i64 j)]) [3, 5, 84]
    (fun j w => j ≤ W.length ∧ Ev.Loc m [] w0 m4 [(b3, .cells (toArr [.slice Ap np cp]) 45 (0, 0))] w) (fun j => W.length - j) 0
    ⟨by omega, hL⟩ ⟨rfl, trivial⟩ ?_
  clear hL
  rintro i w g ⟨hi, hL⟩
  conv => whnf
  repeat ((first | refine BrReq.tt ?_ | refine BrReq.ff ?_ | refine LdReq.own1 hX rfl rfl 0 hL rfl rfl ?_ | refine LdReq.own1 hX rfl rfl 1 hL rfl rfl ?_ | refine LdReq.own1 hX rfl rfl 2 hL rfl rfl ?_ | refine LdReq.own1 hX rfl rfl 3 hL rfl rfl ?_ | refine LdReq.own1 hX rfl rfl 4 hL rfl rfl ?_ | refine LdReq.own1 hX rfl rfl 5 hL rfl rfl ?_ | refine LdReq.own1 hX rfl rfl 6 hL rfl rfl ?_ | refine LdReq.ownA hX rfl rfl 0 hL rfl rfl ?_ | refine LdReq.ownA hX rfl rfl 1 hL rfl rfl ?_ | refine LdReq.ownA hX rfl rfl 2 hL rfl rfl ?_ | refine LdReq.ownA hX rfl rfl 3 hL rfl rfl ?_ | refine LdReq.ownA hX rfl rfl 4 hL rfl rfl ?_ | refine LdReq.ownA hX rfl rfl 5 hL rfl rfl ?_ | refine LdReq.ownA hX rfl rfl 6 hL rfl rfl ?_ | (refine StReq.own hX rfl 0 hL rfl rfl rfl rfl ?_; clear hL; intro w hL) | (refine StReq.own hX rfl 1 hL rfl rfl rfl rfl ?_; clear hL; intro w hL) | (refine StReq.own hX rfl 2 hL rfl rfl rfl rfl ?_; clear hL; intro w hL) | (refine StReq.own hX rfl 3 hL rfl rfl rfl rfl ?_; clear hL; intro w hL) | (refine StReq.own hX rfl 4 hL rfl rfl rfl rfl ?_; clear hL; intro w hL) | (refine StReq.own hX rfl 5 hL rfl rfl rfl rfl ?_; clear hL; intro w hL) | (refine StReq.own hX rfl 6 hL rfl rfl rfl rfl ?_; clear hL; intro w hL) | refine ArReq.i64 (by omega) (by omega) ?_ | refine SeqReq.go hX ?_ | refine OptReq.mk rfl ?_); conv => whnf)
  refine BrReq.dec (fun hlt3 => ?_) (fun hlt3 => ?_)
  · have hiW : i < W.length := by simp only at hlt3; omega
    have hx := List.getElem?_eq_getElem hiW
    obtain ⟨a, cs1, ea, hl9, hcells, hrep⟩ := hsw.elem i _ hx
    cases ea
    obtain ⟨b, cs2, eb, hl9b, hcellsb, hrepb⟩ := hsp.elem i _ hx
    cases eb
    obtain ⟨k1, u0, u1, u2, u3, A1, n1, c1, lo1, hi1, neg1, rfl⟩ := hrep.form
    obtain ⟨k2, v0, v1, v2, v3, A2, n2, c2, lo2, hi2, neg2, rfl⟩ := hrepb.form
    have hgood := hWg.1 _ (List.mem_of_getElem? hx)
    conv => whnf
    repeat ((first | (refine Idx2Req.mk i _ rfl (by simp only at hlt3 ⊢; omega) rfl ?_) | refine LdReq.agg hX rfl rfl hL hl9 hcells ?_ | refine BrReq.tt ?_ | refine BrReq.ff ?_ | refine LdReq.own1 hX rfl rfl 0 hL rfl rfl ?_ | refine LdReq.own1 hX rfl rfl 1 hL rfl rfl ?_ | refine LdReq.own1 hX rfl rfl 2 hL rfl rfl ?_ | refine LdReq.own1 hX rfl rfl 3 hL rfl rfl ?_ | refine LdReq.own1 hX rfl rfl 4 hL rfl rfl ?_ | refine LdReq.own1 hX rfl rfl 5 hL rfl rfl ?_ | refine LdReq.own1 hX rfl rfl 6 hL rfl rfl ?_ | refine LdReq.ownA hX rfl rfl 0 hL rfl rfl ?_ | refine LdReq.ownA hX rfl rfl 1 hL rfl rfl ?_ | refine LdReq.ownA hX rfl rfl 2 hL rfl rfl ?_ | refine LdReq.ownA hX rfl rfl 3 hL rfl rfl ?_ | refine LdReq.ownA hX rfl rfl 4 hL rfl rfl ?_ | refine LdReq.ownA hX rfl rfl 5 hL rfl rfl ?_ | refine LdReq.ownA hX rfl rfl 6 hL rfl rfl ?_ | (refine StReq.own hX rfl 0 hL rfl rfl rfl rfl ?_; clear hL; intro w hL) | (refine StReq.own hX rfl 1 hL rfl rfl rfl rfl ?_; clear hL; intro w hL) | (refine StReq.own hX rfl 2 hL rfl rfl rfl rfl ?_; clear hL; intro w hL) | (refine StReq.own hX rfl 3 hL rfl rfl rfl rfl ?_; clear hL; intro w hL) | (refine StReq.own hX rfl 4 hL rfl rfl rfl rfl ?_; clear hL; intro w hL) | (refine StReq.own hX rfl 5 hL rfl rfl rfl rfl ?_; clear hL; intro w hL) | (refine StReq.own hX rfl 6 hL rfl rfl rfl rfl ?_; clear hL; intro w hL) | refine ArReq.i64 (by omega) (by omega) ?_ | refine SeqReq.go hX ?_ | refine OptReq.mk rfl ?_); conv => whnf)
    refine NewReq.mk hL ?_
    clear hL
    intro b9 w hL
    conv => whnf
    conv => whnf
    repeat ((first | refine BrReq.tt ?_ | refine BrReq.ff ?_ | refine LdReq.own1 hX rfl rfl 0 hL rfl rfl ?_ | refine LdReq.own1 hX rfl rfl 1 hL rfl rfl ?_ | refine LdReq.own1 hX rfl rfl 2 hL rfl rfl ?_ | refine LdReq.own1 hX rfl rfl 3 hL rfl rfl ?_ | refine LdReq.own1 hX rfl rfl 4 hL rfl rfl ?_ | refine LdReq.own1 hX rfl rfl 5 hL rfl rfl ?_ | refine LdReq.own1 hX rfl rfl 6 hL rfl rfl ?_ | refine LdReq.ownA hX rfl rfl 0 hL rfl rfl ?_ | refine LdReq.ownA hX rfl rfl 1 hL rfl rfl ?_ | refine LdReq.ownA hX rfl rfl 2 hL rfl rfl ?_ | refine LdReq.ownA hX rfl rfl 3 hL rfl rfl ?_ | refine LdReq.ownA hX rfl rfl 4 hL rfl rfl ?_ | refine LdReq.ownA hX rfl rfl 5 hL rfl rfl ?_ | refine LdReq.ownA hX rfl rfl 6 hL rfl rfl ?_ | (refine StReq.own hX rfl 0 hL rfl rfl rfl rfl ?_; clear hL; intro w hL) | (refine StReq.own hX rfl 1 hL rfl rfl rfl rfl ?_; clear hL; intro w hL) | (refine StReq.own hX rfl 2 hL rfl rfl rfl rfl ?_; clear hL; intro w hL) | (refine StReq.own hX rfl 3 hL rfl rfl rfl rfl ?_; clear hL; intro w hL) | (refine StReq.own hX rfl 4 hL rfl rfl rfl rfl ?_; clear hL; intro w hL) | (refine StReq.own hX rfl 5 hL rfl rfl rfl rfl ?_; clear hL; intro w hL) | (refine StReq.own hX rfl 6 hL rfl rfl rfl rfl ?_; clear hL; intro w hL) | refine ArReq.i64 (by omega) (by omega) ?_ | refine SeqReq.go hX ?_ | refine OptReq.mk rfl ?_); conv => whnf)
    refine BrReq.dec (fun h8 => ?_) (fun h8 => ?_)
    · conv => whnf
      repeat ((first | refine BrReq.tt ?_ | refine BrReq.ff ?_ | refine LdReq.own1 hX rfl rfl 0 hL rfl rfl ?_ | refine LdReq.own1 hX rfl rfl 1 hL rfl rfl ?_ | refine LdReq.own1 hX rfl rfl 2 hL rfl rfl ?_ | refine LdReq.own1 hX rfl rfl 3 hL rfl rfl ?_ | refine LdReq.own1 hX rfl rfl 4 hL rfl rfl ?_ | refine LdReq.own1 hX rfl rfl 5 hL rfl rfl ?_ | refine LdReq.own1 hX rfl rfl 6 hL rfl rfl ?_ | refine LdReq.ownA hX rfl rfl 0 hL rfl rfl ?_ | refine LdReq.ownA hX rfl rfl 1 hL rfl rfl ?_ | refine LdReq.ownA hX rfl rfl 2 hL rfl rfl ?_ | refine LdReq.ownA hX rfl rfl 3 hL rfl rfl ?_ | refine LdReq.ownA hX rfl rfl 4 hL rfl rfl ?_ | refine LdReq.ownA hX rfl rfl 5 hL rfl rfl ?_ | refine LdReq.ownA hX rfl rfl 6 hL rfl rfl ?_ | (refine StReq.own hX rfl 0 hL rfl rfl rfl rfl ?_; clear hL; intro w hL) | (refine StReq.own hX rfl 1 hL rfl rfl rfl rfl ?_; clear hL; intro w hL) | (refine StReq.own hX rfl 2 hL rfl rfl rfl rfl ?_; clear hL; intro w hL) | (refine StReq.own hX rfl 3 hL rfl rfl rfl rfl ?_; clear hL; intro w hL) | (refine StReq.own hX rfl 4 hL rfl rfl rfl rfl ?_; clear hL; intro w hL) | (refine StReq.own hX rfl 5 hL rfl rfl rfl rfl ?_; clear hL; intro w hL) | (refine StReq.own hX rfl 6 hL rfl rfl rfl rfl ?_; clear hL; intro w hL) | refine ArReq.i64 (by omega) (by omega) ?_ | refine SeqReq.go hX ?_ | refine OptReq.mk rfl ?_); conv => whnf)
      have hL : Ev.Loc m [] w0 m4 [(b9, .cells (toArr (reC k1 u0 u1 u2 u3 (.slice A1 n1 c1) lo1 hi1 true)) 27 (0, 0)), (b3, .cells (toArr [.slice (some b) np cp]) 45 (0, 0))] w := hL
      obtain ⟨r', hr', hbr⟩ := neg_rep true hrep
      refine DrawReq.plan hX (.fst 0 (.fst 1 (.fst 2 (.fst 3 (.fst 4 (.fst 5 (.fst 6 (.fst 7 (.fst 8 (.alt 9 (.fst 10 (.fst 11 (.fst 12 (.fst 13 (.fst 14 (.fst 15 (.fst 16 (.fst 18 (.alt 17 (.fst 19 (.fst 20 (.fst 21 (.fst 22 (.fst 23 (.fst 25 (.alt 24 (.fst 26 (.fst 27 (.done))) (.stop)))))))) (.stop)))))))))) (.stop))))))))))) _ (by kernel_rfl) (by kernel_rfl) hL id ?_
      clear hL
      intro w hL
      conv => whnf
      repeat ((first | (refine Idx2Req.mk i _ rfl (by (try simp only at hlt3 ⊢); omega) rfl ?_) | refine QLdReq.agg hX rfl rfl hl9 hcells ?_ | refine QLdReq.agg hX rfl rfl hl9b hcellsb ?_ | refine QLdReq.own1 hX rfl rfl 0 rfl rfl ?_ | refine QLdReq.own1 hX rfl rfl 1 rfl rfl ?_ | refine QLdReq.own1 hX rfl rfl 2 rfl rfl ?_ | refine QLdReq.own1 hX rfl rfl 3 rfl rfl ?_ | refine QLdReq.ownA hX rfl rfl 0 rfl rfl ?_ | refine QLdReq.ownA hX rfl rfl 1 rfl rfl ?_ | refine QLdReq.ownA hX rfl rfl 2 rfl rfl ?_ | refine QLdReq.ownA hX rfl rfl 3 rfl rfl ?_ | refine AltReq.one ?_ | refine BrReq.tt ?_ | refine BrReq.ff ?_ | refine LdReq.own1 hX rfl rfl 0 hL rfl rfl ?_ | refine LdReq.own1 hX rfl rfl 1 hL rfl rfl ?_ | refine LdReq.own1 hX rfl rfl 2 hL rfl rfl ?_ | refine LdReq.own1 hX rfl rfl 3 hL rfl rfl ?_ | refine LdReq.own1 hX rfl rfl 4 hL rfl rfl ?_ | refine LdReq.own1 hX rfl rfl 5 hL rfl rfl ?_ | refine LdReq.own1 hX rfl rfl 6 hL rfl rfl ?_ | refine LdReq.ownA hX rfl rfl 0 hL rfl rfl ?_ | refine LdReq.ownA hX rfl rfl 1 hL rfl rfl ?_ | refine LdReq.ownA hX rfl rfl 2 hL rfl rfl ?_ | refine LdReq.ownA hX rfl rfl 3 hL rfl rfl ?_ | refine LdReq.ownA hX rfl rfl 4 hL rfl rfl ?_ | refine LdReq.ownA hX rfl rfl 5 hL rfl rfl ?_ | refine LdReq.ownA hX rfl rfl 6 hL rfl rfl ?_ | (refine StReq.own hX rfl 0 hL rfl rfl rfl rfl ?_; clear hL; intro w hL) | (refine StReq.own hX rfl 1 hL rfl rfl rfl rfl ?_; clear hL; intro w hL) | (refine StReq.own hX rfl 2 hL rfl rfl rfl rfl ?_; clear hL; intro w hL) | (refine StReq.own hX rfl 3 hL rfl rfl rfl rfl ?_; clear hL; intro w hL) | (refine StReq.own hX rfl 4 hL rfl rfl rfl rfl ?_; clear hL; intro w hL) | (refine StReq.own hX rfl 5 hL rfl rfl rfl rfl ?_; clear hL; intro w hL) | (refine StReq.own hX rfl 6 hL rfl rfl rfl rfl ?_; clear hL; intro w hL) | refine ArReq.i64 (by omega) (by omega) ?_ | refine SeqReq.go hX ?_ | refine OptReq.mk rfl ?_); conv => whnf)
      refine CallReq.val (refSame_fn 41 m4 _ _ _ _ hrepb hrep (by omega)) hL ?_
      clear hL
      intro w hL
      rw [sameR_refl 40 _ hgood.2.2]
      conv => whnf
      repeat ((first | refine SReq.mk hL ?_ | (refine Idx2Req.mk i _ rfl (by (try simp only at hlt3 ⊢); omega) rfl ?_) | refine QLdReq.agg hX rfl rfl hl9 hcells ?_ | refine QLdReq.own1 hX rfl rfl 0 rfl rfl ?_ | refine QLdReq.own1 hX rfl rfl 1 rfl rfl ?_ | refine QLdReq.own1 hX rfl rfl 2 rfl rfl ?_ | refine QLdReq.own1 hX rfl rfl 3 rfl rfl ?_ | refine QLdReq.ownA hX rfl rfl 0 rfl rfl ?_ | refine QLdReq.ownA hX rfl rfl 1 rfl rfl ?_ | refine QLdReq.ownA hX rfl rfl 2 rfl rfl ?_ | refine QLdReq.ownA hX rfl rfl 3 rfl rfl ?_ | refine AltReq.one ?_ | refine BrReq.tt ?_ | refine BrReq.ff ?_ | refine LdReq.own1 hX rfl rfl 0 hL rfl rfl ?_ | refine LdReq.own1 hX rfl rfl 1 hL rfl rfl ?_ | refine LdReq.own1 hX rfl rfl 2 hL rfl rfl ?_ | refine LdReq.own1 hX rfl rfl 3 hL rfl rfl ?_ | refine LdReq.own1 hX rfl rfl 4 hL rfl rfl ?_ | refine LdReq.own1 hX rfl rfl 5 hL rfl rfl ?_ | refine LdReq.own1 hX rfl rfl 6 hL rfl rfl ?_ | refine LdReq.ownA hX rfl rfl 0 hL rfl rfl ?_ | refine LdReq.ownA hX rfl rfl 1 hL rfl rfl ?_ | refine LdReq.ownA hX rfl rfl 2 hL rfl rfl ?_ | refine LdReq.ownA hX rfl rfl 3 hL rfl rfl ?_ | refine LdReq.ownA hX rfl rfl 4 hL rfl rfl ?_ | refine LdReq.ownA hX rfl rfl 5 hL rfl rfl ?_ | refine LdReq.ownA hX rfl rfl 6 hL rfl rfl ?_ | (refine StReq.own hX rfl 0 hL rfl rfl rfl rfl ?_; clear hL; intro w hL) | (refine StReq.own hX rfl 1 hL rfl rfl rfl rfl ?_; clear hL; intro w hL) | (refine StReq.own hX rfl 2 hL rfl rfl rfl rfl ?_; clear hL; intro w hL) | (refine StReq.own hX rfl 3 hL rfl rfl rfl rfl ?_; clear hL; intro w hL) | (refine StReq.own hX rfl 4 hL rfl rfl rfl rfl ?_; clear hL; intro w hL) | (refine StReq.own hX rfl 5 hL rfl rfl rfl rfl ?_; clear hL; intro w hL) | (refine StReq.own hX rfl 6 hL rfl rfl rfl rfl ?_; clear hL; intro w hL) | refine ArReq.i64 (by omega) (by omega) ?_ | refine SeqReq.go hX ?_ | refine OptReq.mk rfl ?_); conv => whnf)
      refine CallReq.val (Index_fn m4 _ W _ _ hsp hrep) hL ?_
      clear hL
      intro w hL
      rw [good_index hWg hx hgood.2.1]
      conv => whnf
      repeat ((first | refine SReq.mk hL ?_ | refine QLdReq.own1 hX rfl rfl 0 rfl rfl ?_ | refine QLdReq.own1 hX rfl rfl 1 rfl rfl ?_ | refine QLdReq.own1 hX rfl rfl 2 rfl rfl ?_ | refine QLdReq.own1 hX rfl rfl 3 rfl rfl ?_ | refine QLdReq.ownA hX rfl rfl 0 rfl rfl ?_ | refine QLdReq.ownA hX rfl rfl 1 rfl rfl ?_ | refine QLdReq.ownA hX rfl rfl 2 rfl rfl ?_ | refine QLdReq.ownA hX rfl rfl 3 rfl rfl ?_ | refine AltReq.one ?_ | refine BrReq.tt ?_ | refine BrReq.ff ?_ | refine LdReq.own1 hX rfl rfl 0 hL rfl rfl ?_ | refine LdReq.own1 hX rfl rfl 1 hL rfl rfl ?_ | refine LdReq.own1 hX rfl rfl 2 hL rfl rfl ?_ | refine LdReq.own1 hX rfl rfl 3 hL rfl rfl ?_ | refine LdReq.own1 hX rfl rfl 4 hL rfl rfl ?_ | refine LdReq.own1 hX rfl rfl 5 hL rfl rfl ?_ | refine LdReq.own1 hX rfl rfl 6 hL rfl rfl ?_ | refine LdReq.ownA hX rfl rfl 0 hL rfl rfl ?_ | refine LdReq.ownA hX rfl rfl 1 hL rfl rfl ?_ | refine LdReq.ownA hX rfl rfl 2 hL rfl rfl ?_ | refine LdReq.ownA hX rfl rfl 3 hL rfl rfl ?_ | refine LdReq.ownA hX rfl rfl 4 hL rfl rfl ?_ | refine LdReq.ownA hX rfl rfl 5 hL rfl rfl ?_ | refine LdReq.ownA hX rfl rfl 6 hL rfl rfl ?_ | (refine StReq.own hX rfl 0 hL rfl rfl rfl rfl ?_; clear hL; intro w hL) | (refine StReq.own hX rfl 1 hL rfl rfl rfl rfl ?_; clear hL; intro w hL) | (refine StReq.own hX rfl 2 hL rfl rfl rfl rfl ?_; clear hL; intro w hL) | (refine StReq.own hX rfl 3 hL rfl rfl rfl rfl ?_; clear hL; intro w hL) | (refine StReq.own hX rfl 4 hL rfl rfl rfl rfl ?_; clear hL; intro w hL) | (refine StReq.own hX rfl 5 hL rfl rfl rfl rfl ?_; clear hL; intro w hL) | (refine StReq.own hX rfl 6 hL rfl rfl rfl rfl ?_; clear hL; intro w hL) | refine ArReq.i64 (by omega) (by omega) ?_ | refine SeqReq.go hX ?_ | refine OptReq.mk rfl ?_); conv => whnf)
      refine BrReq.dec (fun h => absurd rfl h) (fun _ => ?_)
      conv => whnf
      repeat ((first | refine QLdReq.own1 hX rfl rfl 0 rfl rfl ?_ | refine QLdReq.own1 hX rfl rfl 1 rfl rfl ?_ | refine QLdReq.own1 hX rfl rfl 2 rfl rfl ?_ | refine QLdReq.own1 hX rfl rfl 3 rfl rfl ?_ | refine QLdReq.ownA hX rfl rfl 0 rfl rfl ?_ | refine QLdReq.ownA hX rfl rfl 1 rfl rfl ?_ | refine QLdReq.ownA hX rfl rfl 2 rfl rfl ?_ | refine QLdReq.ownA hX rfl rfl 3 rfl rfl ?_ | refine AltReq.one ?_ | refine BrReq.tt ?_ | refine BrReq.ff ?_ | refine LdReq.own1 hX rfl rfl 0 hL rfl rfl ?_ | refine LdReq.own1 hX rfl rfl 1 hL rfl rfl ?_ | refine LdReq.own1 hX rfl rfl 2 hL rfl rfl ?_ | refine LdReq.own1 hX rfl rfl 3 hL rfl rfl ?_ | refine LdReq.own1 hX rfl rfl 4 hL rfl rfl ?_ | refine LdReq.own1 hX rfl rfl 5 hL rfl rfl ?_ | refine LdReq.own1 hX rfl rfl 6 hL rfl rfl ?_ | refine LdReq.ownA hX rfl rfl 0 hL rfl rfl ?_ | refine LdReq.ownA hX rfl rfl 1 hL rfl rfl ?_ | refine LdReq.ownA hX rfl rfl 2 hL rfl rfl ?_ | refine LdReq.ownA hX rfl rfl 3 hL rfl rfl ?_ | refine LdReq.ownA hX rfl rfl 4 hL rfl rfl ?_ | refine LdReq.ownA hX rfl rfl 5 hL rfl rfl ?_ | refine LdReq.ownA hX rfl rfl 6 hL rfl rfl ?_ | (refine StReq.own hX rfl 0 hL rfl rfl rfl rfl ?_; clear hL; intro w hL) | (refine StReq.own hX rfl 1 hL rfl rfl rfl rfl ?_; clear hL; intro w hL) | (refine StReq.own hX rfl 2 hL rfl rfl rfl rfl ?_; clear hL; intro w hL) | (refine StReq.own hX rfl 3 hL rfl rfl rfl rfl ?_; clear hL; intro w hL) | (refine StReq.own hX rfl 4 hL rfl rfl rfl rfl ?_; clear hL; intro w hL) | (refine StReq.own hX rfl 5 hL rfl rfl rfl rfl ?_; clear hL; intro w hL) | (refine StReq.own hX rfl 6 hL rfl rfl rfl rfl ?_; clear hL; intro w hL) | refine ArReq.i64 (by omega) (by omega) ?_ | refine SeqReq.go hX ?_ | refine OptReq.mk rfl ?_); conv => whnf)
      refine CallReq.val (Index_fn m4 _ W r' _ hsp hr') hL ?_
      clear hL
      intro w hL
      rw [good_index hWg hx (hbr.trans hgood.2.1)]
      conv => whnf
      repeat ((first | refine SReq.mk hL ?_ | refine QLdReq.own1 hX rfl rfl 0 rfl rfl ?_ | refine QLdReq.own1 hX rfl rfl 1 rfl rfl ?_ | refine QLdReq.own1 hX rfl rfl 2 rfl rfl ?_ | refine QLdReq.own1 hX rfl rfl 3 rfl rfl ?_ | refine QLdReq.ownA hX rfl rfl 0 rfl rfl ?_ | refine QLdReq.ownA hX rfl rfl 1 rfl rfl ?_ | refine QLdReq.ownA hX rfl rfl 2 rfl rfl ?_ | refine QLdReq.ownA hX rfl rfl 3 rfl rfl ?_ | refine AltReq.one ?_ | refine BrReq.tt ?_ | refine BrReq.ff ?_ | refine LdReq.own1 hX rfl rfl 0 hL rfl rfl ?_ | refine LdReq.own1 hX rfl rfl 1 hL rfl rfl ?_ | refine LdReq.own1 hX rfl rfl 2 hL rfl rfl ?_ | refine LdReq.own1 hX rfl rfl 3 hL rfl rfl ?_ | refine LdReq.own1 hX rfl rfl 4 hL rfl rfl ?_ | refine LdReq.own1 hX rfl rfl 5 hL rfl rfl ?_ | refine LdReq.own1 hX rfl rfl 6 hL rfl rfl ?_ | refine LdReq.ownA hX rfl rfl 0 hL rfl rfl ?_ | refine LdReq.ownA hX rfl rfl 1 hL rfl rfl ?_ | refine LdReq.ownA hX rfl rfl 2 hL rfl rfl ?_ | refine LdReq.ownA hX rfl rfl 3 hL rfl rfl ?_ | refine LdReq.ownA hX rfl rfl 4 hL rfl rfl ?_ | refine LdReq.ownA hX rfl rfl 5 hL rfl rfl ?_ | refine LdReq.ownA hX rfl rfl 6 hL rfl rfl ?_ | (refine StReq.own hX rfl 0 hL rfl rfl rfl rfl ?_; clear hL; intro w hL) | (refine StReq.own hX rfl 1 hL rfl rfl rfl rfl ?_; clear hL; intro w hL) | (refine StReq.own hX rfl 2 hL rfl rfl rfl rfl ?_; clear hL; intro w hL) | (refine StReq.own hX rfl 3 hL rfl rfl rfl rfl ?_; clear hL; intro w hL) | (refine StReq.own hX rfl 4 hL rfl rfl rfl rfl ?_; clear hL; intro w hL) | (refine StReq.own hX rfl 5 hL rfl rfl rfl rfl ?_; clear hL; intro w hL) | (refine StReq.own hX rfl 6 hL rfl rfl rfl rfl ?_; clear hL; intro w hL) | refine ArReq.i64 (by omega) (by omega) ?_ | refine SeqReq.go hX ?_ | refine OptReq.mk rfl ?_); conv => whnf)
      refine BrReq.dec (fun h => absurd rfl h) (fun _ => ?_)
      conv => whnf
      repeat ((first | refine BrReq.tt ?_ | refine BrReq.ff ?_ | refine LdReq.own1 hX rfl rfl 0 hL rfl rfl ?_ | refine LdReq.own1 hX rfl rfl 1 hL rfl rfl ?_ | refine LdReq.own1 hX rfl rfl 2 hL rfl rfl ?_ | refine LdReq.own1 hX rfl rfl 3 hL rfl rfl ?_ | refine LdReq.own1 hX rfl rfl 4 hL rfl rfl ?_ | refine LdReq.own1 hX rfl rfl 5 hL rfl rfl ?_ | refine LdReq.own1 hX rfl rfl 6 hL rfl rfl ?_ | refine LdReq.ownA hX rfl rfl 0 hL rfl rfl ?_ | refine LdReq.ownA hX rfl rfl 1 hL rfl rfl ?_ | refine LdReq.ownA hX rfl rfl 2 hL rfl rfl ?_ | refine LdReq.ownA hX rfl rfl 3 hL rfl rfl ?_ | refine LdReq.ownA hX rfl rfl 4 hL rfl rfl ?_ | refine LdReq.ownA hX rfl rfl 5 hL rfl rfl ?_ | refine LdReq.ownA hX rfl rfl 6 hL rfl rfl ?_ | (refine StReq.own hX rfl 0 hL rfl rfl rfl rfl ?_; clear hL; intro w hL) | (refine StReq.own hX rfl 1 hL rfl rfl rfl rfl ?_; clear hL; intro w hL) | (refine StReq.own hX rfl 2 hL rfl rfl rfl rfl ?_; clear hL; intro w hL) | (refine StReq.own hX rfl 3 hL rfl rfl rfl rfl ?_; clear hL; intro w hL) | (refine StReq.own hX rfl 4 hL rfl rfl rfl rfl ?_; clear hL; intro w hL) | (refine StReq.own hX rfl 5 hL rfl rfl rfl rfl ?_; clear hL; intro w hL) | (refine StReq.own hX rfl 6 hL rfl rfl rfl rfl ?_; clear hL; intro w hL) | refine ArReq.i64 (by omega) (by omega) ?_ | refine SeqReq.go hX ?_ | refine OptReq.mk rfl ?_); conv => whnf)
      refine ⟨i + 1, ⟨by omega, hL.drop⟩, by omega, ?_, ?_⟩
      · repeat (first | exact trivial | (refine And.intro (by (conv => lhs; whnf) <;> (conv => rhs; whnf) <;> (first | rfl)) ?_))
      · repeat (first | exact trivial | (refine And.intro (by (conv => lhs; whnf) <;> (conv => rhs; whnf) <;> (first | rfl)) ?_))
    · conv => whnf
      repeat ((first | refine BrReq.tt ?_ | refine BrReq.ff ?_ | refine LdReq.own1 hX rfl rfl 0 hL rfl rfl ?_ | refine LdReq.own1 hX rfl rfl 1 hL rfl rfl ?_ | refine LdReq.own1 hX rfl rfl 2 hL rfl rfl ?_ | refine LdReq.own1 hX rfl rfl 3 hL rfl rfl ?_ | refine LdReq.own1 hX rfl rfl 4 hL rfl rfl ?_ | refine LdReq.own1 hX rfl rfl 5 hL rfl rfl ?_ | refine LdReq.own1 hX rfl rfl 6 hL rfl rfl ?_ | refine LdReq.ownA hX rfl rfl 0 hL rfl rfl ?_ | refine LdReq.ownA hX rfl rfl 1 hL rfl rfl ?_ | refine LdReq.ownA hX rfl rfl 2 hL rfl rfl ?_ | refine LdReq.ownA hX rfl rfl 3 hL rfl rfl ?_ | refine LdReq.ownA hX rfl rfl 4 hL rfl rfl ?_ | refine LdReq.ownA hX rfl rfl 5 hL rfl rfl ?_ | refine LdReq.ownA hX rfl rfl 6 hL rfl rfl ?_ | (refine StReq.own hX rfl 0 hL rfl rfl rfl rfl ?_; clear hL; intro w hL) | (refine StReq.own hX rfl 1 hL rfl rfl rfl rfl ?_; clear hL; intro w hL) | (refine StReq.own hX rfl 2 hL rfl rfl rfl rfl ?_; clear hL; intro w hL) | (refine StReq.own hX rfl 3 hL rfl rfl rfl rfl ?_; clear hL; intro w hL) | (refine StReq.own hX rfl 4 hL rfl rfl rfl rfl ?_; clear hL; intro w hL) | (refine StReq.own hX rfl 5 hL rfl rfl rfl rfl ?_; clear hL; intro w hL) | (refine StReq.own hX rfl 6 hL rfl rfl rfl rfl ?_; clear hL; intro w hL) | refine ArReq.i64 (by omega) (by omega) ?_ | refine SeqReq.go hX ?_ | refine OptReq.mk rfl ?_); conv => whnf)
      have hL : Ev.Loc m [] w0 m4 [(b9, .cells (toArr (reC k1 u0 u1 u2 u3 (.slice A1 n1 c1) lo1 hi1 (decide (k1 = 9)))) 27 (0, 0)), (b3, .cells (toArr [.slice (some b) np cp]) 45 (0, 0))] w := hL
      obtain ⟨r', hr', hbr⟩ := neg_rep (decide (k1 = 9)) hrep
      refine DrawReq.plan hX (.fst 0 (.fst 1 (.fst 2 (.fst 3 (.fst 4 (.fst 5 (.fst 6 (.fst 7 (.fst 8 (.alt 9 (.fst 10 (.fst 11 (.fst 12 (.fst 13 (.fst 14 (.fst 15 (.fst 16 (.fst 18 (.alt 17 (.fst 19 (.fst 20 (.fst 21 (.fst 22 (.fst 23 (.fst 25 (.alt 24 (.fst 26 (.fst 27 (.done))) (.stop)))))))) (.stop)))))))))) (.stop))))))))))) _ (by kernel_rfl) (by kernel_rfl) hL id ?_
      clear hL
      intro w hL
      conv => whnf
      repeat ((first | (refine Idx2Req.mk i _ rfl (by (try simp only at hlt3 ⊢); omega) rfl ?_) | refine QLdReq.agg hX rfl rfl hl9 hcells ?_ | refine QLdReq.agg hX rfl rfl hl9b hcellsb ?_ | refine QLdReq.own1 hX rfl rfl 0 rfl rfl ?_ | refine QLdReq.own1 hX rfl rfl 1 rfl rfl ?_ | refine QLdReq.own1 hX rfl rfl 2 rfl rfl ?_ | refine QLdReq.own1 hX rfl rfl 3 rfl rfl ?_ | refine QLdReq.ownA hX rfl rfl 0 rfl rfl ?_ | refine QLdReq.ownA hX rfl rfl 1 rfl rfl ?_ | refine QLdReq.ownA hX rfl rfl 2 rfl rfl ?_ | refine QLdReq.ownA hX rfl rfl 3 rfl rfl ?_ | refine AltReq.one ?_ | refine BrReq.tt ?_ | refine BrReq.ff ?_ | refine LdReq.own1 hX rfl rfl 0 hL rfl rfl ?_ | refine LdReq.own1 hX rfl rfl 1 hL rfl rfl ?_ | refine LdReq.own1 hX rfl rfl 2 hL rfl rfl ?_ | refine LdReq.own1 hX rfl rfl 3 hL rfl rfl ?_ | refine LdReq.own1 hX rfl rfl 4 hL rfl rfl ?_ | refine LdReq.own1 hX rfl rfl 5 hL rfl rfl ?_ | refine LdReq.own1 hX rfl rfl 6 hL rfl rfl ?_ | refine LdReq.ownA hX rfl rfl 0 hL rfl rfl ?_ | refine LdReq.ownA hX rfl rfl 1 hL rfl rfl ?_ | refine LdReq.ownA hX rfl rfl 2 hL rfl rfl ?_ | refine LdReq.ownA hX rfl rfl 3 hL rfl rfl ?_ | refine LdReq.ownA hX rfl rfl 4 hL rfl rfl ?_ | refine LdReq.ownA hX rfl rfl 5 hL rfl rfl ?_ | refine LdReq.ownA hX rfl rfl 6 hL rfl rfl ?_ | (refine StReq.own hX rfl 0 hL rfl rfl rfl rfl ?_; clear hL; intro w hL) | (refine StReq.own hX rfl 1 hL rfl rfl rfl rfl ?_; clear hL; intro w hL) | (refine StReq.own hX rfl 2 hL rfl rfl rfl rfl ?_; clear hL; intro w hL) | (refine StReq.own hX rfl 3 hL rfl rfl rfl rfl ?_; clear hL; intro w hL) | (refine StReq.own hX rfl 4 hL rfl rfl rfl rfl ?_; clear hL; intro w hL) | (refine StReq.own hX rfl 5 hL rfl rfl rfl rfl ?_; clear hL; intro w hL) | (refine StReq.own hX rfl 6 hL rfl rfl rfl rfl ?_; clear hL; intro w hL) | refine ArReq.i64 (by omega) (by omega) ?_ | refine SeqReq.go hX ?_ | refine OptReq.mk rfl ?_); conv => whnf)
      refine CallReq.val (refSame_fn 41 m4 _ _ _ _ hrepb hrep (by omega)) hL ?_
      clear hL
      intro w hL
      rw [sameR_refl 40 _ hgood.2.2]
      conv => whnf
      repeat ((first | refine SReq.mk hL ?_ | (refine Idx2Req.mk i _ rfl (by (try simp only at hlt3 ⊢); omega) rfl ?_) | refine QLdReq.agg hX rfl rfl hl9 hcells ?_ | refine QLdReq.own1 hX rfl rfl 0 rfl rfl ?_ | refine QLdReq.own1 hX rfl rfl 1 rfl rfl ?_ | refine QLdReq.own1 hX rfl rfl 2 rfl rfl ?_ | refine QLdReq.own1 hX rfl rfl 3 rfl rfl ?_ | refine QLdReq.ownA hX rfl rfl 0 rfl rfl ?_ | refine QLdReq.ownA hX rfl rfl 1 rfl rfl ?_ | refine QLdReq.ownA hX rfl rfl 2 rfl rfl ?_ | refine QLdReq.ownA hX rfl rfl 3 rfl rfl ?_ | refine AltReq.one ?_ | refine BrReq.tt ?_ | refine BrReq.ff ?_ | refine LdReq.own1 hX rfl rfl 0 hL rfl rfl ?_ | refine LdReq.own1 hX rfl rfl 1 hL rfl rfl ?_ | refine LdReq.own1 hX rfl rfl 2 hL rfl rfl ?_ | refine LdReq.own1 hX rfl rfl 3 hL rfl rfl ?_ | refine LdReq.own1 hX rfl rfl 4 hL rfl rfl ?_ | refine LdReq.own1 hX rfl rfl 5 hL rfl rfl ?_ | refine LdReq.own1 hX rfl rfl 6 hL rfl rfl ?_ | refine LdReq.ownA hX rfl rfl 0 hL rfl rfl ?_ | refine LdReq.ownA hX rfl rfl 1 hL rfl rfl ?_ | refine LdReq.ownA hX rfl rfl 2 hL rfl rfl ?_ | refine LdReq.ownA hX rfl rfl 3 hL rfl rfl ?_ | refine LdReq.ownA hX rfl rfl 4 hL rfl rfl ?_ | refine LdReq.ownA hX rfl rfl 5 hL rfl rfl ?_ | refine LdReq.ownA hX rfl rfl 6 hL rfl rfl ?_ | (refine StReq.own hX rfl 0 hL rfl rfl rfl rfl ?_; clear hL; intro w hL) | (refine StReq.own hX rfl 1 hL rfl rfl rfl rfl ?_; clear hL; intro w hL) | (refine StReq.own hX rfl 2 hL rfl rfl rfl rfl ?_; clear hL; intro w hL) | (refine StReq.own hX rfl 3 hL rfl rfl rfl rfl ?_; clear hL; intro w hL) | (refine StReq.own hX rfl 4 hL rfl rfl rfl rfl ?_; clear hL; intro w hL) | (refine StReq.own hX rfl 5 hL rfl rfl rfl rfl ?_; clear hL; intro w hL) | (refine StReq.own hX rfl 6 hL rfl rfl rfl rfl ?_; clear hL; intro w hL) | refine ArReq.i64 (by omega) (by omega) ?_ | refine SeqReq.go hX ?_ | refine OptReq.mk rfl ?_); conv => whnf)
      refine CallReq.val (Index_fn m4 _ W _ _ hsp hrep) hL ?_
      clear hL
      intro w hL
      rw [good_index hWg hx hgood.2.1]
      conv => whnf
      repeat ((first | refine SReq.mk hL ?_ | refine QLdReq.own1 hX rfl rfl 0 rfl rfl ?_ | refine QLdReq.own1 hX rfl rfl 1 rfl rfl ?_ | refine QLdReq.own1 hX rfl rfl 2 rfl rfl ?_ | refine QLdReq.own1 hX rfl rfl 3 rfl rfl ?_ | refine QLdReq.ownA hX rfl rfl 0 rfl rfl ?_ | refine QLdReq.ownA hX rfl rfl 1 rfl rfl ?_ | refine QLdReq.ownA hX rfl rfl 2 rfl rfl ?_ | refine QLdReq.ownA hX rfl rfl 3 rfl rfl ?_ | refine AltReq.one ?_ | refine BrReq.tt ?_ | refine BrReq.ff ?_ | refine LdReq.own1 hX rfl rfl 0 hL rfl rfl ?_ | refine LdReq.own1 hX rfl rfl 1 hL rfl rfl ?_ | refine LdReq.own1 hX rfl rfl 2 hL rfl rfl ?_ | refine LdReq.own1 hX rfl rfl 3 hL rfl rfl ?_ | refine LdReq.own1 hX rfl rfl 4 hL rfl rfl ?_ | refine LdReq.own1 hX rfl rfl 5 hL rfl rfl ?_ | refine LdReq.own1 hX rfl rfl 6 hL rfl rfl ?_ | refine LdReq.ownA hX rfl rfl 0 hL rfl rfl ?_ | refine LdReq.ownA hX rfl rfl 1 hL rfl rfl ?_ | refine LdReq.ownA hX rfl rfl 2 hL rfl rfl ?_ | refine LdReq.ownA hX rfl rfl 3 hL rfl rfl ?_ | refine LdReq.ownA hX rfl rfl 4 hL rfl rfl ?_ | refine LdReq.ownA hX rfl rfl 5 hL rfl rfl ?_ | refine LdReq.ownA hX rfl rfl 6 hL rfl rfl ?_ | (refine StReq.own hX rfl 0 hL rfl rfl rfl rfl ?_; clear hL; intro w hL) | (refine StReq.own hX rfl 1 hL rfl rfl rfl rfl ?_; clear hL; intro w hL) | (refine StReq.own hX rfl 2 hL rfl rfl rfl rfl ?_; clear hL; intro w hL) | (refine StReq.own hX rfl 3 hL rfl rfl rfl rfl ?_; clear hL; intro w hL) | (refine StReq.own hX rfl 4 hL rfl rfl rfl rfl ?_; clear hL; intro w hL) | (refine StReq.own hX rfl 5 hL rfl rfl rfl rfl ?_; clear hL; intro w hL) | (refine StReq.own hX rfl 6 hL rfl rfl rfl rfl ?_; clear hL; intro w hL) | refine ArReq.i64 (by omega) (by omega) ?_ | refine SeqReq.go hX ?_ | refine OptReq.mk rfl ?_); conv => whnf)
      refine BrReq.dec (fun h => absurd rfl h) (fun _ => ?_)
      conv => whnf
      repeat ((first | refine QLdReq.own1 hX rfl rfl 0 rfl rfl ?_ | refine QLdReq.own1 hX rfl rfl 1 rfl rfl ?_ | refine QLdReq.own1 hX rfl rfl 2 rfl rfl ?_ | refine QLdReq.own1 hX rfl rfl 3 rfl rfl ?_ | refine QLdReq.ownA hX rfl rfl 0 rfl rfl ?_ | refine QLdReq.ownA hX rfl rfl 1 rfl rfl ?_ | refine QLdReq.ownA hX rfl rfl 2 rfl rfl ?_ | refine QLdReq.ownA hX rfl rfl 3 rfl rfl ?_ | refine AltReq.one ?_ | refine BrReq.tt ?_ | refine BrReq.ff ?_ | refine LdReq.own1 hX rfl rfl 0 hL rfl rfl ?_ | refine LdReq.own1 hX rfl rfl 1 hL rfl rfl ?_ | refine LdReq.own1 hX rfl rfl 2 hL rfl rfl ?_ | refine LdReq.own1 hX rfl rfl 3 hL rfl rfl ?_ | refine LdReq.own1 hX rfl rfl 4 hL rfl rfl ?_ | refine LdReq.own1 hX rfl rfl 5 hL rfl rfl ?_ | refine LdReq.own1 hX rfl rfl 6 hL rfl rfl ?_ | refine LdReq.ownA hX rfl rfl 0 hL rfl rfl ?_ | refine LdReq.ownA hX rfl rfl 1 hL rfl rfl ?_ | refine LdReq.ownA hX rfl rfl 2 hL rfl rfl ?_ | refine LdReq.ownA hX rfl rfl 3 hL rfl rfl ?_ | refine LdReq.ownA hX rfl rfl 4 hL rfl rfl ?_ | refine LdReq.ownA hX rfl rfl 5 hL rfl rfl ?_ | refine LdReq.ownA hX rfl rfl 6 hL rfl rfl ?_ | (refine StReq.own hX rfl 0 hL rfl rfl rfl rfl ?_; clear hL; intro w hL) | (refine StReq.own hX rfl 1 hL rfl rfl rfl rfl ?_; clear hL; intro w hL) | (refine StReq.own hX rfl 2 hL rfl rfl rfl rfl ?_; clear hL; intro w hL) | (refine StReq.own hX rfl 3 hL rfl rfl rfl rfl ?_; clear hL; intro w hL) | (refine StReq.own hX rfl 4 hL rfl rfl rfl rfl ?_; clear hL; intro w hL) | (refine StReq.own hX rfl 5 hL rfl rfl rfl rfl ?_; clear hL; intro w hL) | (refine StReq.own hX rfl 6 hL rfl rfl rfl rfl ?_; clear hL; intro w hL) | refine ArReq.i64 (by omega) (by omega) ?_ | refine SeqReq.go hX ?_ | refine OptReq.mk rfl ?_); conv => whnf)
      refine CallReq.val (Index_fn m4 _ W r' _ hsp hr') hL ?_
      clear hL
      intro w hL
      rw [good_index hWg hx (hbr.trans hgood.2.1)]
      conv => whnf
      repeat ((first | refine SReq.mk hL ?_ | refine QLdReq.own1 hX rfl rfl 0 rfl rfl ?_ | refine QLdReq.own1 hX rfl rfl 1 rfl rfl ?_ | refine QLdReq.own1 hX rfl rfl 2 rfl rfl ?_ | refine QLdReq.own1 hX rfl rfl 3 rfl rfl ?_ | refine QLdReq.ownA hX rfl rfl 0 rfl rfl ?_ | refine QLdReq.ownA hX rfl rfl 1 rfl rfl ?_ | refine QLdReq.ownA hX rfl rfl 2 rfl rfl ?_ | refine QLdReq.ownA hX rfl rfl 3 rfl rfl ?_ | refine AltReq.one ?_ | refine BrReq.tt ?_ | refine BrReq.ff ?_ | refine LdReq.own1 hX rfl rfl 0 hL rfl rfl ?_ | refine LdReq.own1 hX rfl rfl 1 hL rfl rfl ?_ | refine LdReq.own1 hX rfl rfl 2 hL rfl rfl ?_ | refine LdReq.own1 hX rfl rfl 3 hL rfl rfl ?_ | refine LdReq.own1 hX rfl rfl 4 hL rfl rfl ?_ | refine LdReq.own1 hX rfl rfl 5 hL rfl rfl ?_ | refine LdReq.own1 hX rfl rfl 6 hL rfl rfl ?_ | refine LdReq.ownA hX rfl rfl 0 hL rfl rfl ?_ | refine LdReq.ownA hX rfl rfl 1 hL rfl rfl ?_ | refine LdReq.ownA hX rfl rfl 2 hL rfl rfl ?_ | refine LdReq.ownA hX rfl rfl 3 hL rfl rfl ?_ | refine LdReq.ownA hX rfl rfl 4 hL rfl rfl ?_ | refine LdReq.ownA hX rfl rfl 5 hL rfl rfl ?_ | refine LdReq.ownA hX rfl rfl 6 hL rfl rfl ?_ | (refine StReq.own hX rfl 0 hL rfl rfl rfl rfl ?_; clear hL; intro w hL) | (refine StReq.own hX rfl 1 hL rfl rfl rfl rfl ?_; clear hL; intro w hL) | (refine StReq.own hX rfl 2 hL rfl rfl rfl rfl ?_; clear hL; intro w hL) | (refine StReq.own hX rfl 3 hL rfl rfl rfl rfl ?_; clear hL; intro w hL) | (refine StReq.own hX rfl 4 hL rfl rfl rfl rfl ?_; clear hL; intro w hL) | (refine StReq.own hX rfl 5 hL rfl rfl rfl rfl ?_; clear hL; intro w hL) | (refine StReq.own hX rfl 6 hL rfl rfl rfl rfl ?_; clear hL; intro w hL) | refine ArReq.i64 (by omega) (by omega) ?_ | refine SeqReq.go hX ?_ | refine OptReq.mk rfl ?_); conv => whnf)
      refine BrReq.dec (fun h => absurd rfl h) (fun _ => ?_)
      conv => whnf
      repeat ((first | refine BrReq.tt ?_ | refine BrReq.ff ?_ | refine LdReq.own1 hX rfl rfl 0 hL rfl rfl ?_ | refine LdReq.own1 hX rfl rfl 1 hL rfl rfl ?_ | refine LdReq.own1 hX rfl rfl 2 hL rfl rfl ?_ | refine LdReq.own1 hX rfl rfl 3 hL rfl rfl ?_ | refine LdReq.own1 hX rfl rfl 4 hL rfl rfl ?_ | refine LdReq.own1 hX rfl rfl 5 hL rfl rfl ?_ | refine LdReq.own1 hX rfl rfl 6 hL rfl rfl ?_ | refine LdReq.ownA hX rfl rfl 0 hL rfl rfl ?_ | refine LdReq.ownA hX rfl rfl 1 hL rfl rfl ?_ | refine LdReq.ownA hX rfl rfl 2 hL rfl rfl ?_ | refine LdReq.ownA hX rfl rfl 3 hL rfl rfl ?_ | refine LdReq.ownA hX rfl rfl 4 hL rfl rfl ?_ | refine LdReq.ownA hX rfl rfl 5 hL rfl rfl ?_ | refine LdReq.ownA hX rfl rfl 6 hL rfl rfl ?_ | (refine StReq.own hX rfl 0 hL rfl rfl rfl rfl ?_; clear hL; intro w hL) | (refine StReq.own hX rfl 1 hL rfl rfl rfl rfl ?_; clear hL; intro w hL) | (refine StReq.own hX rfl 2 hL rfl rfl rfl rfl ?_; clear hL; intro w hL) | (refine StReq.own hX rfl 3 hL rfl rfl rfl rfl ?_; clear hL; intro w hL) | (refine StReq.own hX rfl 4 hL rfl rfl rfl rfl ?_; clear hL; intro w hL) | (refine StReq.own hX rfl 5 hL rfl rfl rfl rfl ?_; clear hL; intro w hL) | (refine StReq.own hX rfl 6 hL rfl rfl rfl rfl ?_; clear hL; intro w hL) | refine ArReq.i64 (by omega) (by omega) ?_ | refine SeqReq.go hX ?_ | refine OptReq.mk rfl ?_); conv => whnf)
      refine ⟨i + 1, ⟨by omega, hL.drop⟩, by omega, ?_, ?_⟩
      · repeat (first | exact trivial | (refine And.intro (by (conv => lhs; whnf) <;> (conv => rhs; whnf) <;> (first | rfl)) ?_))
      · repeat (first | exact trivial | (refine And.intro (by (conv => lhs; whnf) <;> (conv => rhs; whnf) <;> (first | rfl)) ?_))
  · conv => whnf
    repeat ((first | refine BrReq.tt ?_ | refine BrReq.ff ?_ | refine LdReq.own1 hX rfl rfl 0 hL rfl rfl ?_ | refine LdReq.own1 hX rfl rfl 1 hL rfl rfl ?_ | refine LdReq.own1 hX rfl rfl 2 hL rfl rfl ?_ | refine LdReq.own1 hX rfl rfl 3 hL rfl rfl ?_ | refine LdReq.own1 hX rfl rfl 4 hL rfl rfl ?_ | refine LdReq.own1 hX rfl rfl 5 hL rfl rfl ?_ | refine LdReq.own1 hX rfl rfl 6 hL rfl rfl ?_ | refine LdReq.ownA hX rfl rfl 0 hL rfl rfl ?_ | refine LdReq.ownA hX rfl rfl 1 hL rfl rfl ?_ | refine LdReq.ownA hX rfl rfl 2 hL rfl rfl ?_ | refine LdReq.ownA hX rfl rfl 3 hL rfl rfl ?_ | refine LdReq.ownA hX rfl rfl 4 hL rfl rfl ?_ | refine LdReq.ownA hX rfl rfl 5 hL rfl rfl ?_ | refine LdReq.ownA hX rfl rfl 6 hL rfl rfl ?_ | (refine StReq.own hX rfl 0 hL rfl rfl rfl rfl ?_; clear hL; intro w hL) | (refine StReq.own hX rfl 1 hL rfl rfl rfl rfl ?_; clear hL; intro w hL) | (refine StReq.own hX rfl 2 hL rfl rfl rfl rfl ?_; clear hL; intro w hL) | (refine StReq.own hX rfl 3 hL rfl rfl rfl rfl ?_; clear hL; intro w hL) | (refine StReq.own hX rfl 4 hL rfl rfl rfl rfl ?_; clear hL; intro w hL) | (refine StReq.own hX rfl 5 hL rfl rfl rfl rfl ?_; clear hL; intro w hL) | (refine StReq.own hX rfl 6 hL rfl rfl rfl rfl ?_; clear hL; intro w hL) | refine ArReq.i64 (by omega) (by omega) ?_ | refine SeqReq.go hX ?_ | refine OptReq.mk rfl ?_); conv => whnf)
    refine CallReq.val (Index_fn m4 _ W (leafR 1) _ hsp (leaf_rep m4 1 (by simp [inI]))) hL ?_
    clear hL
    intro w hL
    rw [good_none hWg]
    conv => whnf
    repeat ((first | refine BrReq.tt ?_ | refine BrReq.ff ?_ | refine LdReq.own1 hX rfl rfl 0 hL rfl rfl ?_ | refine LdReq.own1 hX rfl rfl 1 hL rfl rfl ?_ | refine LdReq.own1 hX rfl rfl 2 hL rfl rfl ?_ | refine LdReq.own1 hX rfl rfl 3 hL rfl rfl ?_ | refine LdReq.own1 hX rfl rfl 4 hL rfl rfl ?_ | refine LdReq.own1 hX rfl rfl 5 hL rfl rfl ?_ | refine LdReq.own1 hX rfl rfl 6 hL rfl rfl ?_ | refine LdReq.ownA hX rfl rfl 0 hL rfl rfl ?_ | refine LdReq.ownA hX rfl rfl 1 hL rfl rfl ?_ | refine LdReq.ownA hX rfl rfl 2 hL rfl rfl ?_ | refine LdReq.ownA hX rfl rfl 3 hL rfl rfl ?_ | refine LdReq.ownA hX rfl rfl 4 hL rfl rfl ?_ | refine LdReq.ownA hX rfl rfl 5 hL rfl rfl ?_ | refine LdReq.ownA hX rfl rfl 6 hL rfl rfl ?_ | (refine StReq.own hX rfl 0 hL rfl rfl rfl rfl ?_; clear hL; intro w hL) | (refine StReq.own hX rfl 1 hL rfl rfl rfl rfl ?_; clear hL; intro w hL) | (refine StReq.own hX rfl 2 hL rfl rfl rfl rfl ?_; clear hL; intro w hL) | (refine StReq.own hX rfl 3 hL rfl rfl rfl rfl ?_; clear hL; intro w hL) | (refine StReq.own hX rfl 4 hL rfl rfl rfl rfl ?_; clear hL; intro w hL) | (refine StReq.own hX rfl 5 hL rfl rfl rfl rfl ?_; clear hL; intro w hL) | (refine StReq.own hX rfl 6 hL rfl rfl rfl rfl ?_; clear hL; intro w hL) | refine ArReq.i64 (by omega) (by omega) ?_ | refine SeqReq.go hX ?_ | refine OptReq.mk rfl ?_); conv => whnf)
    exact RetReq.mk hL.drop ⟨rfl, rfl⟩

theorem contract (m : Mem) (vs : List Value) (hl : vs.length = Try.f6.params.size) (hg : ∀ (j : Nat) t v, Try.f6.params.toList[j]? = some t → vs[j]? = some v → Given X m t v) :
    Ev.Fn Try.prog 6 vs m [] fun _ _ v => v = .bool true := by
  match vs, hl with
  | [vl], _ =>
    obtain ⟨l, h1, _⟩ := (hg 0 25 vl rfl rfl).slice (R := RepRe m) rfl rfl rfl (fun n cs _ h => re_of n cs h)
    exact (walk m vl l h1).mono fun _ _ _ _ h => h.2

theorem spec (H : Type) (ds : List (DataW H)) (h : ds.length = Try.f6.params.size) : Rows.looksFoundSpec.fn H ds = { results := [.lit (.bool true)], args := ds } := by
  match ds, h with
  | [_], _ => rfl

set_option maxRecDepth 100000 in
theorem lifted (os : Os) (started : os.Started) (H : Type) (enc : TypeId × Value → H) :
    ReturnsInHanded {} Try.checked os 6 .any (Rows.looksFoundSpec.pre6 enc Try.prog Try.f6 Rows.looksFoundRow.domain false) (Rows.looksFoundSpec.post enc Try.prog Try.f6 false true false false) := by
  refine returnsInHanded_of_change_sized (C := Try.checked) (by kernel_rfl) started (by kernel_rfl) Try.func6
    (ChangeSpec.witness6 (enc := enc) (C := Try.checked) false ⟨#[], #[.slice none 0 0], []⟩ 8 (by kernel_rfl) (by kernel_rfl) (by kernel_rfl) (by kernel_rfl)) ?_
  intro W base args ds gs before hval hW _ hsz _
  exact law_core hX (by kernel_rfl) rfl rfl Try.underlying4 (by decide +kernel) (fun H ds h => spec H ds h) contract W base args ds gs before hval hW hsz

set_option maxRecDepth 100000 in
theorem proved : Rows.LooksFoundSaid :=
  OpenClaim.holds_of_wide 6 Try.f6 rfl rfl rfl rfl rfl rfl rfl ⟨rfl, rfl, rfl, rfl, rfl⟩ rfl rfl rfl rfl rfl (by kernel_rfl) Try.func6 (by kernel_rfl)
    (of_decide_eq_true (by kernel_rfl)) (by unfold Func.isWrapper; first | (rw [if_pos (by decide +kernel)]; kernel_rfl) | (rw [if_neg (by decide +kernel)]; exact ⟨rfl, rfl⟩))
    (fun os started H enc _ => lifted os started H enc)
end Go.Proofs.Ytmgfcckboncecaa.looksFound
