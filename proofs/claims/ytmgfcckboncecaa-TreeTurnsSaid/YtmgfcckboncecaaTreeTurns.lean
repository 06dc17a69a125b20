/- A pattern that is turned round matches backwards what it matched. Conditions: none. -/
import Derived.Test.YtmgfcckboncecaaTabsTurn
import Derived.Test.YtmgfcckboncecaaTreeAlike
import Derived.Test.YtmgfcckboncecaaRows
import Derived.ProofKit
import Derived.SizedLaws

namespace Go.Proofs.Ytmgfcckboncecaa.treeTurns
open Go Go.Ev Go.Proofs Go.Proofs.Ytmgfcckboncecaa.tree Go.Proofs.Ytmgfcckboncecaa.tabs

theorem turnK_twice (k : Int) : turnK (turnK k) = k := by unfold turnK; split <;> (try split) <;> (try split) <;> (try split) <;> (try split) <;> (try split) <;> (try split) <;> (try split) <;> omega
theorem turnK_parts (k : Int) : partsK (turnK k) = partsK k := by unfold turnK partsK; split <;> (try split) <;> (try split) <;> (try split) <;> (try split) <;> (try split) <;> (try split) <;> omega
theorem turnK_7 (k : Int) : turnK k = 7 ↔ k = 7 := by unfold turnK; split <;> (try split) <;> (try split) <;> (try split) <;> omega

theorem turn_parts (k s0 s1 s2 s3 lo hi : Int) (neg : Bool) (rs : List Re) : (turnR (.mk k s0 s1 s2 s3 rs lo hi neg)).parts.Perm (rs.map turnR) := by
  rw [turnR_eq]; simp only [Re.parts]; split
  · exact List.reverse_perm _
  · exact List.Perm.refl _

theorem turn_turn (r : Re) : turnR (turnR r) = r := by
  induction r using Re.ind with
  | h k s0 s1 s2 s3 rs lo hi neg ih =>
    have e : (rs.map turnR).map turnR = rs := by
      rw [List.map_map]
      exact (List.map_congr_left fun p hp => ih p hp).trans (List.map_id rs)
    rw [turnR_eq, turnR_eq, turnK_twice]
    by_cases k3 : k = 3
    · have : turnK k = 3 := by unfold turnK; rw [if_neg (by omega), if_neg (by omega), if_neg (by omega), if_neg (by omega)]; exact k3
      rw [if_pos k3, if_pos this, List.map_reverse, List.reverse_reverse, e]
    · have : ¬ turnK k = 3 := by unfold turnK; split <;> (try split) <;> (try split) <;> (try split) <;> omega
      rw [if_neg k3, if_neg this, e]

theorem le_foldl_max : ∀ (l : List Nat) (a x : Nat), (x ∈ l ∨ x ≤ a) → x ≤ l.foldl max a := by
  intro l
  induction l with
  | nil => intro a x h; simpa using h
  | cons y l ih =>
    intro a x h
    refine ih _ _ ?_
    rcases h with h | h
    · rcases List.mem_cons.1 h with rfl | h
      · right; omega
      · left; exact h
    · right; omega
theorem foldl_max_same {l l' : List Nat} (h : ∀ x, x ∈ l ↔ x ∈ l') : l.foldl max 0 = l'.foldl max 0 :=
  Nat.le_antisymm (foldl_max_le _ _ (Nat.zero_le _) fun x hx => le_foldl_max _ _ _ (.inl ((h x).1 hx))) (foldl_max_le _ _ (Nat.zero_le _) fun x hx => le_foldl_max _ _ _ (.inl ((h x).2 hx)))

theorem deep_turn : ∀ (k : Nat) (r : Re), deepR k (turnR r) = deepR k r := by
  intro k
  induction k with
  | zero => intro r; rfl
  | succ k ih =>
    intro r
    obtain ⟨kd, s0, s1, s2, s3, rs, lo, hi, neg⟩ := r
    have hp := turn_parts kd s0 s1 s2 s3 lo hi neg rs
    simp only [deepR]
    congr 1
    refine foldl_max_same fun x => ?_
    rw [(hp.map (deepR k)).mem_iff, List.map_map]
    have : (deepR k ∘ turnR) = deepR k := by funext p; exact ih p
    rw [this]; rfl

theorem size_turn (r : Re) : sizeR (turnR r) = sizeR r := by
  induction r using Re.ind with
  | h k s0 s1 s2 s3 rs lo hi neg ih =>
    have hp := turn_parts k s0 s1 s2 s3 lo hi neg rs
    rw [turnR_eq] at hp ⊢
    simp only [Re.parts] at hp
    simp only [sizeR, sizeL_eq]
    have e1 : (List.map sizeR (if k = 3 then (rs.map turnR).reverse else rs.map turnR)).sum = (rs.map sizeR).sum := by
      rw [(hp.map sizeR).sum_nat, List.map_map]
      congr 1
      exact List.map_congr_left fun p hp => ih p hp
    rw [e1]
    unfold capR timesR
    by_cases k7 : k = 7
    · rw [if_pos k7, if_pos ((turnK_7 k).2 k7)]
    · rw [if_neg k7, if_neg (fun h => k7 ((turnK_7 k).1 h))]

theorem own_turn {k s0 s1 s2 s3 lo hi : Int} {n : Nat} {neg : Bool} (h : Own k s0 s1 s2 s3 n lo hi neg) : Own (turnK k) s0 s1 s2 s3 n lo hi neg := by
  obtain ⟨h1, h2, h3, h4, h5, h6⟩ := h
  refine ⟨by unfold turnK; split <;> (try split) <;> (try split) <;> (try split) <;> omega, by rw [turnK_parts]; exact h2, ?_, ?_, ?_, ?_⟩
  · rcases h3 with h3 | h3
    · left; unfold turnK; rw [if_neg (by omega), if_neg (by omega), if_neg (by omega), if_neg (by omega)]; exact h3
    · exact .inr h3
  · intro hn
    rcases h4 hn with h | h
    · right; unfold turnK; rw [if_pos h]
    · left; unfold turnK; rw [if_neg (by omega), if_pos h]
  · intro h; exact h5 ((turnK_7 k).1 h)
  · intro h; exact h6 fun h' => h ((turnK_7 k).2 h')
theorem all_turn (r : Re) : allR r = true → allR (turnR r) = true := by
  induction r using Re.ind with
  | h k s0 s1 s2 s3 rs lo hi neg ih =>
    intro h
    have hp := turn_parts k s0 s1 s2 s3 lo hi neg rs
    simp only [allR, Bool.and_eq_true, decide_eq_true_eq] at h
    obtain ⟨hO, hall⟩ := h
    rw [allL_eq, List.all_eq_true] at hall
    rw [turnR_eq] at hp ⊢
    simp only [Re.parts] at hp
    simp only [allR, Bool.and_eq_true, decide_eq_true_eq]
    constructor
    · have e : (if k = 3 then (rs.map turnR).reverse else rs.map turnR).length = rs.length := by rw [hp.length_eq, List.length_map]
      rw [e]; exact own_turn hO
    · rw [allL_eq, List.all_eq_true]
      intro p hpm
      obtain ⟨q, hq, rfl⟩ := List.mem_map.1 (hp.mem_iff.1 hpm)
      exact ih q hq (hall q hq)
theorem small_turn (r : Re) : Small r → Small (turnR r) := by
  induction r using Re.ind with
  | h k s0 s1 s2 s3 rs lo hi neg ih =>
    intro h
    have hp := turn_parts k s0 s1 s2 s3 lo hi neg rs
    have hsub : rs.length ≤ 2000 ∧ ∀ p ∈ rs, Small p := by cases h; exact ⟨by assumption, by assumption⟩
    rw [turnR_eq] at hp ⊢
    simp only [Re.parts] at hp
    refine .mk _ _ _ _ _ _ _ _ _ (by rw [hp.length_eq, List.length_map]; exact hsub.1) fun p hpm => ?_
    obtain ⟨q, hq, rfl⟩ := List.mem_map.1 (hp.mem_iff.1 hpm)
    exact ih q hq (hsub.2 q hq)
theorem formed_turn (r : Re) (h : formedR r = true) : formedR (turnR r) = true := by
  unfold formedR at *
  simp only [Bool.and_eq_true, decide_eq_true_eq] at *
  exact ⟨⟨by rw [deep_turn]; exact h.1.1, all_turn r h.1.2⟩, by rw [size_turn]; exact h.2⟩

theorem zeros_one (x : Value) : ∀ n, zerosL n [x] = List.replicate n x := by
  intro n
  induction n with
  | zero => rfl
  | succ n ih => rw [List.replicate_succ, ← ih]; rfl

/-- Bytes in the other order. -/
theorem reversed_fn (m : Mem) (wv : Value) (ws : List Int) (hw : SlI m .u8 wv ws) (hl : ws.length ≤ 100) : Fn0 Try.prog 21 [wv] m fun m' u => SlI m' .u8 u ws.reverse := by
  have hmx : maxLen = 9223372036854775807 := rfl
  obtain ⟨W, wn, wc, rfl, hwn, hwc, hwm, hwe⟩ := hw
  have add0 : ∀ x : Addr, x.add 0 = x := fun x => by cases x; rfl
  have hbyte : ∀ (i : Nat) (z : Int), ws[i]? = some z → ∃ a, W = some a ∧ mcell m (a.add (scale i 1)) = some (.int .u8 z) := by
    intro i z hz
    obtain ⟨a, cs, e1, e2, e3, rfl⟩ := hwe i z hz
    have := e3 0 _ rfl
    rw [add0] at this
    exact ⟨a, e1, this⟩
  refine Fn.enter (N := 26) hX Try.func21 rfl rfl (by show _ ≤ _; simp) (fun w0 hL => ?_)
  conv => whnf
  conv => whnf
  repeat (first
    | (refine BrReq.tt ?_; conv => whnf)
    | (refine BrReq.ff ?_; conv => whnf)
    | (refine LdReq.own1 hX rfl rfl 0 hL rfl rfl ?_; conv => whnf)
    | (refine LdReq.own1 hX rfl rfl 1 hL rfl rfl ?_; conv => whnf)
    | (refine LdReq.own1 hX rfl rfl 2 hL rfl rfl ?_; conv => whnf)
    | (refine LdReq.own1 hX rfl rfl 3 hL rfl rfl ?_; conv => whnf)
    | (refine LdReq.own1 hX rfl rfl 4 hL rfl rfl ?_; conv => whnf)
    | (refine LdReq.own1 hX rfl rfl 5 hL rfl rfl ?_; conv => whnf)
    | (refine LdReq.own1 hX rfl rfl 6 hL rfl rfl ?_; conv => whnf)
    | (refine LdReq.ownA hX rfl rfl 0 hL rfl rfl ?_; conv => whnf)
    | (refine LdReq.ownA hX rfl rfl 1 hL rfl rfl ?_; conv => whnf)
    | (refine LdReq.ownA hX rfl rfl 2 hL rfl rfl ?_; conv => whnf)
    | (refine LdReq.ownA hX rfl rfl 3 hL rfl rfl ?_; conv => whnf)
    | (refine LdReq.ownA hX rfl rfl 4 hL rfl rfl ?_; conv => whnf)
    | (refine LdReq.ownA hX rfl rfl 5 hL rfl rfl ?_; conv => whnf)
    | (refine LdReq.ownA hX rfl rfl 6 hL rfl rfl ?_; conv => whnf)
    | (refine StReq.own hX rfl 0 hL rfl rfl rfl rfl ?_; clear hL; intro w hL; conv => whnf)
    | (refine StReq.own hX rfl 1 hL rfl rfl rfl rfl ?_; clear hL; intro w hL; conv => whnf)
    | (refine StReq.own hX rfl 2 hL rfl rfl rfl rfl ?_; clear hL; intro w hL; conv => whnf)
    | (refine StReq.own hX rfl 3 hL rfl rfl rfl rfl ?_; clear hL; intro w hL; conv => whnf)
    | (refine StReq.own hX rfl 4 hL rfl rfl rfl rfl ?_; clear hL; intro w hL; conv => whnf)
    | (refine StReq.own hX rfl 5 hL rfl rfl rfl rfl ?_; clear hL; intro w hL; conv => whnf)
    | (refine StReq.own hX rfl 6 hL rfl rfl rfl rfl ?_; clear hL; intro w hL; conv => whnf)
    | (refine ArReq.i64 (by omega) (by omega) ?_; conv => whnf)
    | (refine SeqReq.go hX ?_; conv => whnf)
    | (refine OptReq.mk rfl ?_; conv => whnf))
  refine RunReq.make hX rfl rfl rfl rfl wn wn rfl rfl (Nat.le_refl _) (by omega) rfl hL ?_
  clear hL
  intro g w hL
  have hz : zerosL wn [Value.int .u8 0] = ints .u8 (List.replicate wn 0) := by
    rw [zeros_one]; unfold ints; rw [List.map_replicate]
  replace hL : Ev.Loc m [] w0 m [(g, .cells (toArr (zerosL wn [Value.int .u8 0])) 5 (0, 0))] w := hL
  rw [hz] at hL
  conv => whnf
  repeat (first
    | (refine BrReq.tt ?_; conv => whnf)
    | (refine BrReq.ff ?_; conv => whnf)
    | (refine LdReq.own1 hX rfl rfl 0 hL rfl rfl ?_; conv => whnf)
    | (refine LdReq.own1 hX rfl rfl 1 hL rfl rfl ?_; conv => whnf)
    | (refine LdReq.own1 hX rfl rfl 2 hL rfl rfl ?_; conv => whnf)
    | (refine LdReq.own1 hX rfl rfl 3 hL rfl rfl ?_; conv => whnf)
    | (refine LdReq.own1 hX rfl rfl 4 hL rfl rfl ?_; conv => whnf)
    | (refine LdReq.own1 hX rfl rfl 5 hL rfl rfl ?_; conv => whnf)
    | (refine LdReq.own1 hX rfl rfl 6 hL rfl rfl ?_; conv => whnf)
    | (refine LdReq.ownA hX rfl rfl 0 hL rfl rfl ?_; conv => whnf)
    | (refine LdReq.ownA hX rfl rfl 1 hL rfl rfl ?_; conv => whnf)
    | (refine LdReq.ownA hX rfl rfl 2 hL rfl rfl ?_; conv => whnf)
    | (refine LdReq.ownA hX rfl rfl 3 hL rfl rfl ?_; conv => whnf)
    | (refine LdReq.ownA hX rfl rfl 4 hL rfl rfl ?_; conv => whnf)
    | (refine LdReq.ownA hX rfl rfl 5 hL rfl rfl ?_; conv => whnf)
    | (refine LdReq.ownA hX rfl rfl 6 hL rfl rfl ?_; conv => whnf)
    | (refine StReq.own hX rfl 0 hL rfl rfl rfl rfl ?_; clear hL; intro w hL; conv => whnf)
    | (refine StReq.own hX rfl 1 hL rfl rfl rfl rfl ?_; clear hL; intro w hL; conv => whnf)
    | (refine StReq.own hX rfl 2 hL rfl rfl rfl rfl ?_; clear hL; intro w hL; conv => whnf)
    | (refine StReq.own hX rfl 3 hL rfl rfl rfl rfl ?_; clear hL; intro w hL; conv => whnf)
    | (refine StReq.own hX rfl 4 hL rfl rfl rfl rfl ?_; clear hL; intro w hL; conv => whnf)
    | (refine StReq.own hX rfl 5 hL rfl rfl rfl rfl ?_; clear hL; intro w hL; conv => whnf)
    | (refine StReq.own hX rfl 6 hL rfl rfl rfl rfl ?_; clear hL; intro w hL; conv => whnf)
    | (refine ArReq.i64 (by omega) (by omega) ?_; conv => whnf)
    | (refine SeqReq.go hX ?_; conv => whnf)
    | (refine OptReq.mk rfl ?_; conv => whnf))
  refine LoopReq.inv hX (fun j : Nat => [(10, .int .i64 j)]) [0, 3, 9]
    (fun j w => j ≤ wn ∧ ∃ cur : List Int, cur.length = wn ∧ (∀ q, q < wn → wn - 1 - q < j → cur[q]? = ws[wn - 1 - q]?) ∧ Ev.Loc m [] w0 m [(g, .cells (toArr (ints .u8 cur)) 5 (0, 0))] w) (fun j => wn - j) 0
    ⟨by omega, _, by simp, fun q _ h => absurd h (by omega), hL⟩ ⟨rfl, trivial⟩ ?_
  clear hL
  rintro j w f ⟨hj, cur, hcl, hcur, hL⟩
  conv => whnf
  repeat (first
    | (refine BrReq.tt ?_; conv => whnf)
    | (refine BrReq.ff ?_; conv => whnf)
    | (refine LdReq.own1 hX rfl rfl 0 hL rfl rfl ?_; conv => whnf)
    | (refine LdReq.own1 hX rfl rfl 1 hL rfl rfl ?_; conv => whnf)
    | (refine LdReq.own1 hX rfl rfl 2 hL rfl rfl ?_; conv => whnf)
    | (refine LdReq.own1 hX rfl rfl 3 hL rfl rfl ?_; conv => whnf)
    | (refine LdReq.own1 hX rfl rfl 4 hL rfl rfl ?_; conv => whnf)
    | (refine LdReq.own1 hX rfl rfl 5 hL rfl rfl ?_; conv => whnf)
    | (refine LdReq.own1 hX rfl rfl 6 hL rfl rfl ?_; conv => whnf)
    | (refine LdReq.ownA hX rfl rfl 0 hL rfl rfl ?_; conv => whnf)
    | (refine LdReq.ownA hX rfl rfl 1 hL rfl rfl ?_; conv => whnf)
    | (refine LdReq.ownA hX rfl rfl 2 hL rfl rfl ?_; conv => whnf)
    | (refine LdReq.ownA hX rfl rfl 3 hL rfl rfl ?_; conv => whnf)
    | (refine LdReq.ownA hX rfl rfl 4 hL rfl rfl ?_; conv => whnf)
    | (refine LdReq.ownA hX rfl rfl 5 hL rfl rfl ?_; conv => whnf)
    | (refine LdReq.ownA hX rfl rfl 6 hL rfl rfl ?_; conv => whnf)
    | (refine StReq.own hX rfl 0 hL rfl rfl rfl rfl ?_; clear hL; intro w hL; conv => whnf)
    | (refine StReq.own hX rfl 1 hL rfl rfl rfl rfl ?_; clear hL; intro w hL; conv => whnf)
    | (refine StReq.own hX rfl 2 hL rfl rfl rfl rfl ?_; clear hL; intro w hL; conv => whnf)
    | (refine StReq.own hX rfl 3 hL rfl rfl rfl rfl ?_; clear hL; intro w hL; conv => whnf)
    | (refine StReq.own hX rfl 4 hL rfl rfl rfl rfl ?_; clear hL; intro w hL; conv => whnf)
    | (refine StReq.own hX rfl 5 hL rfl rfl rfl rfl ?_; clear hL; intro w hL; conv => whnf)
    | (refine StReq.own hX rfl 6 hL rfl rfl rfl rfl ?_; clear hL; intro w hL; conv => whnf)
    | (refine ArReq.i64 (by omega) (by omega) ?_; conv => whnf)
    | (refine SeqReq.go hX ?_; conv => whnf)
    | (refine OptReq.mk rfl ?_; conv => whnf))
  refine BrReq.dec (fun hlt => ?_) (fun hlt => ?_)
  · have hpl : j < ws.length := by omega
    obtain ⟨aw, ew, hbv⟩ := hbyte j _ (List.getElem?_eq_getElem hpl)
    cases ew
    conv => whnf
    repeat (first
      | (refine Idx2Req.mk j _ rfl (by omega) rfl ?_; conv => whnf)
      | (refine LdReq.one hX rfl rfl hL hbv ?_; conv => whnf)
      | (refine Idx2Req.mk (wn - 1 - j) _ (by omega) (by omega) rfl ?_; conv => whnf)
      | (refine BrReq.tt ?_; conv => whnf)
      | (refine BrReq.ff ?_; conv => whnf)
      | (refine LdReq.own1 hX rfl rfl 0 hL rfl rfl ?_; conv => whnf)
      | (refine LdReq.own1 hX rfl rfl 1 hL rfl rfl ?_; conv => whnf)
      | (refine LdReq.own1 hX rfl rfl 2 hL rfl rfl ?_; conv => whnf)
      | (refine LdReq.own1 hX rfl rfl 3 hL rfl rfl ?_; conv => whnf)
      | (refine LdReq.own1 hX rfl rfl 4 hL rfl rfl ?_; conv => whnf)
      | (refine LdReq.own1 hX rfl rfl 5 hL rfl rfl ?_; conv => whnf)
      | (refine LdReq.own1 hX rfl rfl 6 hL rfl rfl ?_; conv => whnf)
      | (refine LdReq.ownA hX rfl rfl 0 hL rfl rfl ?_; conv => whnf)
      | (refine LdReq.ownA hX rfl rfl 1 hL rfl rfl ?_; conv => whnf)
      | (refine LdReq.ownA hX rfl rfl 2 hL rfl rfl ?_; conv => whnf)
      | (refine LdReq.ownA hX rfl rfl 3 hL rfl rfl ?_; conv => whnf)
      | (refine LdReq.ownA hX rfl rfl 4 hL rfl rfl ?_; conv => whnf)
      | (refine LdReq.ownA hX rfl rfl 5 hL rfl rfl ?_; conv => whnf)
      | (refine LdReq.ownA hX rfl rfl 6 hL rfl rfl ?_; conv => whnf)
      | (refine StReq.own hX rfl 0 hL rfl rfl rfl rfl ?_; clear hL; intro w hL; conv => whnf)
      | (refine StReq.own hX rfl 1 hL rfl rfl rfl rfl ?_; clear hL; intro w hL; conv => whnf)
      | (refine StReq.own hX rfl 2 hL rfl rfl rfl rfl ?_; clear hL; intro w hL; conv => whnf)
      | (refine StReq.own hX rfl 3 hL rfl rfl rfl rfl ?_; clear hL; intro w hL; conv => whnf)
      | (refine StReq.own hX rfl 4 hL rfl rfl rfl rfl ?_; clear hL; intro w hL; conv => whnf)
      | (refine StReq.own hX rfl 5 hL rfl rfl rfl rfl ?_; clear hL; intro w hL; conv => whnf)
      | (refine StReq.own hX rfl 6 hL rfl rfl rfl rfl ?_; clear hL; intro w hL; conv => whnf)
      | (refine ArReq.i64 (by omega) (by omega) ?_; conv => whnf)
      | (refine SeqReq.go hX ?_; conv => whnf)
      | (refine OptReq.mk rfl ?_; conv => whnf))
    refine StReq.ownAt hX rfl 0 hL rfl rfl (by simp only [ints, List.length_map, hcl]; show 0 + scale (wn - 1 - j) 1 + 1 ≤ wn; rw [scale_eq]; omega) rfl ?_
    clear hL
    intro w hL
    have e1 : spliceL (ints .u8 cur) (0 + scale (wn - 1 - j) 1) (Value.int .u8 ws[j]).cells.toList = ints .u8 (cur.set (wn - 1 - j) ws[j]) := by
      show (ints .u8 cur).set (0 + scale (wn - 1 - j) 1) (.int .u8 ws[j]) = _
      rw [scale_eq, Nat.zero_add, Nat.mul_one]; unfold ints; rw [List.map_set]
    replace hL : Ev.Loc m [] w0 m [(g, .cells (toArr (spliceL (ints .u8 cur) (0 + scale (wn - 1 - j) 1) (Value.int .u8 ws[j]).cells.toList)) 5 (0, 0))] w := hL
    rw [e1] at hL
    have hcur' : ∀ q, q < wn → wn - 1 - q < j + 1 → (cur.set (wn - 1 - j) ws[j])[q]? = ws[wn - 1 - q]? := by
      intro q hq h
      by_cases e : wn - 1 - j = q
      · subst e
        rw [List.getElem?_set_self (by omega), show wn - 1 - (wn - 1 - j) = j by omega, List.getElem?_eq_getElem hpl]
      · rw [List.getElem?_set_ne e]; exact hcur q hq (by omega)
    conv => whnf
    repeat (first
      | (refine BrReq.tt ?_; conv => whnf)
      | (refine BrReq.ff ?_; conv => whnf)
      | (refine LdReq.own1 hX rfl rfl 0 hL rfl rfl ?_; conv => whnf)
      | (refine LdReq.own1 hX rfl rfl 1 hL rfl rfl ?_; conv => whnf)
      | (refine LdReq.own1 hX rfl rfl 2 hL rfl rfl ?_; conv => whnf)
      | (refine LdReq.own1 hX rfl rfl 3 hL rfl rfl ?_; conv => whnf)
      | (refine LdReq.own1 hX rfl rfl 4 hL rfl rfl ?_; conv => whnf)
      | (refine LdReq.own1 hX rfl rfl 5 hL rfl rfl ?_; conv => whnf)
      | (refine LdReq.own1 hX rfl rfl 6 hL rfl rfl ?_; conv => whnf)
      | (refine LdReq.ownA hX rfl rfl 0 hL rfl rfl ?_; conv => whnf)
      | (refine LdReq.ownA hX rfl rfl 1 hL rfl rfl ?_; conv => whnf)
      | (refine LdReq.ownA hX rfl rfl 2 hL rfl rfl ?_; conv => whnf)
      | (refine LdReq.ownA hX rfl rfl 3 hL rfl rfl ?_; conv => whnf)
      | (refine LdReq.ownA hX rfl rfl 4 hL rfl rfl ?_; conv => whnf)
      | (refine LdReq.ownA hX rfl rfl 5 hL rfl rfl ?_; conv => whnf)
      | (refine LdReq.ownA hX rfl rfl 6 hL rfl rfl ?_; conv => whnf)
      | (refine StReq.own hX rfl 0 hL rfl rfl rfl rfl ?_; clear hL; intro w hL; conv => whnf)
      | (refine StReq.own hX rfl 1 hL rfl rfl rfl rfl ?_; clear hL; intro w hL; conv => whnf)
      | (refine StReq.own hX rfl 2 hL rfl rfl rfl rfl ?_; clear hL; intro w hL; conv => whnf)
      | (refine StReq.own hX rfl 3 hL rfl rfl rfl rfl ?_; clear hL; intro w hL; conv => whnf)
      | (refine StReq.own hX rfl 4 hL rfl rfl rfl rfl ?_; clear hL; intro w hL; conv => whnf)
      | (refine StReq.own hX rfl 5 hL rfl rfl rfl rfl ?_; clear hL; intro w hL; conv => whnf)
      | (refine StReq.own hX rfl 6 hL rfl rfl rfl rfl ?_; clear hL; intro w hL; conv => whnf)
      | (refine ArReq.i64 (by omega) (by omega) ?_; conv => whnf)
      | (refine SeqReq.go hX ?_; conv => whnf)
      | (refine OptReq.mk rfl ?_; conv => whnf))
    refine ⟨j + 1, ⟨by omega, _, by rw [List.length_set]; exact hcl, hcur', hL⟩, by omega, ?_, ?_⟩
    · repeat (first | exact trivial | (refine And.intro (by (conv => lhs; whnf) <;> (conv => rhs; whnf) <;> (first | rfl)) ?_))
    · repeat (first | exact trivial | (refine And.intro (by (conv => lhs; whnf) <;> (conv => rhs; whnf) <;> (first | rfl)) ?_))
  · conv => whnf
    repeat (first
      | (refine BrReq.tt ?_; conv => whnf)
      | (refine BrReq.ff ?_; conv => whnf)
      | (refine LdReq.own1 hX rfl rfl 0 hL rfl rfl ?_; conv => whnf)
      | (refine LdReq.own1 hX rfl rfl 1 hL rfl rfl ?_; conv => whnf)
      | (refine LdReq.own1 hX rfl rfl 2 hL rfl rfl ?_; conv => whnf)
      | (refine LdReq.own1 hX rfl rfl 3 hL rfl rfl ?_; conv => whnf)
      | (refine LdReq.own1 hX rfl rfl 4 hL rfl rfl ?_; conv => whnf)
      | (refine LdReq.own1 hX rfl rfl 5 hL rfl rfl ?_; conv => whnf)
      | (refine LdReq.own1 hX rfl rfl 6 hL rfl rfl ?_; conv => whnf)
      | (refine LdReq.ownA hX rfl rfl 0 hL rfl rfl ?_; conv => whnf)
      | (refine LdReq.ownA hX rfl rfl 1 hL rfl rfl ?_; conv => whnf)
      | (refine LdReq.ownA hX rfl rfl 2 hL rfl rfl ?_; conv => whnf)
      | (refine LdReq.ownA hX rfl rfl 3 hL rfl rfl ?_; conv => whnf)
      | (refine LdReq.ownA hX rfl rfl 4 hL rfl rfl ?_; conv => whnf)
      | (refine LdReq.ownA hX rfl rfl 5 hL rfl rfl ?_; conv => whnf)
      | (refine LdReq.ownA hX rfl rfl 6 hL rfl rfl ?_; conv => whnf)
      | (refine StReq.own hX rfl 0 hL rfl rfl rfl rfl ?_; clear hL; intro w hL; conv => whnf)
      | (refine StReq.own hX rfl 1 hL rfl rfl rfl rfl ?_; clear hL; intro w hL; conv => whnf)
      | (refine StReq.own hX rfl 2 hL rfl rfl rfl rfl ?_; clear hL; intro w hL; conv => whnf)
      | (refine StReq.own hX rfl 3 hL rfl rfl rfl rfl ?_; clear hL; intro w hL; conv => whnf)
      | (refine StReq.own hX rfl 4 hL rfl rfl rfl rfl ?_; clear hL; intro w hL; conv => whnf)
      | (refine StReq.own hX rfl 5 hL rfl rfl rfl rfl ?_; clear hL; intro w hL; conv => whnf)
      | (refine StReq.own hX rfl 6 hL rfl rfl rfl rfl ?_; clear hL; intro w hL; conv => whnf)
      | (refine ArReq.i64 (by omega) (by omega) ?_; conv => whnf)
      | (refine SeqReq.go hX ?_; conv => whnf)
      | (refine OptReq.mk rfl ?_; conv => whnf))
    have e : cur = ws.reverse := by
      refine List.ext_getElem? fun q => ?_
      by_cases hq : q < wn
      · rw [hcur q hq (by omega), List.getElem?_reverse (by omega), ← hwn]
      · rw [List.getElem?_eq_none (by omega), List.getElem?_eq_none (by rw [List.length_reverse]; omega)]
    subst e
    obtain ⟨m', hL, hm', hsl⟩ := OwnS.freeze (k := .u8) (l := ws.reverse) (L2 := []) (OwnS.full (te := 5) (n := wn) (by omega) (by simp [ints]; omega)) hL
    exact RetReq.mk hL ⟨rfl, hsl⟩

theorem leaf_inv {m : Mem} {k s0 s1 s2 s3 lo hi : Int} {neg : Bool} {A : Option Addr} {n c : Nat} (h : RepRe m (reC k s0 s1 s2 s3 (.slice A n c) lo hi neg) (leafR 0)) : k = 0 ∧ n = 0 := by
  generalize hr : leafR 0 = r at h
  generalize hcs : reC k s0 s1 s2 s3 (.slice A n c) lo hi neg = cs at h
  cases h with
  | mk k' t0 t1 t2 t3 lo' hi' neg' A' n' c' rs css hk h0 h1 h2 h3 hlo hhi hn hc hmx hcell hrep =>
    simp only [leafR, Re.mk.injEq] at hr
    simp only [reC, List.cons.injEq, Value.int.injEq, Value.slice.injEq] at hcs
    obtain ⟨rfl, -, -, -, -, rfl, -⟩ := hr
    refine ⟨hcs.1.2, ?_⟩
    rw [hcs.2.2.2.2.2.1.2.1, hn]; rfl

theorem row_all {n : Nat} {f : Tb} {m : Mem} {v : Value} (h : RepTab m v n f) {i : Nat} (hi : i < n) : ∃ A c a A' c', v = .slice A n c ∧ A = some a ∧ mcell m (a.add (scale i 1)) = some (.slice A' n c') ∧ ∀ j, j < n → ∃ a', A' = some a' ∧ mcell m (a'.add (scale j 1)) = some (.bool (f i j)) := by
  obtain ⟨A, c, rfl, _, _, h3⟩ := h
  obtain ⟨a, h4, A', c', h5, h6⟩ := h3 i hi
  exact ⟨A, c, a, A', c', rfl, h4, h5, h6⟩

set_option maxHeartbeats 4000000 in
theorem walk (m : Mem) (r : Re) (cs : List Value) (h : RepRe m cs r) (wv : Value) (ws : List Int) (hw : SlI m .u8 wv ws) (hwb : ∀ z ∈ ws, 0 ≤ z ∧ z ≤ 255) : Fn0 Try.prog 5 [.agg (toArr cs), wv] m fun _ u => u = .bool true := by
  obtain ⟨k1, u0, u1, u2, u3, A1, n1, c1, lo1, hi1, neg1, rfl⟩ := h.form
  have hw0 := hw
  obtain ⟨W, wn, wc, rfl, hwn, hwc, hwm, -⟩ := hw
  have hmx : maxLen = 9223372036854775807 := rfl
  refine Fn.enter (N := 90) hX Try.func5 rfl rfl (by show _ ≤ _; simp) (fun w0 hL => ?_)
  conv => whnf
  refine NewReq.mk hL ?_
  clear hL
  intro b2 w hL
  conv => whnf
  conv => whnf
  repeat (first
    | (refine BrReq.tt ?_; conv => whnf)
    | (refine BrReq.ff ?_; conv => whnf)
    | (refine LdReq.own1 hX rfl rfl 0 hL rfl rfl ?_; conv => whnf)
    | (refine LdReq.own1 hX rfl rfl 1 hL rfl rfl ?_; conv => whnf)
    | (refine LdReq.own1 hX rfl rfl 2 hL rfl rfl ?_; conv => whnf)
    | (refine LdReq.own1 hX rfl rfl 3 hL rfl rfl ?_; conv => whnf)
    | (refine LdReq.own1 hX rfl rfl 4 hL rfl rfl ?_; conv => whnf)
    | (refine LdReq.own1 hX rfl rfl 5 hL rfl rfl ?_; conv => whnf)
    | (refine LdReq.own1 hX rfl rfl 6 hL rfl rfl ?_; conv => whnf)
    | (refine LdReq.ownA hX rfl rfl 0 hL rfl rfl ?_; conv => whnf)
    | (refine LdReq.ownA hX rfl rfl 1 hL rfl rfl ?_; conv => whnf)
    | (refine LdReq.ownA hX rfl rfl 2 hL rfl rfl ?_; conv => whnf)
    | (refine LdReq.ownA hX rfl rfl 3 hL rfl rfl ?_; conv => whnf)
    | (refine LdReq.ownA hX rfl rfl 4 hL rfl rfl ?_; conv => whnf)
    | (refine LdReq.ownA hX rfl rfl 5 hL rfl rfl ?_; conv => whnf)
    | (refine LdReq.ownA hX rfl rfl 6 hL rfl rfl ?_; conv => whnf)
    | (refine StReq.own hX rfl 0 hL rfl rfl rfl rfl ?_; clear hL; intro w hL; conv => whnf)
    | (refine StReq.own hX rfl 1 hL rfl rfl rfl rfl ?_; clear hL; intro w hL; conv => whnf)
    | (refine StReq.own hX rfl 2 hL rfl rfl rfl rfl ?_; clear hL; intro w hL; conv => whnf)
    | (refine StReq.own hX rfl 3 hL rfl rfl rfl rfl ?_; clear hL; intro w hL; conv => whnf)
    | (refine StReq.own hX rfl 4 hL rfl rfl rfl rfl ?_; clear hL; intro w hL; conv => whnf)
    | (refine StReq.own hX rfl 5 hL rfl rfl rfl rfl ?_; clear hL; intro w hL; conv => whnf)
    | (refine StReq.own hX rfl 6 hL rfl rfl rfl rfl ?_; clear hL; intro w hL; conv => whnf)
    | (refine ArReq.i64 (by omega) (by omega) ?_; conv => whnf)
    | (refine SeqReq.go hX ?_; conv => whnf)
    | (refine OptReq.mk rfl ?_; conv => whnf))
  refine CallReq.val (awake_fn m) hL ?_
  clear hL
  intro w hL
  conv => whnf
  repeat (first
    | (refine BrReq.tt ?_; conv => whnf)
    | (refine BrReq.ff ?_; conv => whnf)
    | (refine LdReq.own1 hX rfl rfl 0 hL rfl rfl ?_; conv => whnf)
    | (refine LdReq.own1 hX rfl rfl 1 hL rfl rfl ?_; conv => whnf)
    | (refine LdReq.own1 hX rfl rfl 2 hL rfl rfl ?_; conv => whnf)
    | (refine LdReq.own1 hX rfl rfl 3 hL rfl rfl ?_; conv => whnf)
    | (refine LdReq.own1 hX rfl rfl 4 hL rfl rfl ?_; conv => whnf)
    | (refine LdReq.own1 hX rfl rfl 5 hL rfl rfl ?_; conv => whnf)
    | (refine LdReq.own1 hX rfl rfl 6 hL rfl rfl ?_; conv => whnf)
    | (refine LdReq.ownA hX rfl rfl 0 hL rfl rfl ?_; conv => whnf)
    | (refine LdReq.ownA hX rfl rfl 1 hL rfl rfl ?_; conv => whnf)
    | (refine LdReq.ownA hX rfl rfl 2 hL rfl rfl ?_; conv => whnf)
    | (refine LdReq.ownA hX rfl rfl 3 hL rfl rfl ?_; conv => whnf)
    | (refine LdReq.ownA hX rfl rfl 4 hL rfl rfl ?_; conv => whnf)
    | (refine LdReq.ownA hX rfl rfl 5 hL rfl rfl ?_; conv => whnf)
    | (refine LdReq.ownA hX rfl rfl 6 hL rfl rfl ?_; conv => whnf)
    | (refine StReq.own hX rfl 0 hL rfl rfl rfl rfl ?_; clear hL; intro w hL; conv => whnf)
    | (refine StReq.own hX rfl 1 hL rfl rfl rfl rfl ?_; clear hL; intro w hL; conv => whnf)
    | (refine StReq.own hX rfl 2 hL rfl rfl rfl rfl ?_; clear hL; intro w hL; conv => whnf)
    | (refine StReq.own hX rfl 3 hL rfl rfl rfl rfl ?_; clear hL; intro w hL; conv => whnf)
    | (refine StReq.own hX rfl 4 hL rfl rfl rfl rfl ?_; clear hL; intro w hL; conv => whnf)
    | (refine StReq.own hX rfl 5 hL rfl rfl rfl rfl ?_; clear hL; intro w hL; conv => whnf)
    | (refine StReq.own hX rfl 6 hL rfl rfl rfl rfl ?_; clear hL; intro w hL; conv => whnf)
    | (refine ArReq.i64 (by omega) (by omega) ?_; conv => whnf)
    | (refine SeqReq.go hX ?_; conv => whnf)
    | (refine OptReq.mk rfl ?_; conv => whnf))
  refine CallReq.val (Few_fn m r _ h 60 (by omega)) hL ?_
  clear hL
  intro w hL
  conv => whnf
  repeat (first
    | (refine BrReq.tt ?_; conv => whnf)
    | (refine BrReq.ff ?_; conv => whnf)
    | (refine LdReq.own1 hX rfl rfl 0 hL rfl rfl ?_; conv => whnf)
    | (refine LdReq.own1 hX rfl rfl 1 hL rfl rfl ?_; conv => whnf)
    | (refine LdReq.own1 hX rfl rfl 2 hL rfl rfl ?_; conv => whnf)
    | (refine LdReq.own1 hX rfl rfl 3 hL rfl rfl ?_; conv => whnf)
    | (refine LdReq.own1 hX rfl rfl 4 hL rfl rfl ?_; conv => whnf)
    | (refine LdReq.own1 hX rfl rfl 5 hL rfl rfl ?_; conv => whnf)
    | (refine LdReq.own1 hX rfl rfl 6 hL rfl rfl ?_; conv => whnf)
    | (refine LdReq.ownA hX rfl rfl 0 hL rfl rfl ?_; conv => whnf)
    | (refine LdReq.ownA hX rfl rfl 1 hL rfl rfl ?_; conv => whnf)
    | (refine LdReq.ownA hX rfl rfl 2 hL rfl rfl ?_; conv => whnf)
    | (refine LdReq.ownA hX rfl rfl 3 hL rfl rfl ?_; conv => whnf)
    | (refine LdReq.ownA hX rfl rfl 4 hL rfl rfl ?_; conv => whnf)
    | (refine LdReq.ownA hX rfl rfl 5 hL rfl rfl ?_; conv => whnf)
    | (refine LdReq.ownA hX rfl rfl 6 hL rfl rfl ?_; conv => whnf)
    | (refine StReq.own hX rfl 0 hL rfl rfl rfl rfl ?_; clear hL; intro w hL; conv => whnf)
    | (refine StReq.own hX rfl 1 hL rfl rfl rfl rfl ?_; clear hL; intro w hL; conv => whnf)
    | (refine StReq.own hX rfl 2 hL rfl rfl rfl rfl ?_; clear hL; intro w hL; conv => whnf)
    | (refine StReq.own hX rfl 3 hL rfl rfl rfl rfl ?_; clear hL; intro w hL; conv => whnf)
    | (refine StReq.own hX rfl 4 hL rfl rfl rfl rfl ?_; clear hL; intro w hL; conv => whnf)
    | (refine StReq.own hX rfl 5 hL rfl rfl rfl rfl ?_; clear hL; intro w hL; conv => whnf)
    | (refine StReq.own hX rfl 6 hL rfl rfl rfl rfl ?_; clear hL; intro w hL; conv => whnf)
    | (refine ArReq.i64 (by omega) (by omega) ?_; conv => whnf)
    | (refine SeqReq.go hX ?_; conv => whnf)
    | (refine OptReq.mk rfl ?_; conv => whnf))
  refine BrReq.not ?_
  refine BrReq.dec (fun f1 => ?_) (fun f1 => ?_)
  rotate_left
  · conv => whnf
    repeat (first
      | (refine BrReq.tt ?_; conv => whnf)
      | (refine BrReq.ff ?_; conv => whnf)
      | (refine LdReq.own1 hX rfl rfl 0 hL rfl rfl ?_; conv => whnf)
      | (refine LdReq.own1 hX rfl rfl 1 hL rfl rfl ?_; conv => whnf)
      | (refine LdReq.own1 hX rfl rfl 2 hL rfl rfl ?_; conv => whnf)
      | (refine LdReq.own1 hX rfl rfl 3 hL rfl rfl ?_; conv => whnf)
      | (refine LdReq.own1 hX rfl rfl 4 hL rfl rfl ?_; conv => whnf)
      | (refine LdReq.own1 hX rfl rfl 5 hL rfl rfl ?_; conv => whnf)
      | (refine LdReq.own1 hX rfl rfl 6 hL rfl rfl ?_; conv => whnf)
      | (refine LdReq.ownA hX rfl rfl 0 hL rfl rfl ?_; conv => whnf)
      | (refine LdReq.ownA hX rfl rfl 1 hL rfl rfl ?_; conv => whnf)
      | (refine LdReq.ownA hX rfl rfl 2 hL rfl rfl ?_; conv => whnf)
      | (refine LdReq.ownA hX rfl rfl 3 hL rfl rfl ?_; conv => whnf)
      | (refine LdReq.ownA hX rfl rfl 4 hL rfl rfl ?_; conv => whnf)
      | (refine LdReq.ownA hX rfl rfl 5 hL rfl rfl ?_; conv => whnf)
      | (refine LdReq.ownA hX rfl rfl 6 hL rfl rfl ?_; conv => whnf)
      | (refine StReq.own hX rfl 0 hL rfl rfl rfl rfl ?_; clear hL; intro w hL; conv => whnf)
      | (refine StReq.own hX rfl 1 hL rfl rfl rfl rfl ?_; clear hL; intro w hL; conv => whnf)
      | (refine StReq.own hX rfl 2 hL rfl rfl rfl rfl ?_; clear hL; intro w hL; conv => whnf)
      | (refine StReq.own hX rfl 3 hL rfl rfl rfl rfl ?_; clear hL; intro w hL; conv => whnf)
      | (refine StReq.own hX rfl 4 hL rfl rfl rfl rfl ?_; clear hL; intro w hL; conv => whnf)
      | (refine StReq.own hX rfl 5 hL rfl rfl rfl rfl ?_; clear hL; intro w hL; conv => whnf)
      | (refine StReq.own hX rfl 6 hL rfl rfl rfl rfl ?_; clear hL; intro w hL; conv => whnf)
      | (refine ArReq.i64 (by omega) (by omega) ?_; conv => whnf)
      | (refine SeqReq.go hX ?_; conv => whnf)
      | (refine OptReq.mk rfl ?_; conv => whnf))
    refine CallReq.val (awake_fn m) hL ?_
    clear hL
    intro w hL
    conv => whnf
    repeat (first
      | (refine BrReq.tt ?_; conv => whnf)
      | (refine BrReq.ff ?_; conv => whnf)
      | (refine LdReq.own1 hX rfl rfl 0 hL rfl rfl ?_; conv => whnf)
      | (refine LdReq.own1 hX rfl rfl 1 hL rfl rfl ?_; conv => whnf)
      | (refine LdReq.own1 hX rfl rfl 2 hL rfl rfl ?_; conv => whnf)
      | (refine LdReq.own1 hX rfl rfl 3 hL rfl rfl ?_; conv => whnf)
      | (refine LdReq.own1 hX rfl rfl 4 hL rfl rfl ?_; conv => whnf)
      | (refine LdReq.own1 hX rfl rfl 5 hL rfl rfl ?_; conv => whnf)
      | (refine LdReq.own1 hX rfl rfl 6 hL rfl rfl ?_; conv => whnf)
      | (refine LdReq.ownA hX rfl rfl 0 hL rfl rfl ?_; conv => whnf)
      | (refine LdReq.ownA hX rfl rfl 1 hL rfl rfl ?_; conv => whnf)
      | (refine LdReq.ownA hX rfl rfl 2 hL rfl rfl ?_; conv => whnf)
      | (refine LdReq.ownA hX rfl rfl 3 hL rfl rfl ?_; conv => whnf)
      | (refine LdReq.ownA hX rfl rfl 4 hL rfl rfl ?_; conv => whnf)
      | (refine LdReq.ownA hX rfl rfl 5 hL rfl rfl ?_; conv => whnf)
      | (refine LdReq.ownA hX rfl rfl 6 hL rfl rfl ?_; conv => whnf)
      | (refine StReq.own hX rfl 0 hL rfl rfl rfl rfl ?_; clear hL; intro w hL; conv => whnf)
      | (refine StReq.own hX rfl 1 hL rfl rfl rfl rfl ?_; clear hL; intro w hL; conv => whnf)
      | (refine StReq.own hX rfl 2 hL rfl rfl rfl rfl ?_; clear hL; intro w hL; conv => whnf)
      | (refine StReq.own hX rfl 3 hL rfl rfl rfl rfl ?_; clear hL; intro w hL; conv => whnf)
      | (refine StReq.own hX rfl 4 hL rfl rfl rfl rfl ?_; clear hL; intro w hL; conv => whnf)
      | (refine StReq.own hX rfl 5 hL rfl rfl rfl rfl ?_; clear hL; intro w hL; conv => whnf)
      | (refine StReq.own hX rfl 6 hL rfl rfl rfl rfl ?_; clear hL; intro w hL; conv => whnf)
      | (refine ArReq.i64 (by omega) (by omega) ?_; conv => whnf)
      | (refine SeqReq.go hX ?_; conv => whnf)
      | (refine OptReq.mk rfl ?_; conv => whnf))
    exact RetReq.mk hL.drop ⟨rfl, rfl⟩
  have hsm := small_of _ _ f1
  conv => whnf
  repeat (first
    | (refine BrReq.tt ?_; conv => whnf)
    | (refine BrReq.ff ?_; conv => whnf)
    | (refine LdReq.own1 hX rfl rfl 0 hL rfl rfl ?_; conv => whnf)
    | (refine LdReq.own1 hX rfl rfl 1 hL rfl rfl ?_; conv => whnf)
    | (refine LdReq.own1 hX rfl rfl 2 hL rfl rfl ?_; conv => whnf)
    | (refine LdReq.own1 hX rfl rfl 3 hL rfl rfl ?_; conv => whnf)
    | (refine LdReq.own1 hX rfl rfl 4 hL rfl rfl ?_; conv => whnf)
    | (refine LdReq.own1 hX rfl rfl 5 hL rfl rfl ?_; conv => whnf)
    | (refine LdReq.own1 hX rfl rfl 6 hL rfl rfl ?_; conv => whnf)
    | (refine LdReq.ownA hX rfl rfl 0 hL rfl rfl ?_; conv => whnf)
    | (refine LdReq.ownA hX rfl rfl 1 hL rfl rfl ?_; conv => whnf)
    | (refine LdReq.ownA hX rfl rfl 2 hL rfl rfl ?_; conv => whnf)
    | (refine LdReq.ownA hX rfl rfl 3 hL rfl rfl ?_; conv => whnf)
    | (refine LdReq.ownA hX rfl rfl 4 hL rfl rfl ?_; conv => whnf)
    | (refine LdReq.ownA hX rfl rfl 5 hL rfl rfl ?_; conv => whnf)
    | (refine LdReq.ownA hX rfl rfl 6 hL rfl rfl ?_; conv => whnf)
    | (refine StReq.own hX rfl 0 hL rfl rfl rfl rfl ?_; clear hL; intro w hL; conv => whnf)
    | (refine StReq.own hX rfl 1 hL rfl rfl rfl rfl ?_; clear hL; intro w hL; conv => whnf)
    | (refine StReq.own hX rfl 2 hL rfl rfl rfl rfl ?_; clear hL; intro w hL; conv => whnf)
    | (refine StReq.own hX rfl 3 hL rfl rfl rfl rfl ?_; clear hL; intro w hL; conv => whnf)
    | (refine StReq.own hX rfl 4 hL rfl rfl rfl rfl ?_; clear hL; intro w hL; conv => whnf)
    | (refine StReq.own hX rfl 5 hL rfl rfl rfl rfl ?_; clear hL; intro w hL; conv => whnf)
    | (refine StReq.own hX rfl 6 hL rfl rfl rfl rfl ?_; clear hL; intro w hL; conv => whnf)
    | (refine ArReq.i64 (by omega) (by omega) ?_; conv => whnf)
    | (refine SeqReq.go hX ?_; conv => whnf)
    | (refine OptReq.mk rfl ?_; conv => whnf))
  refine BrReq.dec (fun f2 => ?_) (fun f2 => ?_)
  · conv => whnf
    repeat (first
      | (refine BrReq.tt ?_; conv => whnf)
      | (refine BrReq.ff ?_; conv => whnf)
      | (refine LdReq.own1 hX rfl rfl 0 hL rfl rfl ?_; conv => whnf)
      | (refine LdReq.own1 hX rfl rfl 1 hL rfl rfl ?_; conv => whnf)
      | (refine LdReq.own1 hX rfl rfl 2 hL rfl rfl ?_; conv => whnf)
      | (refine LdReq.own1 hX rfl rfl 3 hL rfl rfl ?_; conv => whnf)
      | (refine LdReq.own1 hX rfl rfl 4 hL rfl rfl ?_; conv => whnf)
      | (refine LdReq.own1 hX rfl rfl 5 hL rfl rfl ?_; conv => whnf)
      | (refine LdReq.own1 hX rfl rfl 6 hL rfl rfl ?_; conv => whnf)
      | (refine LdReq.ownA hX rfl rfl 0 hL rfl rfl ?_; conv => whnf)
      | (refine LdReq.ownA hX rfl rfl 1 hL rfl rfl ?_; conv => whnf)
      | (refine LdReq.ownA hX rfl rfl 2 hL rfl rfl ?_; conv => whnf)
      | (refine LdReq.ownA hX rfl rfl 3 hL rfl rfl ?_; conv => whnf)
      | (refine LdReq.ownA hX rfl rfl 4 hL rfl rfl ?_; conv => whnf)
      | (refine LdReq.ownA hX rfl rfl 5 hL rfl rfl ?_; conv => whnf)
      | (refine LdReq.ownA hX rfl rfl 6 hL rfl rfl ?_; conv => whnf)
      | (refine StReq.own hX rfl 0 hL rfl rfl rfl rfl ?_; clear hL; intro w hL; conv => whnf)
      | (refine StReq.own hX rfl 1 hL rfl rfl rfl rfl ?_; clear hL; intro w hL; conv => whnf)
      | (refine StReq.own hX rfl 2 hL rfl rfl rfl rfl ?_; clear hL; intro w hL; conv => whnf)
      | (refine StReq.own hX rfl 3 hL rfl rfl rfl rfl ?_; clear hL; intro w hL; conv => whnf)
      | (refine StReq.own hX rfl 4 hL rfl rfl rfl rfl ?_; clear hL; intro w hL; conv => whnf)
      | (refine StReq.own hX rfl 5 hL rfl rfl rfl rfl ?_; clear hL; intro w hL; conv => whnf)
      | (refine StReq.own hX rfl 6 hL rfl rfl rfl rfl ?_; clear hL; intro w hL; conv => whnf)
      | (refine ArReq.i64 (by omega) (by omega) ?_; conv => whnf)
      | (refine SeqReq.go hX ?_; conv => whnf)
      | (refine OptReq.mk rfl ?_; conv => whnf))
    refine CallReq.val (awake_fn m) hL ?_
    clear hL
    intro w hL
    conv => whnf
    repeat (first
      | (refine BrReq.tt ?_; conv => whnf)
      | (refine BrReq.ff ?_; conv => whnf)
      | (refine LdReq.own1 hX rfl rfl 0 hL rfl rfl ?_; conv => whnf)
      | (refine LdReq.own1 hX rfl rfl 1 hL rfl rfl ?_; conv => whnf)
      | (refine LdReq.own1 hX rfl rfl 2 hL rfl rfl ?_; conv => whnf)
      | (refine LdReq.own1 hX rfl rfl 3 hL rfl rfl ?_; conv => whnf)
      | (refine LdReq.own1 hX rfl rfl 4 hL rfl rfl ?_; conv => whnf)
      | (refine LdReq.own1 hX rfl rfl 5 hL rfl rfl ?_; conv => whnf)
      | (refine LdReq.own1 hX rfl rfl 6 hL rfl rfl ?_; conv => whnf)
      | (refine LdReq.ownA hX rfl rfl 0 hL rfl rfl ?_; conv => whnf)
      | (refine LdReq.ownA hX rfl rfl 1 hL rfl rfl ?_; conv => whnf)
      | (refine LdReq.ownA hX rfl rfl 2 hL rfl rfl ?_; conv => whnf)
      | (refine LdReq.ownA hX rfl rfl 3 hL rfl rfl ?_; conv => whnf)
      | (refine LdReq.ownA hX rfl rfl 4 hL rfl rfl ?_; conv => whnf)
      | (refine LdReq.ownA hX rfl rfl 5 hL rfl rfl ?_; conv => whnf)
      | (refine LdReq.ownA hX rfl rfl 6 hL rfl rfl ?_; conv => whnf)
      | (refine StReq.own hX rfl 0 hL rfl rfl rfl rfl ?_; clear hL; intro w hL; conv => whnf)
      | (refine StReq.own hX rfl 1 hL rfl rfl rfl rfl ?_; clear hL; intro w hL; conv => whnf)
      | (refine StReq.own hX rfl 2 hL rfl rfl rfl rfl ?_; clear hL; intro w hL; conv => whnf)
      | (refine StReq.own hX rfl 3 hL rfl rfl rfl rfl ?_; clear hL; intro w hL; conv => whnf)
      | (refine StReq.own hX rfl 4 hL rfl rfl rfl rfl ?_; clear hL; intro w hL; conv => whnf)
      | (refine StReq.own hX rfl 5 hL rfl rfl rfl rfl ?_; clear hL; intro w hL; conv => whnf)
      | (refine StReq.own hX rfl 6 hL rfl rfl rfl rfl ?_; clear hL; intro w hL; conv => whnf)
      | (refine ArReq.i64 (by omega) (by omega) ?_; conv => whnf)
      | (refine SeqReq.go hX ?_; conv => whnf)
      | (refine OptReq.mk rfl ?_; conv => whnf))
    exact RetReq.mk hL.drop ⟨rfl, rfl⟩
  conv => whnf
  repeat (first
    | (refine BrReq.tt ?_; conv => whnf)
    | (refine BrReq.ff ?_; conv => whnf)
    | (refine LdReq.own1 hX rfl rfl 0 hL rfl rfl ?_; conv => whnf)
    | (refine LdReq.own1 hX rfl rfl 1 hL rfl rfl ?_; conv => whnf)
    | (refine LdReq.own1 hX rfl rfl 2 hL rfl rfl ?_; conv => whnf)
    | (refine LdReq.own1 hX rfl rfl 3 hL rfl rfl ?_; conv => whnf)
    | (refine LdReq.own1 hX rfl rfl 4 hL rfl rfl ?_; conv => whnf)
    | (refine LdReq.own1 hX rfl rfl 5 hL rfl rfl ?_; conv => whnf)
    | (refine LdReq.own1 hX rfl rfl 6 hL rfl rfl ?_; conv => whnf)
    | (refine LdReq.ownA hX rfl rfl 0 hL rfl rfl ?_; conv => whnf)
    | (refine LdReq.ownA hX rfl rfl 1 hL rfl rfl ?_; conv => whnf)
    | (refine LdReq.ownA hX rfl rfl 2 hL rfl rfl ?_; conv => whnf)
    | (refine LdReq.ownA hX rfl rfl 3 hL rfl rfl ?_; conv => whnf)
    | (refine LdReq.ownA hX rfl rfl 4 hL rfl rfl ?_; conv => whnf)
    | (refine LdReq.ownA hX rfl rfl 5 hL rfl rfl ?_; conv => whnf)
    | (refine LdReq.ownA hX rfl rfl 6 hL rfl rfl ?_; conv => whnf)
    | (refine StReq.own hX rfl 0 hL rfl rfl rfl rfl ?_; clear hL; intro w hL; conv => whnf)
    | (refine StReq.own hX rfl 1 hL rfl rfl rfl rfl ?_; clear hL; intro w hL; conv => whnf)
    | (refine StReq.own hX rfl 2 hL rfl rfl rfl rfl ?_; clear hL; intro w hL; conv => whnf)
    | (refine StReq.own hX rfl 3 hL rfl rfl rfl rfl ?_; clear hL; intro w hL; conv => whnf)
    | (refine StReq.own hX rfl 4 hL rfl rfl rfl rfl ?_; clear hL; intro w hL; conv => whnf)
    | (refine StReq.own hX rfl 5 hL rfl rfl rfl rfl ?_; clear hL; intro w hL; conv => whnf)
    | (refine StReq.own hX rfl 6 hL rfl rfl rfl rfl ?_; clear hL; intro w hL; conv => whnf)
    | (refine ArReq.i64 (by omega) (by omega) ?_; conv => whnf)
    | (refine SeqReq.go hX ?_; conv => whnf)
    | (refine OptReq.mk rfl ?_; conv => whnf))
  refine CallReq.pure (Turn_fn m r _ h hsm) hL ?_
  clear hL
  rintro v m1 w hL hm1 ⟨cs1, rfl, hx⟩
  obtain ⟨k3, v0, v1, v2, v3, A3, n3, c3, lo3, hi3, neg3, rfl⟩ := hx.form
  conv => whnf
  repeat (first
    | (refine BrReq.tt ?_; conv => whnf)
    | (refine BrReq.ff ?_; conv => whnf)
    | (refine LdReq.own1 hX rfl rfl 0 hL rfl rfl ?_; conv => whnf)
    | (refine LdReq.own1 hX rfl rfl 1 hL rfl rfl ?_; conv => whnf)
    | (refine LdReq.own1 hX rfl rfl 2 hL rfl rfl ?_; conv => whnf)
    | (refine LdReq.own1 hX rfl rfl 3 hL rfl rfl ?_; conv => whnf)
    | (refine LdReq.own1 hX rfl rfl 4 hL rfl rfl ?_; conv => whnf)
    | (refine LdReq.own1 hX rfl rfl 5 hL rfl rfl ?_; conv => whnf)
    | (refine LdReq.own1 hX rfl rfl 6 hL rfl rfl ?_; conv => whnf)
    | (refine LdReq.ownA hX rfl rfl 0 hL rfl rfl ?_; conv => whnf)
    | (refine LdReq.ownA hX rfl rfl 1 hL rfl rfl ?_; conv => whnf)
    | (refine LdReq.ownA hX rfl rfl 2 hL rfl rfl ?_; conv => whnf)
    | (refine LdReq.ownA hX rfl rfl 3 hL rfl rfl ?_; conv => whnf)
    | (refine LdReq.ownA hX rfl rfl 4 hL rfl rfl ?_; conv => whnf)
    | (refine LdReq.ownA hX rfl rfl 5 hL rfl rfl ?_; conv => whnf)
    | (refine LdReq.ownA hX rfl rfl 6 hL rfl rfl ?_; conv => whnf)
    | (refine StReq.own hX rfl 0 hL rfl rfl rfl rfl ?_; clear hL; intro w hL; conv => whnf)
    | (refine StReq.own hX rfl 1 hL rfl rfl rfl rfl ?_; clear hL; intro w hL; conv => whnf)
    | (refine StReq.own hX rfl 2 hL rfl rfl rfl rfl ?_; clear hL; intro w hL; conv => whnf)
    | (refine StReq.own hX rfl 3 hL rfl rfl rfl rfl ?_; clear hL; intro w hL; conv => whnf)
    | (refine StReq.own hX rfl 4 hL rfl rfl rfl rfl ?_; clear hL; intro w hL; conv => whnf)
    | (refine StReq.own hX rfl 5 hL rfl rfl rfl rfl ?_; clear hL; intro w hL; conv => whnf)
    | (refine StReq.own hX rfl 6 hL rfl rfl rfl rfl ?_; clear hL; intro w hL; conv => whnf)
    | (refine ArReq.i64 (by omega) (by omega) ?_; conv => whnf)
    | (refine SeqReq.go hX ?_; conv => whnf)
    | (refine OptReq.mk rfl ?_; conv => whnf))
  refine NewReq.mk hL ?_
  clear hL
  intro b5 w hL
  conv => whnf
  conv => whnf
  repeat (first
    | (refine BrReq.tt ?_; conv => whnf)
    | (refine BrReq.ff ?_; conv => whnf)
    | (refine LdReq.own1 hX rfl rfl 0 hL rfl rfl ?_; conv => whnf)
    | (refine LdReq.own1 hX rfl rfl 1 hL rfl rfl ?_; conv => whnf)
    | (refine LdReq.own1 hX rfl rfl 2 hL rfl rfl ?_; conv => whnf)
    | (refine LdReq.own1 hX rfl rfl 3 hL rfl rfl ?_; conv => whnf)
    | (refine LdReq.own1 hX rfl rfl 4 hL rfl rfl ?_; conv => whnf)
    | (refine LdReq.own1 hX rfl rfl 5 hL rfl rfl ?_; conv => whnf)
    | (refine LdReq.own1 hX rfl rfl 6 hL rfl rfl ?_; conv => whnf)
    | (refine LdReq.ownA hX rfl rfl 0 hL rfl rfl ?_; conv => whnf)
    | (refine LdReq.ownA hX rfl rfl 1 hL rfl rfl ?_; conv => whnf)
    | (refine LdReq.ownA hX rfl rfl 2 hL rfl rfl ?_; conv => whnf)
    | (refine LdReq.ownA hX rfl rfl 3 hL rfl rfl ?_; conv => whnf)
    | (refine LdReq.ownA hX rfl rfl 4 hL rfl rfl ?_; conv => whnf)
    | (refine LdReq.ownA hX rfl rfl 5 hL rfl rfl ?_; conv => whnf)
    | (refine LdReq.ownA hX rfl rfl 6 hL rfl rfl ?_; conv => whnf)
    | (refine StReq.own hX rfl 0 hL rfl rfl rfl rfl ?_; clear hL; intro w hL; conv => whnf)
    | (refine StReq.own hX rfl 1 hL rfl rfl rfl rfl ?_; clear hL; intro w hL; conv => whnf)
    | (refine StReq.own hX rfl 2 hL rfl rfl rfl rfl ?_; clear hL; intro w hL; conv => whnf)
    | (refine StReq.own hX rfl 3 hL rfl rfl rfl rfl ?_; clear hL; intro w hL; conv => whnf)
    | (refine StReq.own hX rfl 4 hL rfl rfl rfl rfl ?_; clear hL; intro w hL; conv => whnf)
    | (refine StReq.own hX rfl 5 hL rfl rfl rfl rfl ?_; clear hL; intro w hL; conv => whnf)
    | (refine StReq.own hX rfl 6 hL rfl rfl rfl rfl ?_; clear hL; intro w hL; conv => whnf)
    | (refine ArReq.i64 (by omega) (by omega) ?_; conv => whnf)
    | (refine SeqReq.go hX ?_; conv => whnf)
    | (refine OptReq.mk rfl ?_; conv => whnf))
  refine CallReq.val (refFormed_fn m1 r _ (h.le hm1)) hL ?_
  clear hL
  intro w hL
  conv => whnf
  repeat (first
    | (refine BrReq.tt ?_; conv => whnf)
    | (refine BrReq.ff ?_; conv => whnf)
    | (refine LdReq.own1 hX rfl rfl 0 hL rfl rfl ?_; conv => whnf)
    | (refine LdReq.own1 hX rfl rfl 1 hL rfl rfl ?_; conv => whnf)
    | (refine LdReq.own1 hX rfl rfl 2 hL rfl rfl ?_; conv => whnf)
    | (refine LdReq.own1 hX rfl rfl 3 hL rfl rfl ?_; conv => whnf)
    | (refine LdReq.own1 hX rfl rfl 4 hL rfl rfl ?_; conv => whnf)
    | (refine LdReq.own1 hX rfl rfl 5 hL rfl rfl ?_; conv => whnf)
    | (refine LdReq.own1 hX rfl rfl 6 hL rfl rfl ?_; conv => whnf)
    | (refine LdReq.ownA hX rfl rfl 0 hL rfl rfl ?_; conv => whnf)
    | (refine LdReq.ownA hX rfl rfl 1 hL rfl rfl ?_; conv => whnf)
    | (refine LdReq.ownA hX rfl rfl 2 hL rfl rfl ?_; conv => whnf)
    | (refine LdReq.ownA hX rfl rfl 3 hL rfl rfl ?_; conv => whnf)
    | (refine LdReq.ownA hX rfl rfl 4 hL rfl rfl ?_; conv => whnf)
    | (refine LdReq.ownA hX rfl rfl 5 hL rfl rfl ?_; conv => whnf)
    | (refine LdReq.ownA hX rfl rfl 6 hL rfl rfl ?_; conv => whnf)
    | (refine StReq.own hX rfl 0 hL rfl rfl rfl rfl ?_; clear hL; intro w hL; conv => whnf)
    | (refine StReq.own hX rfl 1 hL rfl rfl rfl rfl ?_; clear hL; intro w hL; conv => whnf)
    | (refine StReq.own hX rfl 2 hL rfl rfl rfl rfl ?_; clear hL; intro w hL; conv => whnf)
    | (refine StReq.own hX rfl 3 hL rfl rfl rfl rfl ?_; clear hL; intro w hL; conv => whnf)
    | (refine StReq.own hX rfl 4 hL rfl rfl rfl rfl ?_; clear hL; intro w hL; conv => whnf)
    | (refine StReq.own hX rfl 5 hL rfl rfl rfl rfl ?_; clear hL; intro w hL; conv => whnf)
    | (refine StReq.own hX rfl 6 hL rfl rfl rfl rfl ?_; clear hL; intro w hL; conv => whnf)
    | (refine ArReq.i64 (by omega) (by omega) ?_; conv => whnf)
    | (refine SeqReq.go hX ?_; conv => whnf)
    | (refine OptReq.mk rfl ?_; conv => whnf))
  refine BrReq.not ?_
  refine BrReq.bool (fun g => ?_) (fun g => ?_)
  rotate_left
  · rw [if_neg (by rw [g]; simp)] at hx
    obtain ⟨rfl, rfl⟩ := leaf_inv hx
    conv => whnf
    repeat (first
      | (refine BrReq.tt ?_; conv => whnf)
      | (refine BrReq.ff ?_; conv => whnf)
      | (refine LdReq.own1 hX rfl rfl 0 hL rfl rfl ?_; conv => whnf)
      | (refine LdReq.own1 hX rfl rfl 1 hL rfl rfl ?_; conv => whnf)
      | (refine LdReq.own1 hX rfl rfl 2 hL rfl rfl ?_; conv => whnf)
      | (refine LdReq.own1 hX rfl rfl 3 hL rfl rfl ?_; conv => whnf)
      | (refine LdReq.own1 hX rfl rfl 4 hL rfl rfl ?_; conv => whnf)
      | (refine LdReq.own1 hX rfl rfl 5 hL rfl rfl ?_; conv => whnf)
      | (refine LdReq.own1 hX rfl rfl 6 hL rfl rfl ?_; conv => whnf)
      | (refine LdReq.ownA hX rfl rfl 0 hL rfl rfl ?_; conv => whnf)
      | (refine LdReq.ownA hX rfl rfl 1 hL rfl rfl ?_; conv => whnf)
      | (refine LdReq.ownA hX rfl rfl 2 hL rfl rfl ?_; conv => whnf)
      | (refine LdReq.ownA hX rfl rfl 3 hL rfl rfl ?_; conv => whnf)
      | (refine LdReq.ownA hX rfl rfl 4 hL rfl rfl ?_; conv => whnf)
      | (refine LdReq.ownA hX rfl rfl 5 hL rfl rfl ?_; conv => whnf)
      | (refine LdReq.ownA hX rfl rfl 6 hL rfl rfl ?_; conv => whnf)
      | (refine StReq.own hX rfl 0 hL rfl rfl rfl rfl ?_; clear hL; intro w hL; conv => whnf)
      | (refine StReq.own hX rfl 1 hL rfl rfl rfl rfl ?_; clear hL; intro w hL; conv => whnf)
      | (refine StReq.own hX rfl 2 hL rfl rfl rfl rfl ?_; clear hL; intro w hL; conv => whnf)
      | (refine StReq.own hX rfl 3 hL rfl rfl rfl rfl ?_; clear hL; intro w hL; conv => whnf)
      | (refine StReq.own hX rfl 4 hL rfl rfl rfl rfl ?_; clear hL; intro w hL; conv => whnf)
      | (refine StReq.own hX rfl 5 hL rfl rfl rfl rfl ?_; clear hL; intro w hL; conv => whnf)
      | (refine StReq.own hX rfl 6 hL rfl rfl rfl rfl ?_; clear hL; intro w hL; conv => whnf)
      | (refine ArReq.i64 (by omega) (by omega) ?_; conv => whnf)
      | (refine SeqReq.go hX ?_; conv => whnf)
      | (refine OptReq.mk rfl ?_; conv => whnf))
    exact RetReq.mk hL.drop.drop ⟨rfl, rfl⟩
  rw [if_pos g] at hx
  have hg := g
  unfold formedR at hg
  simp only [Bool.and_eq_true, decide_eq_true_eq] at hg
  obtain ⟨⟨hdeep, hall⟩, -⟩ := hg
  have hdeep' : deepR 40 (turnR r) ≤ 40 := by rw [deep_turn]; exact hdeep
  conv => whnf
  repeat (first
    | (refine BrReq.tt ?_; conv => whnf)
    | (refine BrReq.ff ?_; conv => whnf)
    | (refine LdReq.own1 hX rfl rfl 0 hL rfl rfl ?_; conv => whnf)
    | (refine LdReq.own1 hX rfl rfl 1 hL rfl rfl ?_; conv => whnf)
    | (refine LdReq.own1 hX rfl rfl 2 hL rfl rfl ?_; conv => whnf)
    | (refine LdReq.own1 hX rfl rfl 3 hL rfl rfl ?_; conv => whnf)
    | (refine LdReq.own1 hX rfl rfl 4 hL rfl rfl ?_; conv => whnf)
    | (refine LdReq.own1 hX rfl rfl 5 hL rfl rfl ?_; conv => whnf)
    | (refine LdReq.own1 hX rfl rfl 6 hL rfl rfl ?_; conv => whnf)
    | (refine LdReq.ownA hX rfl rfl 0 hL rfl rfl ?_; conv => whnf)
    | (refine LdReq.ownA hX rfl rfl 1 hL rfl rfl ?_; conv => whnf)
    | (refine LdReq.ownA hX rfl rfl 2 hL rfl rfl ?_; conv => whnf)
    | (refine LdReq.ownA hX rfl rfl 3 hL rfl rfl ?_; conv => whnf)
    | (refine LdReq.ownA hX rfl rfl 4 hL rfl rfl ?_; conv => whnf)
    | (refine LdReq.ownA hX rfl rfl 5 hL rfl rfl ?_; conv => whnf)
    | (refine LdReq.ownA hX rfl rfl 6 hL rfl rfl ?_; conv => whnf)
    | (refine StReq.own hX rfl 0 hL rfl rfl rfl rfl ?_; clear hL; intro w hL; conv => whnf)
    | (refine StReq.own hX rfl 1 hL rfl rfl rfl rfl ?_; clear hL; intro w hL; conv => whnf)
    | (refine StReq.own hX rfl 2 hL rfl rfl rfl rfl ?_; clear hL; intro w hL; conv => whnf)
    | (refine StReq.own hX rfl 3 hL rfl rfl rfl rfl ?_; clear hL; intro w hL; conv => whnf)
    | (refine StReq.own hX rfl 4 hL rfl rfl rfl rfl ?_; clear hL; intro w hL; conv => whnf)
    | (refine StReq.own hX rfl 5 hL rfl rfl rfl rfl ?_; clear hL; intro w hL; conv => whnf)
    | (refine StReq.own hX rfl 6 hL rfl rfl rfl rfl ?_; clear hL; intro w hL; conv => whnf)
    | (refine ArReq.i64 (by omega) (by omega) ?_; conv => whnf)
    | (refine SeqReq.go hX ?_; conv => whnf)
    | (refine OptReq.mk rfl ?_; conv => whnf))
  refine DrawReq.plan hX (.fst 0 (.fst 1 (.alt 2 (.alt 3 (.fst 4 (.fst 5 (.fst 6 (.fst 8 (.alt 7 (.alt 9 (.fst 10 (.fst 11 (.done))) (.stop)) (.stop)))))) (.stop)) (.stop)))) _ (by kernel_rfl) (by kernel_rfl) hL id ?_
  clear hL
  intro w hL
  conv => whnf
  repeat (first
    | (refine QLdReq.own1 hX rfl rfl 0 rfl rfl ?_; conv => whnf)
    | (refine QLdReq.own1 hX rfl rfl 1 rfl rfl ?_; conv => whnf)
    | (refine QLdReq.own1 hX rfl rfl 2 rfl rfl ?_; conv => whnf)
    | (refine QLdReq.own1 hX rfl rfl 3 rfl rfl ?_; conv => whnf)
    | (refine QLdReq.ownA hX rfl rfl 0 rfl rfl ?_; conv => whnf)
    | (refine QLdReq.ownA hX rfl rfl 1 rfl rfl ?_; conv => whnf)
    | (refine QLdReq.ownA hX rfl rfl 2 rfl rfl ?_; conv => whnf)
    | (refine QLdReq.ownA hX rfl rfl 3 rfl rfl ?_; conv => whnf)
    | (refine AltReq.one ?_; conv => whnf)
    | (refine BrReq.tt ?_; conv => whnf)
    | (refine BrReq.ff ?_; conv => whnf)
    | (refine LdReq.own1 hX rfl rfl 0 hL rfl rfl ?_; conv => whnf)
    | (refine LdReq.own1 hX rfl rfl 1 hL rfl rfl ?_; conv => whnf)
    | (refine LdReq.own1 hX rfl rfl 2 hL rfl rfl ?_; conv => whnf)
    | (refine LdReq.own1 hX rfl rfl 3 hL rfl rfl ?_; conv => whnf)
    | (refine LdReq.own1 hX rfl rfl 4 hL rfl rfl ?_; conv => whnf)
    | (refine LdReq.own1 hX rfl rfl 5 hL rfl rfl ?_; conv => whnf)
    | (refine LdReq.own1 hX rfl rfl 6 hL rfl rfl ?_; conv => whnf)
    | (refine LdReq.ownA hX rfl rfl 0 hL rfl rfl ?_; conv => whnf)
    | (refine LdReq.ownA hX rfl rfl 1 hL rfl rfl ?_; conv => whnf)
    | (refine LdReq.ownA hX rfl rfl 2 hL rfl rfl ?_; conv => whnf)
    | (refine LdReq.ownA hX rfl rfl 3 hL rfl rfl ?_; conv => whnf)
    | (refine LdReq.ownA hX rfl rfl 4 hL rfl rfl ?_; conv => whnf)
    | (refine LdReq.ownA hX rfl rfl 5 hL rfl rfl ?_; conv => whnf)
    | (refine LdReq.ownA hX rfl rfl 6 hL rfl rfl ?_; conv => whnf)
    | (refine StReq.own hX rfl 0 hL rfl rfl rfl rfl ?_; clear hL; intro w hL; conv => whnf)
    | (refine StReq.own hX rfl 1 hL rfl rfl rfl rfl ?_; clear hL; intro w hL; conv => whnf)
    | (refine StReq.own hX rfl 2 hL rfl rfl rfl rfl ?_; clear hL; intro w hL; conv => whnf)
    | (refine StReq.own hX rfl 3 hL rfl rfl rfl rfl ?_; clear hL; intro w hL; conv => whnf)
    | (refine StReq.own hX rfl 4 hL rfl rfl rfl rfl ?_; clear hL; intro w hL; conv => whnf)
    | (refine StReq.own hX rfl 5 hL rfl rfl rfl rfl ?_; clear hL; intro w hL; conv => whnf)
    | (refine StReq.own hX rfl 6 hL rfl rfl rfl rfl ?_; clear hL; intro w hL; conv => whnf)
    | (refine ArReq.i64 (by omega) (by omega) ?_; conv => whnf)
    | (refine SeqReq.go hX ?_; conv => whnf)
    | (refine OptReq.mk rfl ?_; conv => whnf))
  refine CallReq.pure (refTurn_fn r m1 _ (h.le hm1) hsm) hL ?_
  clear hL
  rintro v m2 w hL hm2 ⟨cs2, rfl, hy⟩
  obtain ⟨k4, x0, x1, x2, x3, A4, n4, c4, lo4, hi4, neg4, rfl⟩ := hy.form
  conv => whnf
  repeat (first
    | (refine SReq.mk (hL.weaken hm2 hm1) ?_; conv => whnf)
    | (refine QLdReq.own1 hX rfl rfl 0 rfl rfl ?_; conv => whnf)
    | (refine QLdReq.own1 hX rfl rfl 1 rfl rfl ?_; conv => whnf)
    | (refine QLdReq.own1 hX rfl rfl 2 rfl rfl ?_; conv => whnf)
    | (refine QLdReq.own1 hX rfl rfl 3 rfl rfl ?_; conv => whnf)
    | (refine QLdReq.ownA hX rfl rfl 0 rfl rfl ?_; conv => whnf)
    | (refine QLdReq.ownA hX rfl rfl 1 rfl rfl ?_; conv => whnf)
    | (refine QLdReq.ownA hX rfl rfl 2 rfl rfl ?_; conv => whnf)
    | (refine QLdReq.ownA hX rfl rfl 3 rfl rfl ?_; conv => whnf)
    | (refine AltReq.one ?_; conv => whnf)
    | (refine BrReq.tt ?_; conv => whnf)
    | (refine BrReq.ff ?_; conv => whnf)
    | (refine LdReq.own1 hX rfl rfl 0 hL rfl rfl ?_; conv => whnf)
    | (refine LdReq.own1 hX rfl rfl 1 hL rfl rfl ?_; conv => whnf)
    | (refine LdReq.own1 hX rfl rfl 2 hL rfl rfl ?_; conv => whnf)
    | (refine LdReq.own1 hX rfl rfl 3 hL rfl rfl ?_; conv => whnf)
    | (refine LdReq.own1 hX rfl rfl 4 hL rfl rfl ?_; conv => whnf)
    | (refine LdReq.own1 hX rfl rfl 5 hL rfl rfl ?_; conv => whnf)
    | (refine LdReq.own1 hX rfl rfl 6 hL rfl rfl ?_; conv => whnf)
    | (refine LdReq.ownA hX rfl rfl 0 hL rfl rfl ?_; conv => whnf)
    | (refine LdReq.ownA hX rfl rfl 1 hL rfl rfl ?_; conv => whnf)
    | (refine LdReq.ownA hX rfl rfl 2 hL rfl rfl ?_; conv => whnf)
    | (refine LdReq.ownA hX rfl rfl 3 hL rfl rfl ?_; conv => whnf)
    | (refine LdReq.ownA hX rfl rfl 4 hL rfl rfl ?_; conv => whnf)
    | (refine LdReq.ownA hX rfl rfl 5 hL rfl rfl ?_; conv => whnf)
    | (refine LdReq.ownA hX rfl rfl 6 hL rfl rfl ?_; conv => whnf)
    | (refine StReq.own hX rfl 0 hL rfl rfl rfl rfl ?_; clear hL; intro w hL; conv => whnf)
    | (refine StReq.own hX rfl 1 hL rfl rfl rfl rfl ?_; clear hL; intro w hL; conv => whnf)
    | (refine StReq.own hX rfl 2 hL rfl rfl rfl rfl ?_; clear hL; intro w hL; conv => whnf)
    | (refine StReq.own hX rfl 3 hL rfl rfl rfl rfl ?_; clear hL; intro w hL; conv => whnf)
    | (refine StReq.own hX rfl 4 hL rfl rfl rfl rfl ?_; clear hL; intro w hL; conv => whnf)
    | (refine StReq.own hX rfl 5 hL rfl rfl rfl rfl ?_; clear hL; intro w hL; conv => whnf)
    | (refine StReq.own hX rfl 6 hL rfl rfl rfl rfl ?_; clear hL; intro w hL; conv => whnf)
    | (refine ArReq.i64 (by omega) (by omega) ?_; conv => whnf)
    | (refine SeqReq.go hX ?_; conv => whnf)
    | (refine OptReq.mk rfl ?_; conv => whnf))
  refine CallReq.val (refSame_fn 41 m2 _ _ _ _ (hx.le hm2) hy (by omega)) hL ?_
  clear hL
  intro w hL
  rw [sameR_refl 40 _ hdeep']
  conv => whnf
  repeat (first
    | (refine SReq.mk (hL.weaken hm2 hm1) ?_; conv => whnf)
    | (refine QLdReq.own1 hX rfl rfl 0 rfl rfl ?_; conv => whnf)
    | (refine QLdReq.own1 hX rfl rfl 1 rfl rfl ?_; conv => whnf)
    | (refine QLdReq.own1 hX rfl rfl 2 rfl rfl ?_; conv => whnf)
    | (refine QLdReq.own1 hX rfl rfl 3 rfl rfl ?_; conv => whnf)
    | (refine QLdReq.ownA hX rfl rfl 0 rfl rfl ?_; conv => whnf)
    | (refine QLdReq.ownA hX rfl rfl 1 rfl rfl ?_; conv => whnf)
    | (refine QLdReq.ownA hX rfl rfl 2 rfl rfl ?_; conv => whnf)
    | (refine QLdReq.ownA hX rfl rfl 3 rfl rfl ?_; conv => whnf)
    | (refine AltReq.one ?_; conv => whnf)
    | (refine BrReq.tt ?_; conv => whnf)
    | (refine BrReq.ff ?_; conv => whnf)
    | (refine LdReq.own1 hX rfl rfl 0 hL rfl rfl ?_; conv => whnf)
    | (refine LdReq.own1 hX rfl rfl 1 hL rfl rfl ?_; conv => whnf)
    | (refine LdReq.own1 hX rfl rfl 2 hL rfl rfl ?_; conv => whnf)
    | (refine LdReq.own1 hX rfl rfl 3 hL rfl rfl ?_; conv => whnf)
    | (refine LdReq.own1 hX rfl rfl 4 hL rfl rfl ?_; conv => whnf)
    | (refine LdReq.own1 hX rfl rfl 5 hL rfl rfl ?_; conv => whnf)
    | (refine LdReq.own1 hX rfl rfl 6 hL rfl rfl ?_; conv => whnf)
    | (refine LdReq.ownA hX rfl rfl 0 hL rfl rfl ?_; conv => whnf)
    | (refine LdReq.ownA hX rfl rfl 1 hL rfl rfl ?_; conv => whnf)
    | (refine LdReq.ownA hX rfl rfl 2 hL rfl rfl ?_; conv => whnf)
    | (refine LdReq.ownA hX rfl rfl 3 hL rfl rfl ?_; conv => whnf)
    | (refine LdReq.ownA hX rfl rfl 4 hL rfl rfl ?_; conv => whnf)
    | (refine LdReq.ownA hX rfl rfl 5 hL rfl rfl ?_; conv => whnf)
    | (refine LdReq.ownA hX rfl rfl 6 hL rfl rfl ?_; conv => whnf)
    | (refine StReq.own hX rfl 0 hL rfl rfl rfl rfl ?_; clear hL; intro w hL; conv => whnf)
    | (refine StReq.own hX rfl 1 hL rfl rfl rfl rfl ?_; clear hL; intro w hL; conv => whnf)
    | (refine StReq.own hX rfl 2 hL rfl rfl rfl rfl ?_; clear hL; intro w hL; conv => whnf)
    | (refine StReq.own hX rfl 3 hL rfl rfl rfl rfl ?_; clear hL; intro w hL; conv => whnf)
    | (refine StReq.own hX rfl 4 hL rfl rfl rfl rfl ?_; clear hL; intro w hL; conv => whnf)
    | (refine StReq.own hX rfl 5 hL rfl rfl rfl rfl ?_; clear hL; intro w hL; conv => whnf)
    | (refine StReq.own hX rfl 6 hL rfl rfl rfl rfl ?_; clear hL; intro w hL; conv => whnf)
    | (refine ArReq.i64 (by omega) (by omega) ?_; conv => whnf)
    | (refine SeqReq.go hX ?_; conv => whnf)
    | (refine OptReq.mk rfl ?_; conv => whnf))
  refine CallReq.pure (Turn_fn m2 _ _ (hx.le hm2) (small_turn r hsm)) hL ?_
  clear hL
  rintro v m3 w hL hm3 ⟨cs3, rfl, hz⟩
  rw [if_pos (formed_turn r g), turn_turn] at hz
  obtain ⟨k5, y0, y1, y2, y3, A5, n5, c5, lo5, hi5, neg5, rfl⟩ := hz.form
  have hm13 := hm2.trans hm3
  conv => whnf
  repeat (first
    | (refine SReq.mk (hL.weaken hm13 hm1) ?_; conv => whnf)
    | (refine QLdReq.own1 hX rfl rfl 0 rfl rfl ?_; conv => whnf)
    | (refine QLdReq.own1 hX rfl rfl 1 rfl rfl ?_; conv => whnf)
    | (refine QLdReq.own1 hX rfl rfl 2 rfl rfl ?_; conv => whnf)
    | (refine QLdReq.own1 hX rfl rfl 3 rfl rfl ?_; conv => whnf)
    | (refine QLdReq.ownA hX rfl rfl 0 rfl rfl ?_; conv => whnf)
    | (refine QLdReq.ownA hX rfl rfl 1 rfl rfl ?_; conv => whnf)
    | (refine QLdReq.ownA hX rfl rfl 2 rfl rfl ?_; conv => whnf)
    | (refine QLdReq.ownA hX rfl rfl 3 rfl rfl ?_; conv => whnf)
    | (refine AltReq.one ?_; conv => whnf)
    | (refine BrReq.tt ?_; conv => whnf)
    | (refine BrReq.ff ?_; conv => whnf)
    | (refine LdReq.own1 hX rfl rfl 0 hL rfl rfl ?_; conv => whnf)
    | (refine LdReq.own1 hX rfl rfl 1 hL rfl rfl ?_; conv => whnf)
    | (refine LdReq.own1 hX rfl rfl 2 hL rfl rfl ?_; conv => whnf)
    | (refine LdReq.own1 hX rfl rfl 3 hL rfl rfl ?_; conv => whnf)
    | (refine LdReq.own1 hX rfl rfl 4 hL rfl rfl ?_; conv => whnf)
    | (refine LdReq.own1 hX rfl rfl 5 hL rfl rfl ?_; conv => whnf)
    | (refine LdReq.own1 hX rfl rfl 6 hL rfl rfl ?_; conv => whnf)
    | (refine LdReq.ownA hX rfl rfl 0 hL rfl rfl ?_; conv => whnf)
    | (refine LdReq.ownA hX rfl rfl 1 hL rfl rfl ?_; conv => whnf)
    | (refine LdReq.ownA hX rfl rfl 2 hL rfl rfl ?_; conv => whnf)
    | (refine LdReq.ownA hX rfl rfl 3 hL rfl rfl ?_; conv => whnf)
    | (refine LdReq.ownA hX rfl rfl 4 hL rfl rfl ?_; conv => whnf)
    | (refine LdReq.ownA hX rfl rfl 5 hL rfl rfl ?_; conv => whnf)
    | (refine LdReq.ownA hX rfl rfl 6 hL rfl rfl ?_; conv => whnf)
    | (refine StReq.own hX rfl 0 hL rfl rfl rfl rfl ?_; clear hL; intro w hL; conv => whnf)
    | (refine StReq.own hX rfl 1 hL rfl rfl rfl rfl ?_; clear hL; intro w hL; conv => whnf)
    | (refine StReq.own hX rfl 2 hL rfl rfl rfl rfl ?_; clear hL; intro w hL; conv => whnf)
    | (refine StReq.own hX rfl 3 hL rfl rfl rfl rfl ?_; clear hL; intro w hL; conv => whnf)
    | (refine StReq.own hX rfl 4 hL rfl rfl rfl rfl ?_; clear hL; intro w hL; conv => whnf)
    | (refine StReq.own hX rfl 5 hL rfl rfl rfl rfl ?_; clear hL; intro w hL; conv => whnf)
    | (refine StReq.own hX rfl 6 hL rfl rfl rfl rfl ?_; clear hL; intro w hL; conv => whnf)
    | (refine ArReq.i64 (by omega) (by omega) ?_; conv => whnf)
    | (refine SeqReq.go hX ?_; conv => whnf)
    | (refine OptReq.mk rfl ?_; conv => whnf))
  refine CallReq.val (refSame_fn 41 m3 _ _ _ _ hz ((h.le hm1).le hm13) (by omega)) hL ?_
  clear hL
  intro w hL
  rw [sameR_refl 40 _ hdeep]
  conv => whnf
  repeat (first
    | (refine SReq.mk (hL.weaken hm13 hm1) ?_; conv => whnf)
    | (refine QLdReq.own1 hX rfl rfl 0 rfl rfl ?_; conv => whnf)
    | (refine QLdReq.own1 hX rfl rfl 1 rfl rfl ?_; conv => whnf)
    | (refine QLdReq.own1 hX rfl rfl 2 rfl rfl ?_; conv => whnf)
    | (refine QLdReq.own1 hX rfl rfl 3 rfl rfl ?_; conv => whnf)
    | (refine QLdReq.ownA hX rfl rfl 0 rfl rfl ?_; conv => whnf)
    | (refine QLdReq.ownA hX rfl rfl 1 rfl rfl ?_; conv => whnf)
    | (refine QLdReq.ownA hX rfl rfl 2 rfl rfl ?_; conv => whnf)
    | (refine QLdReq.ownA hX rfl rfl 3 rfl rfl ?_; conv => whnf)
    | (refine AltReq.one ?_; conv => whnf)
    | (refine BrReq.tt ?_; conv => whnf)
    | (refine BrReq.ff ?_; conv => whnf)
    | (refine LdReq.own1 hX rfl rfl 0 hL rfl rfl ?_; conv => whnf)
    | (refine LdReq.own1 hX rfl rfl 1 hL rfl rfl ?_; conv => whnf)
    | (refine LdReq.own1 hX rfl rfl 2 hL rfl rfl ?_; conv => whnf)
    | (refine LdReq.own1 hX rfl rfl 3 hL rfl rfl ?_; conv => whnf)
    | (refine LdReq.own1 hX rfl rfl 4 hL rfl rfl ?_; conv => whnf)
    | (refine LdReq.own1 hX rfl rfl 5 hL rfl rfl ?_; conv => whnf)
    | (refine LdReq.own1 hX rfl rfl 6 hL rfl rfl ?_; conv => whnf)
    | (refine LdReq.ownA hX rfl rfl 0 hL rfl rfl ?_; conv => whnf)
    | (refine LdReq.ownA hX rfl rfl 1 hL rfl rfl ?_; conv => whnf)
    | (refine LdReq.ownA hX rfl rfl 2 hL rfl rfl ?_; conv => whnf)
    | (refine LdReq.ownA hX rfl rfl 3 hL rfl rfl ?_; conv => whnf)
    | (refine LdReq.ownA hX rfl rfl 4 hL rfl rfl ?_; conv => whnf)
    | (refine LdReq.ownA hX rfl rfl 5 hL rfl rfl ?_; conv => whnf)
    | (refine LdReq.ownA hX rfl rfl 6 hL rfl rfl ?_; conv => whnf)
    | (refine StReq.own hX rfl 0 hL rfl rfl rfl rfl ?_; clear hL; intro w hL; conv => whnf)
    | (refine StReq.own hX rfl 1 hL rfl rfl rfl rfl ?_; clear hL; intro w hL; conv => whnf)
    | (refine StReq.own hX rfl 2 hL rfl rfl rfl rfl ?_; clear hL; intro w hL; conv => whnf)
    | (refine StReq.own hX rfl 3 hL rfl rfl rfl rfl ?_; clear hL; intro w hL; conv => whnf)
    | (refine StReq.own hX rfl 4 hL rfl rfl rfl rfl ?_; clear hL; intro w hL; conv => whnf)
    | (refine StReq.own hX rfl 5 hL rfl rfl rfl rfl ?_; clear hL; intro w hL; conv => whnf)
    | (refine StReq.own hX rfl 6 hL rfl rfl rfl rfl ?_; clear hL; intro w hL; conv => whnf)
    | (refine ArReq.i64 (by omega) (by omega) ?_; conv => whnf)
    | (refine SeqReq.go hX ?_; conv => whnf)
    | (refine OptReq.mk rfl ?_; conv => whnf))
  have hm03 : Mem.Le m m3 := hm1.trans hm13
  refine DrawReq.plan hX (.fst 0 (.fst 1 (.fst 3 (.fst 4 (.alt 2 (.alt 5 (.alt 6 (.fst 7 (.fst 8 (.done))) (.stop)) (.stop)) (.stop)))))) _ (by kernel_rfl) (by kernel_rfl) hL id ?_
  clear hL
  intro w hL
  conv => whnf
  repeat (first
    | (refine QLdReq.own1 hX rfl rfl 0 rfl rfl ?_; conv => whnf)
    | (refine QLdReq.own1 hX rfl rfl 1 rfl rfl ?_; conv => whnf)
    | (refine QLdReq.own1 hX rfl rfl 2 rfl rfl ?_; conv => whnf)
    | (refine QLdReq.own1 hX rfl rfl 3 rfl rfl ?_; conv => whnf)
    | (refine QLdReq.ownA hX rfl rfl 0 rfl rfl ?_; conv => whnf)
    | (refine QLdReq.ownA hX rfl rfl 1 rfl rfl ?_; conv => whnf)
    | (refine QLdReq.ownA hX rfl rfl 2 rfl rfl ?_; conv => whnf)
    | (refine QLdReq.ownA hX rfl rfl 3 rfl rfl ?_; conv => whnf)
    | (refine AltReq.one ?_; conv => whnf)
    | (refine BrReq.tt ?_; conv => whnf)
    | (refine BrReq.ff ?_; conv => whnf)
    | (refine LdReq.own1 hX rfl rfl 0 hL rfl rfl ?_; conv => whnf)
    | (refine LdReq.own1 hX rfl rfl 1 hL rfl rfl ?_; conv => whnf)
    | (refine LdReq.own1 hX rfl rfl 2 hL rfl rfl ?_; conv => whnf)
    | (refine LdReq.own1 hX rfl rfl 3 hL rfl rfl ?_; conv => whnf)
    | (refine LdReq.own1 hX rfl rfl 4 hL rfl rfl ?_; conv => whnf)
    | (refine LdReq.own1 hX rfl rfl 5 hL rfl rfl ?_; conv => whnf)
    | (refine LdReq.own1 hX rfl rfl 6 hL rfl rfl ?_; conv => whnf)
    | (refine LdReq.ownA hX rfl rfl 0 hL rfl rfl ?_; conv => whnf)
    | (refine LdReq.ownA hX rfl rfl 1 hL rfl rfl ?_; conv => whnf)
    | (refine LdReq.ownA hX rfl rfl 2 hL rfl rfl ?_; conv => whnf)
    | (refine LdReq.ownA hX rfl rfl 3 hL rfl rfl ?_; conv => whnf)
    | (refine LdReq.ownA hX rfl rfl 4 hL rfl rfl ?_; conv => whnf)
    | (refine LdReq.ownA hX rfl rfl 5 hL rfl rfl ?_; conv => whnf)
    | (refine LdReq.ownA hX rfl rfl 6 hL rfl rfl ?_; conv => whnf)
    | (refine StReq.own hX rfl 0 hL rfl rfl rfl rfl ?_; clear hL; intro w hL; conv => whnf)
    | (refine StReq.own hX rfl 1 hL rfl rfl rfl rfl ?_; clear hL; intro w hL; conv => whnf)
    | (refine StReq.own hX rfl 2 hL rfl rfl rfl rfl ?_; clear hL; intro w hL; conv => whnf)
    | (refine StReq.own hX rfl 3 hL rfl rfl rfl rfl ?_; clear hL; intro w hL; conv => whnf)
    | (refine StReq.own hX rfl 4 hL rfl rfl rfl rfl ?_; clear hL; intro w hL; conv => whnf)
    | (refine StReq.own hX rfl 5 hL rfl rfl rfl rfl ?_; clear hL; intro w hL; conv => whnf)
    | (refine StReq.own hX rfl 6 hL rfl rfl rfl rfl ?_; clear hL; intro w hL; conv => whnf)
    | (refine ArReq.i64 (by omega) (by omega) ?_; conv => whnf)
    | (refine SeqReq.go hX ?_; conv => whnf)
    | (refine OptReq.mk rfl ?_; conv => whnf))
  refine CallReq.pure (Spans_fn r m3 _ _ ws (h.le hm03) hsm hall (hw0.le' hm03) hwb (by omega)) hL ?_
  clear hL
  rintro v m4 w hL hm4 hta
  obtain ⟨A6, c6, rfl⟩ := hta.form
  conv => whnf
  repeat (first
    | (refine SReq.mk (hL.weaken hm4 hm03) ?_; conv => whnf)
    | (refine QLdReq.own1 hX rfl rfl 0 rfl rfl ?_; conv => whnf)
    | (refine QLdReq.own1 hX rfl rfl 1 rfl rfl ?_; conv => whnf)
    | (refine QLdReq.own1 hX rfl rfl 2 rfl rfl ?_; conv => whnf)
    | (refine QLdReq.own1 hX rfl rfl 3 rfl rfl ?_; conv => whnf)
    | (refine QLdReq.ownA hX rfl rfl 0 rfl rfl ?_; conv => whnf)
    | (refine QLdReq.ownA hX rfl rfl 1 rfl rfl ?_; conv => whnf)
    | (refine QLdReq.ownA hX rfl rfl 2 rfl rfl ?_; conv => whnf)
    | (refine QLdReq.ownA hX rfl rfl 3 rfl rfl ?_; conv => whnf)
    | (refine AltReq.one ?_; conv => whnf)
    | (refine BrReq.tt ?_; conv => whnf)
    | (refine BrReq.ff ?_; conv => whnf)
    | (refine LdReq.own1 hX rfl rfl 0 hL rfl rfl ?_; conv => whnf)
    | (refine LdReq.own1 hX rfl rfl 1 hL rfl rfl ?_; conv => whnf)
    | (refine LdReq.own1 hX rfl rfl 2 hL rfl rfl ?_; conv => whnf)
    | (refine LdReq.own1 hX rfl rfl 3 hL rfl rfl ?_; conv => whnf)
    | (refine LdReq.own1 hX rfl rfl 4 hL rfl rfl ?_; conv => whnf)
    | (refine LdReq.own1 hX rfl rfl 5 hL rfl rfl ?_; conv => whnf)
    | (refine LdReq.own1 hX rfl rfl 6 hL rfl rfl ?_; conv => whnf)
    | (refine LdReq.ownA hX rfl rfl 0 hL rfl rfl ?_; conv => whnf)
    | (refine LdReq.ownA hX rfl rfl 1 hL rfl rfl ?_; conv => whnf)
    | (refine LdReq.ownA hX rfl rfl 2 hL rfl rfl ?_; conv => whnf)
    | (refine LdReq.ownA hX rfl rfl 3 hL rfl rfl ?_; conv => whnf)
    | (refine LdReq.ownA hX rfl rfl 4 hL rfl rfl ?_; conv => whnf)
    | (refine LdReq.ownA hX rfl rfl 5 hL rfl rfl ?_; conv => whnf)
    | (refine LdReq.ownA hX rfl rfl 6 hL rfl rfl ?_; conv => whnf)
    | (refine StReq.own hX rfl 0 hL rfl rfl rfl rfl ?_; clear hL; intro w hL; conv => whnf)
    | (refine StReq.own hX rfl 1 hL rfl rfl rfl rfl ?_; clear hL; intro w hL; conv => whnf)
    | (refine StReq.own hX rfl 2 hL rfl rfl rfl rfl ?_; clear hL; intro w hL; conv => whnf)
    | (refine StReq.own hX rfl 3 hL rfl rfl rfl rfl ?_; clear hL; intro w hL; conv => whnf)
    | (refine StReq.own hX rfl 4 hL rfl rfl rfl rfl ?_; clear hL; intro w hL; conv => whnf)
    | (refine StReq.own hX rfl 5 hL rfl rfl rfl rfl ?_; clear hL; intro w hL; conv => whnf)
    | (refine StReq.own hX rfl 6 hL rfl rfl rfl rfl ?_; clear hL; intro w hL; conv => whnf)
    | (refine ArReq.i64 (by omega) (by omega) ?_; conv => whnf)
    | (refine SeqReq.go hX ?_; conv => whnf)
    | (refine OptReq.mk rfl ?_; conv => whnf))
  refine CallReq.pure (reversed_fn m4 _ ws (hw0.le' (hm03.trans hm4)) (by omega)) hL ?_
  clear hL
  rintro v m5 w hL hm5 hrev
  obtain ⟨A7, n7, c7, e7, -⟩ := id hrev
  subst e7
  conv => whnf
  repeat (first
    | (refine SReq.mk (hL.weaken (hm4.trans hm5) hm03) ?_; conv => whnf)
    | (refine QLdReq.own1 hX rfl rfl 0 rfl rfl ?_; conv => whnf)
    | (refine QLdReq.own1 hX rfl rfl 1 rfl rfl ?_; conv => whnf)
    | (refine QLdReq.own1 hX rfl rfl 2 rfl rfl ?_; conv => whnf)
    | (refine QLdReq.own1 hX rfl rfl 3 rfl rfl ?_; conv => whnf)
    | (refine QLdReq.ownA hX rfl rfl 0 rfl rfl ?_; conv => whnf)
    | (refine QLdReq.ownA hX rfl rfl 1 rfl rfl ?_; conv => whnf)
    | (refine QLdReq.ownA hX rfl rfl 2 rfl rfl ?_; conv => whnf)
    | (refine QLdReq.ownA hX rfl rfl 3 rfl rfl ?_; conv => whnf)
    | (refine AltReq.one ?_; conv => whnf)
    | (refine BrReq.tt ?_; conv => whnf)
    | (refine BrReq.ff ?_; conv => whnf)
    | (refine LdReq.own1 hX rfl rfl 0 hL rfl rfl ?_; conv => whnf)
    | (refine LdReq.own1 hX rfl rfl 1 hL rfl rfl ?_; conv => whnf)
    | (refine LdReq.own1 hX rfl rfl 2 hL rfl rfl ?_; conv => whnf)
    | (refine LdReq.own1 hX rfl rfl 3 hL rfl rfl ?_; conv => whnf)
    | (refine LdReq.own1 hX rfl rfl 4 hL rfl rfl ?_; conv => whnf)
    | (refine LdReq.own1 hX rfl rfl 5 hL rfl rfl ?_; conv => whnf)
    | (refine LdReq.own1 hX rfl rfl 6 hL rfl rfl ?_; conv => whnf)
    | (refine LdReq.ownA hX rfl rfl 0 hL rfl rfl ?_; conv => whnf)
    | (refine LdReq.ownA hX rfl rfl 1 hL rfl rfl ?_; conv => whnf)
    | (refine LdReq.ownA hX rfl rfl 2 hL rfl rfl ?_; conv => whnf)
    | (refine LdReq.ownA hX rfl rfl 3 hL rfl rfl ?_; conv => whnf)
    | (refine LdReq.ownA hX rfl rfl 4 hL rfl rfl ?_; conv => whnf)
    | (refine LdReq.ownA hX rfl rfl 5 hL rfl rfl ?_; conv => whnf)
    | (refine LdReq.ownA hX rfl rfl 6 hL rfl rfl ?_; conv => whnf)
    | (refine StReq.own hX rfl 0 hL rfl rfl rfl rfl ?_; clear hL; intro w hL; conv => whnf)
    | (refine StReq.own hX rfl 1 hL rfl rfl rfl rfl ?_; clear hL; intro w hL; conv => whnf)
    | (refine StReq.own hX rfl 2 hL rfl rfl rfl rfl ?_; clear hL; intro w hL; conv => whnf)
    | (refine StReq.own hX rfl 3 hL rfl rfl rfl rfl ?_; clear hL; intro w hL; conv => whnf)
    | (refine StReq.own hX rfl 4 hL rfl rfl rfl rfl ?_; clear hL; intro w hL; conv => whnf)
    | (refine StReq.own hX rfl 5 hL rfl rfl rfl rfl ?_; clear hL; intro w hL; conv => whnf)
    | (refine StReq.own hX rfl 6 hL rfl rfl rfl rfl ?_; clear hL; intro w hL; conv => whnf)
    | (refine ArReq.i64 (by omega) (by omega) ?_; conv => whnf)
    | (refine SeqReq.go hX ?_; conv => whnf)
    | (refine OptReq.mk rfl ?_; conv => whnf))
  refine CallReq.pure (Spans_fn (turnR r) m5 _ _ ws.reverse (hx.le (hm13.trans (hm4.trans hm5))) (small_turn r hsm) (all_turn r hall) hrev (fun z hz => hwb z (List.mem_reverse.1 hz)) (by rw [List.length_reverse]; omega)) hL ?_
  clear hL
  rintro v m6 w hL hm6 htb
  rw [List.length_reverse] at htb
  obtain ⟨A8, c8, rfl⟩ := htb.form
  replace hta := hta.le (hm5.trans hm6)
  have hsp := spans_turn ws r hall
  conv => whnf
  repeat (first
    | (refine SReq.mk (hL.weaken (hm4.trans (hm5.trans hm6)) hm03) ?_; conv => whnf)
    | (refine QLdReq.own1 hX rfl rfl 0 rfl rfl ?_; conv => whnf)
    | (refine QLdReq.own1 hX rfl rfl 1 rfl rfl ?_; conv => whnf)
    | (refine QLdReq.own1 hX rfl rfl 2 rfl rfl ?_; conv => whnf)
    | (refine QLdReq.own1 hX rfl rfl 3 rfl rfl ?_; conv => whnf)
    | (refine QLdReq.ownA hX rfl rfl 0 rfl rfl ?_; conv => whnf)
    | (refine QLdReq.ownA hX rfl rfl 1 rfl rfl ?_; conv => whnf)
    | (refine QLdReq.ownA hX rfl rfl 2 rfl rfl ?_; conv => whnf)
    | (refine QLdReq.ownA hX rfl rfl 3 rfl rfl ?_; conv => whnf)
    | (refine AltReq.one ?_; conv => whnf)
    | (refine BrReq.tt ?_; conv => whnf)
    | (refine BrReq.ff ?_; conv => whnf)
    | (refine LdReq.own1 hX rfl rfl 0 hL rfl rfl ?_; conv => whnf)
    | (refine LdReq.own1 hX rfl rfl 1 hL rfl rfl ?_; conv => whnf)
    | (refine LdReq.own1 hX rfl rfl 2 hL rfl rfl ?_; conv => whnf)
    | (refine LdReq.own1 hX rfl rfl 3 hL rfl rfl ?_; conv => whnf)
    | (refine LdReq.own1 hX rfl rfl 4 hL rfl rfl ?_; conv => whnf)
    | (refine LdReq.own1 hX rfl rfl 5 hL rfl rfl ?_; conv => whnf)
    | (refine LdReq.own1 hX rfl rfl 6 hL rfl rfl ?_; conv => whnf)
    | (refine LdReq.ownA hX rfl rfl 0 hL rfl rfl ?_; conv => whnf)
    | (refine LdReq.ownA hX rfl rfl 1 hL rfl rfl ?_; conv => whnf)
    | (refine LdReq.ownA hX rfl rfl 2 hL rfl rfl ?_; conv => whnf)
    | (refine LdReq.ownA hX rfl rfl 3 hL rfl rfl ?_; conv => whnf)
    | (refine LdReq.ownA hX rfl rfl 4 hL rfl rfl ?_; conv => whnf)
    | (refine LdReq.ownA hX rfl rfl 5 hL rfl rfl ?_; conv => whnf)
    | (refine LdReq.ownA hX rfl rfl 6 hL rfl rfl ?_; conv => whnf)
    | (refine StReq.own hX rfl 0 hL rfl rfl rfl rfl ?_; clear hL; intro w hL; conv => whnf)
    | (refine StReq.own hX rfl 1 hL rfl rfl rfl rfl ?_; clear hL; intro w hL; conv => whnf)
    | (refine StReq.own hX rfl 2 hL rfl rfl rfl rfl ?_; clear hL; intro w hL; conv => whnf)
    | (refine StReq.own hX rfl 3 hL rfl rfl rfl rfl ?_; clear hL; intro w hL; conv => whnf)
    | (refine StReq.own hX rfl 4 hL rfl rfl rfl rfl ?_; clear hL; intro w hL; conv => whnf)
    | (refine StReq.own hX rfl 5 hL rfl rfl rfl rfl ?_; clear hL; intro w hL; conv => whnf)
    | (refine StReq.own hX rfl 6 hL rfl rfl rfl rfl ?_; clear hL; intro w hL; conv => whnf)
    | (refine ArReq.i64 (by omega) (by omega) ?_; conv => whnf)
    | (refine SeqReq.go hX ?_; conv => whnf)
    | (refine OptReq.mk rfl ?_; conv => whnf))
  refine LoopReq.inv hX (fun i : Nat => [(61, .int .i64 i)]) [6, 7, 8, 60]
    (fun i w => i ≤ ws.length + 1 ∧ Ev.Loc m [] w0 m6 [] w) (fun i => ws.length + 1 - i) 0
    ⟨by omega, nil_sub hL⟩ ⟨rfl, trivial⟩ ?_
  clear hL
  rintro i w f ⟨hi, hL⟩
  conv => whnf
  repeat (first
    | (refine BrReq.tt ?_; conv => whnf)
    | (refine BrReq.ff ?_; conv => whnf)
    | (refine LdReq.own1 hX rfl rfl 0 hL rfl rfl ?_; conv => whnf)
    | (refine LdReq.own1 hX rfl rfl 1 hL rfl rfl ?_; conv => whnf)
    | (refine LdReq.own1 hX rfl rfl 2 hL rfl rfl ?_; conv => whnf)
    | (refine LdReq.own1 hX rfl rfl 3 hL rfl rfl ?_; conv => whnf)
    | (refine LdReq.own1 hX rfl rfl 4 hL rfl rfl ?_; conv => whnf)
    | (refine LdReq.own1 hX rfl rfl 5 hL rfl rfl ?_; conv => whnf)
    | (refine LdReq.own1 hX rfl rfl 6 hL rfl rfl ?_; conv => whnf)
    | (refine LdReq.ownA hX rfl rfl 0 hL rfl rfl ?_; conv => whnf)
    | (refine LdReq.ownA hX rfl rfl 1 hL rfl rfl ?_; conv => whnf)
    | (refine LdReq.ownA hX rfl rfl 2 hL rfl rfl ?_; conv => whnf)
    | (refine LdReq.ownA hX rfl rfl 3 hL rfl rfl ?_; conv => whnf)
    | (refine LdReq.ownA hX rfl rfl 4 hL rfl rfl ?_; conv => whnf)
    | (refine LdReq.ownA hX rfl rfl 5 hL rfl rfl ?_; conv => whnf)
    | (refine LdReq.ownA hX rfl rfl 6 hL rfl rfl ?_; conv => whnf)
    | (refine StReq.own hX rfl 0 hL rfl rfl rfl rfl ?_; clear hL; intro w hL; conv => whnf)
    | (refine StReq.own hX rfl 1 hL rfl rfl rfl rfl ?_; clear hL; intro w hL; conv => whnf)
    | (refine StReq.own hX rfl 2 hL rfl rfl rfl rfl ?_; clear hL; intro w hL; conv => whnf)
    | (refine StReq.own hX rfl 3 hL rfl rfl rfl rfl ?_; clear hL; intro w hL; conv => whnf)
    | (refine StReq.own hX rfl 4 hL rfl rfl rfl rfl ?_; clear hL; intro w hL; conv => whnf)
    | (refine StReq.own hX rfl 5 hL rfl rfl rfl rfl ?_; clear hL; intro w hL; conv => whnf)
    | (refine StReq.own hX rfl 6 hL rfl rfl rfl rfl ?_; clear hL; intro w hL; conv => whnf)
    | (refine ArReq.i64 (by omega) (by omega) ?_; conv => whnf)
    | (refine SeqReq.go hX ?_; conv => whnf)
    | (refine OptReq.mk rfl ?_; conv => whnf))
  refine BrReq.dec (fun hlt => ?_) (fun hlt => ?_)
  rotate_left
  · conv => whnf
    repeat (first
      | (refine BrReq.tt ?_; conv => whnf)
      | (refine BrReq.ff ?_; conv => whnf)
      | (refine LdReq.own1 hX rfl rfl 0 hL rfl rfl ?_; conv => whnf)
      | (refine LdReq.own1 hX rfl rfl 1 hL rfl rfl ?_; conv => whnf)
      | (refine LdReq.own1 hX rfl rfl 2 hL rfl rfl ?_; conv => whnf)
      | (refine LdReq.own1 hX rfl rfl 3 hL rfl rfl ?_; conv => whnf)
      | (refine LdReq.own1 hX rfl rfl 4 hL rfl rfl ?_; conv => whnf)
      | (refine LdReq.own1 hX rfl rfl 5 hL rfl rfl ?_; conv => whnf)
      | (refine LdReq.own1 hX rfl rfl 6 hL rfl rfl ?_; conv => whnf)
      | (refine LdReq.ownA hX rfl rfl 0 hL rfl rfl ?_; conv => whnf)
      | (refine LdReq.ownA hX rfl rfl 1 hL rfl rfl ?_; conv => whnf)
      | (refine LdReq.ownA hX rfl rfl 2 hL rfl rfl ?_; conv => whnf)
      | (refine LdReq.ownA hX rfl rfl 3 hL rfl rfl ?_; conv => whnf)
      | (refine LdReq.ownA hX rfl rfl 4 hL rfl rfl ?_; conv => whnf)
      | (refine LdReq.ownA hX rfl rfl 5 hL rfl rfl ?_; conv => whnf)
      | (refine LdReq.ownA hX rfl rfl 6 hL rfl rfl ?_; conv => whnf)
      | (refine StReq.own hX rfl 0 hL rfl rfl rfl rfl ?_; clear hL; intro w hL; conv => whnf)
      | (refine StReq.own hX rfl 1 hL rfl rfl rfl rfl ?_; clear hL; intro w hL; conv => whnf)
      | (refine StReq.own hX rfl 2 hL rfl rfl rfl rfl ?_; clear hL; intro w hL; conv => whnf)
      | (refine StReq.own hX rfl 3 hL rfl rfl rfl rfl ?_; clear hL; intro w hL; conv => whnf)
      | (refine StReq.own hX rfl 4 hL rfl rfl rfl rfl ?_; clear hL; intro w hL; conv => whnf)
      | (refine StReq.own hX rfl 5 hL rfl rfl rfl rfl ?_; clear hL; intro w hL; conv => whnf)
      | (refine StReq.own hX rfl 6 hL rfl rfl rfl rfl ?_; clear hL; intro w hL; conv => whnf)
      | (refine ArReq.i64 (by omega) (by omega) ?_; conv => whnf)
      | (refine SeqReq.go hX ?_; conv => whnf)
      | (refine OptReq.mk rfl ?_; conv => whnf))
    exact RetReq.mk hL ⟨rfl, rfl⟩
  have hin : i < ws.length + 1 := by omega
  obtain ⟨A9, c9, a9, A10, c10, e9, ea, hrow, hcols⟩ := row_all hta hin
  cases e9
  cases ea
  conv => whnf
  repeat (first
    | (refine BrReq.tt ?_; conv => whnf)
    | (refine BrReq.ff ?_; conv => whnf)
    | (refine LdReq.own1 hX rfl rfl 0 hL rfl rfl ?_; conv => whnf)
    | (refine LdReq.own1 hX rfl rfl 1 hL rfl rfl ?_; conv => whnf)
    | (refine LdReq.own1 hX rfl rfl 2 hL rfl rfl ?_; conv => whnf)
    | (refine LdReq.own1 hX rfl rfl 3 hL rfl rfl ?_; conv => whnf)
    | (refine LdReq.own1 hX rfl rfl 4 hL rfl rfl ?_; conv => whnf)
    | (refine LdReq.own1 hX rfl rfl 5 hL rfl rfl ?_; conv => whnf)
    | (refine LdReq.own1 hX rfl rfl 6 hL rfl rfl ?_; conv => whnf)
    | (refine LdReq.ownA hX rfl rfl 0 hL rfl rfl ?_; conv => whnf)
    | (refine LdReq.ownA hX rfl rfl 1 hL rfl rfl ?_; conv => whnf)
    | (refine LdReq.ownA hX rfl rfl 2 hL rfl rfl ?_; conv => whnf)
    | (refine LdReq.ownA hX rfl rfl 3 hL rfl rfl ?_; conv => whnf)
    | (refine LdReq.ownA hX rfl rfl 4 hL rfl rfl ?_; conv => whnf)
    | (refine LdReq.ownA hX rfl rfl 5 hL rfl rfl ?_; conv => whnf)
    | (refine LdReq.ownA hX rfl rfl 6 hL rfl rfl ?_; conv => whnf)
    | (refine StReq.own hX rfl 0 hL rfl rfl rfl rfl ?_; clear hL; intro w hL; conv => whnf)
    | (refine StReq.own hX rfl 1 hL rfl rfl rfl rfl ?_; clear hL; intro w hL; conv => whnf)
    | (refine StReq.own hX rfl 2 hL rfl rfl rfl rfl ?_; clear hL; intro w hL; conv => whnf)
    | (refine StReq.own hX rfl 3 hL rfl rfl rfl rfl ?_; clear hL; intro w hL; conv => whnf)
    | (refine StReq.own hX rfl 4 hL rfl rfl rfl rfl ?_; clear hL; intro w hL; conv => whnf)
    | (refine StReq.own hX rfl 5 hL rfl rfl rfl rfl ?_; clear hL; intro w hL; conv => whnf)
    | (refine StReq.own hX rfl 6 hL rfl rfl rfl rfl ?_; clear hL; intro w hL; conv => whnf)
    | (refine ArReq.i64 (by omega) (by omega) ?_; conv => whnf)
    | (refine SeqReq.go hX ?_; conv => whnf)
    | (refine OptReq.mk rfl ?_; conv => whnf))
  refine LoopReq.inv hX (fun j : Nat => [(10, .int .i64 j)]) [6, 7, 8, 9, 60, 61]
    (fun j w => (i ≤ j ∧ j ≤ ws.length + 1) ∧ Ev.Loc m [] w0 m6 [] w) (fun j => ws.length + 1 - j) i
    ⟨by omega, hL⟩ ⟨rfl, trivial⟩ ?_
  clear hL
  rintro j w g ⟨⟨hij, hj⟩, hL⟩
  conv => whnf
  repeat (first
    | (refine BrReq.tt ?_; conv => whnf)
    | (refine BrReq.ff ?_; conv => whnf)
    | (refine LdReq.own1 hX rfl rfl 0 hL rfl rfl ?_; conv => whnf)
    | (refine LdReq.own1 hX rfl rfl 1 hL rfl rfl ?_; conv => whnf)
    | (refine LdReq.own1 hX rfl rfl 2 hL rfl rfl ?_; conv => whnf)
    | (refine LdReq.own1 hX rfl rfl 3 hL rfl rfl ?_; conv => whnf)
    | (refine LdReq.own1 hX rfl rfl 4 hL rfl rfl ?_; conv => whnf)
    | (refine LdReq.own1 hX rfl rfl 5 hL rfl rfl ?_; conv => whnf)
    | (refine LdReq.own1 hX rfl rfl 6 hL rfl rfl ?_; conv => whnf)
    | (refine LdReq.ownA hX rfl rfl 0 hL rfl rfl ?_; conv => whnf)
    | (refine LdReq.ownA hX rfl rfl 1 hL rfl rfl ?_; conv => whnf)
    | (refine LdReq.ownA hX rfl rfl 2 hL rfl rfl ?_; conv => whnf)
    | (refine LdReq.ownA hX rfl rfl 3 hL rfl rfl ?_; conv => whnf)
    | (refine LdReq.ownA hX rfl rfl 4 hL rfl rfl ?_; conv => whnf)
    | (refine LdReq.ownA hX rfl rfl 5 hL rfl rfl ?_; conv => whnf)
    | (refine LdReq.ownA hX rfl rfl 6 hL rfl rfl ?_; conv => whnf)
    | (refine StReq.own hX rfl 0 hL rfl rfl rfl rfl ?_; clear hL; intro w hL; conv => whnf)
    | (refine StReq.own hX rfl 1 hL rfl rfl rfl rfl ?_; clear hL; intro w hL; conv => whnf)
    | (refine StReq.own hX rfl 2 hL rfl rfl rfl rfl ?_; clear hL; intro w hL; conv => whnf)
    | (refine StReq.own hX rfl 3 hL rfl rfl rfl rfl ?_; clear hL; intro w hL; conv => whnf)
    | (refine StReq.own hX rfl 4 hL rfl rfl rfl rfl ?_; clear hL; intro w hL; conv => whnf)
    | (refine StReq.own hX rfl 5 hL rfl rfl rfl rfl ?_; clear hL; intro w hL; conv => whnf)
    | (refine StReq.own hX rfl 6 hL rfl rfl rfl rfl ?_; clear hL; intro w hL; conv => whnf)
    | (refine ArReq.i64 (by omega) (by omega) ?_; conv => whnf)
    | (refine SeqReq.go hX ?_; conv => whnf)
    | (refine OptReq.mk rfl ?_; conv => whnf))
  refine BrReq.dec (fun hlt2 => ?_) (fun hlt2 => ?_)
  · have hjn : j < ws.length + 1 := by omega
    obtain ⟨a10, ea, hval⟩ := hcols j hjn
    cases ea
    obtain ⟨B9, d9, b9, B10, d10, e9, eb, hrowb, hcolsb⟩ := row_all htb (show ws.length - j < ws.length + 1 by omega)
    cases e9
    cases eb
    obtain ⟨b10, eb, hvalb⟩ := hcolsb (ws.length - i) (by omega)
    cases eb
    have heq : spansR ws.reverse (turnR r) (ws.length - j) (ws.length - i) = spansR ws r i j := by
      rw [hsp _ _ (by omega) (by omega)]; unfold rv; rw [show ws.length - (ws.length - i) = i by omega, show ws.length - (ws.length - j) = j by omega]
    rw [heq] at hvalb
    conv => whnf
    repeat (first
      | (refine BrReq.tt ?_; conv => whnf)
      | (refine BrReq.ff ?_; conv => whnf)
      | (refine LdReq.own1 hX rfl rfl 0 hL rfl rfl ?_; conv => whnf)
      | (refine LdReq.own1 hX rfl rfl 1 hL rfl rfl ?_; conv => whnf)
      | (refine LdReq.own1 hX rfl rfl 2 hL rfl rfl ?_; conv => whnf)
      | (refine LdReq.own1 hX rfl rfl 3 hL rfl rfl ?_; conv => whnf)
      | (refine LdReq.own1 hX rfl rfl 4 hL rfl rfl ?_; conv => whnf)
      | (refine LdReq.own1 hX rfl rfl 5 hL rfl rfl ?_; conv => whnf)
      | (refine LdReq.own1 hX rfl rfl 6 hL rfl rfl ?_; conv => whnf)
      | (refine LdReq.ownA hX rfl rfl 0 hL rfl rfl ?_; conv => whnf)
      | (refine LdReq.ownA hX rfl rfl 1 hL rfl rfl ?_; conv => whnf)
      | (refine LdReq.ownA hX rfl rfl 2 hL rfl rfl ?_; conv => whnf)
      | (refine LdReq.ownA hX rfl rfl 3 hL rfl rfl ?_; conv => whnf)
      | (refine LdReq.ownA hX rfl rfl 4 hL rfl rfl ?_; conv => whnf)
      | (refine LdReq.ownA hX rfl rfl 5 hL rfl rfl ?_; conv => whnf)
      | (refine LdReq.ownA hX rfl rfl 6 hL rfl rfl ?_; conv => whnf)
      | (refine StReq.own hX rfl 0 hL rfl rfl rfl rfl ?_; clear hL; intro w hL; conv => whnf)
      | (refine StReq.own hX rfl 1 hL rfl rfl rfl rfl ?_; clear hL; intro w hL; conv => whnf)
      | (refine StReq.own hX rfl 2 hL rfl rfl rfl rfl ?_; clear hL; intro w hL; conv => whnf)
      | (refine StReq.own hX rfl 3 hL rfl rfl rfl rfl ?_; clear hL; intro w hL; conv => whnf)
      | (refine StReq.own hX rfl 4 hL rfl rfl rfl rfl ?_; clear hL; intro w hL; conv => whnf)
      | (refine StReq.own hX rfl 5 hL rfl rfl rfl rfl ?_; clear hL; intro w hL; conv => whnf)
      | (refine StReq.own hX rfl 6 hL rfl rfl rfl rfl ?_; clear hL; intro w hL; conv => whnf)
      | (refine ArReq.i64 (by omega) (by omega) ?_; conv => whnf)
      | (refine SeqReq.go hX ?_; conv => whnf)
      | (refine OptReq.mk rfl ?_; conv => whnf))
    refine DrawReq.plan hX (.fst 0 (.fst 1 (.fst 2 (.fst 3 (.fst 4 (.fst 5 (.fst 6 (.fst 7 (.fst 8 (.fst 9 (.fst 10 (.fst 11 (.fst 12 (.fst 13 (.fst 14 (.fst 15 (.fst 16 (.fst 17 (.fst 18 (.done)))))))))))))))))))) _ (by kernel_rfl) (by kernel_rfl) hL id ?_
    clear hL
    intro w hL
    conv => whnf
    repeat (first
      | (refine Idx2Req.mk i _ rfl (by omega) rfl ?_; conv => whnf)
      | (refine Idx2Req.mk j _ rfl (by omega) rfl ?_; conv => whnf)
      | (refine Idx2Req.mk (ws.length - j) _ (by omega) (by omega) rfl ?_; conv => whnf)
      | (refine Idx2Req.mk (ws.length - i) _ (by omega) (by omega) rfl ?_; conv => whnf)
      | (refine QLdReq.one hX rfl rfl hrow ?_; conv => whnf)
      | (refine QLdReq.one hX rfl rfl hval ?_; conv => whnf)
      | (refine QLdReq.one hX rfl rfl hrowb ?_; conv => whnf)
      | (refine QLdReq.one hX rfl rfl hvalb ?_; conv => whnf)
      | (refine QLdReq.own1 hX rfl rfl 0 rfl rfl ?_; conv => whnf)
      | (refine QLdReq.own1 hX rfl rfl 1 rfl rfl ?_; conv => whnf)
      | (refine QLdReq.own1 hX rfl rfl 2 rfl rfl ?_; conv => whnf)
      | (refine QLdReq.own1 hX rfl rfl 3 rfl rfl ?_; conv => whnf)
      | (refine QLdReq.ownA hX rfl rfl 0 rfl rfl ?_; conv => whnf)
      | (refine QLdReq.ownA hX rfl rfl 1 rfl rfl ?_; conv => whnf)
      | (refine QLdReq.ownA hX rfl rfl 2 rfl rfl ?_; conv => whnf)
      | (refine QLdReq.ownA hX rfl rfl 3 rfl rfl ?_; conv => whnf)
      | (refine AltReq.one ?_; conv => whnf)
      | (refine BrReq.tt ?_; conv => whnf)
      | (refine BrReq.ff ?_; conv => whnf)
      | (refine LdReq.own1 hX rfl rfl 0 hL rfl rfl ?_; conv => whnf)
      | (refine LdReq.own1 hX rfl rfl 1 hL rfl rfl ?_; conv => whnf)
      | (refine LdReq.own1 hX rfl rfl 2 hL rfl rfl ?_; conv => whnf)
      | (refine LdReq.own1 hX rfl rfl 3 hL rfl rfl ?_; conv => whnf)
      | (refine LdReq.own1 hX rfl rfl 4 hL rfl rfl ?_; conv => whnf)
      | (refine LdReq.own1 hX rfl rfl 5 hL rfl rfl ?_; conv => whnf)
      | (refine LdReq.own1 hX rfl rfl 6 hL rfl rfl ?_; conv => whnf)
      | (refine LdReq.ownA hX rfl rfl 0 hL rfl rfl ?_; conv => whnf)
      | (refine LdReq.ownA hX rfl rfl 1 hL rfl rfl ?_; conv => whnf)
      | (refine LdReq.ownA hX rfl rfl 2 hL rfl rfl ?_; conv => whnf)
      | (refine LdReq.ownA hX rfl rfl 3 hL rfl rfl ?_; conv => whnf)
      | (refine LdReq.ownA hX rfl rfl 4 hL rfl rfl ?_; conv => whnf)
      | (refine LdReq.ownA hX rfl rfl 5 hL rfl rfl ?_; conv => whnf)
      | (refine LdReq.ownA hX rfl rfl 6 hL rfl rfl ?_; conv => whnf)
      | (refine StReq.own hX rfl 0 hL rfl rfl rfl rfl ?_; clear hL; intro w hL; conv => whnf)
      | (refine StReq.own hX rfl 1 hL rfl rfl rfl rfl ?_; clear hL; intro w hL; conv => whnf)
      | (refine StReq.own hX rfl 2 hL rfl rfl rfl rfl ?_; clear hL; intro w hL; conv => whnf)
      | (refine StReq.own hX rfl 3 hL rfl rfl rfl rfl ?_; clear hL; intro w hL; conv => whnf)
      | (refine StReq.own hX rfl 4 hL rfl rfl rfl rfl ?_; clear hL; intro w hL; conv => whnf)
      | (refine StReq.own hX rfl 5 hL rfl rfl rfl rfl ?_; clear hL; intro w hL; conv => whnf)
      | (refine StReq.own hX rfl 6 hL rfl rfl rfl rfl ?_; clear hL; intro w hL; conv => whnf)
      | (refine ArReq.i64 (by omega) (by omega) ?_; conv => whnf)
      | (refine SeqReq.go hX ?_; conv => whnf)
      | (refine OptReq.mk rfl ?_; conv => whnf))
    refine BrReq.bool (fun hne => by simp at hne) (fun _ => ?_)
    conv => whnf
    repeat (first
      | (refine BrReq.tt ?_; conv => whnf)
      | (refine BrReq.ff ?_; conv => whnf)
      | (refine LdReq.own1 hX rfl rfl 0 hL rfl rfl ?_; conv => whnf)
      | (refine LdReq.own1 hX rfl rfl 1 hL rfl rfl ?_; conv => whnf)
      | (refine LdReq.own1 hX rfl rfl 2 hL rfl rfl ?_; conv => whnf)
      | (refine LdReq.own1 hX rfl rfl 3 hL rfl rfl ?_; conv => whnf)
      | (refine LdReq.own1 hX rfl rfl 4 hL rfl rfl ?_; conv => whnf)
      | (refine LdReq.own1 hX rfl rfl 5 hL rfl rfl ?_; conv => whnf)
      | (refine LdReq.own1 hX rfl rfl 6 hL rfl rfl ?_; conv => whnf)
      | (refine LdReq.ownA hX rfl rfl 0 hL rfl rfl ?_; conv => whnf)
      | (refine LdReq.ownA hX rfl rfl 1 hL rfl rfl ?_; conv => whnf)
      | (refine LdReq.ownA hX rfl rfl 2 hL rfl rfl ?_; conv => whnf)
      | (refine LdReq.ownA hX rfl rfl 3 hL rfl rfl ?_; conv => whnf)
      | (refine LdReq.ownA hX rfl rfl 4 hL rfl rfl ?_; conv => whnf)
      | (refine LdReq.ownA hX rfl rfl 5 hL rfl rfl ?_; conv => whnf)
      | (refine LdReq.ownA hX rfl rfl 6 hL rfl rfl ?_; conv => whnf)
      | (refine StReq.own hX rfl 0 hL rfl rfl rfl rfl ?_; clear hL; intro w hL; conv => whnf)
      | (refine StReq.own hX rfl 1 hL rfl rfl rfl rfl ?_; clear hL; intro w hL; conv => whnf)
      | (refine StReq.own hX rfl 2 hL rfl rfl rfl rfl ?_; clear hL; intro w hL; conv => whnf)
      | (refine StReq.own hX rfl 3 hL rfl rfl rfl rfl ?_; clear hL; intro w hL; conv => whnf)
      | (refine StReq.own hX rfl 4 hL rfl rfl rfl rfl ?_; clear hL; intro w hL; conv => whnf)
      | (refine StReq.own hX rfl 5 hL rfl rfl rfl rfl ?_; clear hL; intro w hL; conv => whnf)
      | (refine StReq.own hX rfl 6 hL rfl rfl rfl rfl ?_; clear hL; intro w hL; conv => whnf)
      | (refine ArReq.i64 (by omega) (by omega) ?_; conv => whnf)
      | (refine SeqReq.go hX ?_; conv => whnf)
      | (refine OptReq.mk rfl ?_; conv => whnf))
    refine ⟨j + 1, ⟨by omega, hL⟩, by omega, ?_, ?_⟩
    · repeat (first | exact trivial | (refine And.intro (by (conv => lhs; whnf) <;> (conv => rhs; whnf) <;> (first | rfl)) ?_))
    · repeat (first | exact trivial | (refine And.intro (by (conv => lhs; whnf) <;> (conv => rhs; whnf) <;> (first | rfl)) ?_))
  · conv => whnf
    repeat (first
      | (refine BrReq.tt ?_; conv => whnf)
      | (refine BrReq.ff ?_; conv => whnf)
      | (refine LdReq.own1 hX rfl rfl 0 hL rfl rfl ?_; conv => whnf)
      | (refine LdReq.own1 hX rfl rfl 1 hL rfl rfl ?_; conv => whnf)
      | (refine LdReq.own1 hX rfl rfl 2 hL rfl rfl ?_; conv => whnf)
      | (refine LdReq.own1 hX rfl rfl 3 hL rfl rfl ?_; conv => whnf)
      | (refine LdReq.own1 hX rfl rfl 4 hL rfl rfl ?_; conv => whnf)
      | (refine LdReq.own1 hX rfl rfl 5 hL rfl rfl ?_; conv => whnf)
      | (refine LdReq.own1 hX rfl rfl 6 hL rfl rfl ?_; conv => whnf)
      | (refine LdReq.ownA hX rfl rfl 0 hL rfl rfl ?_; conv => whnf)
      | (refine LdReq.ownA hX rfl rfl 1 hL rfl rfl ?_; conv => whnf)
      | (refine LdReq.ownA hX rfl rfl 2 hL rfl rfl ?_; conv => whnf)
      | (refine LdReq.ownA hX rfl rfl 3 hL rfl rfl ?_; conv => whnf)
      | (refine LdReq.ownA hX rfl rfl 4 hL rfl rfl ?_; conv => whnf)
      | (refine LdReq.ownA hX rfl rfl 5 hL rfl rfl ?_; conv => whnf)
      | (refine LdReq.ownA hX rfl rfl 6 hL rfl rfl ?_; conv => whnf)
      | (refine StReq.own hX rfl 0 hL rfl rfl rfl rfl ?_; clear hL; intro w hL; conv => whnf)
      | (refine StReq.own hX rfl 1 hL rfl rfl rfl rfl ?_; clear hL; intro w hL; conv => whnf)
      | (refine StReq.own hX rfl 2 hL rfl rfl rfl rfl ?_; clear hL; intro w hL; conv => whnf)
      | (refine StReq.own hX rfl 3 hL rfl rfl rfl rfl ?_; clear hL; intro w hL; conv => whnf)
      | (refine StReq.own hX rfl 4 hL rfl rfl rfl rfl ?_; clear hL; intro w hL; conv => whnf)
      | (refine StReq.own hX rfl 5 hL rfl rfl rfl rfl ?_; clear hL; intro w hL; conv => whnf)
      | (refine StReq.own hX rfl 6 hL rfl rfl rfl rfl ?_; clear hL; intro w hL; conv => whnf)
      | (refine ArReq.i64 (by omega) (by omega) ?_; conv => whnf)
      | (refine SeqReq.go hX ?_; conv => whnf)
      | (refine OptReq.mk rfl ?_; conv => whnf))
    refine ⟨i + 1, ⟨by omega, hL⟩, by omega, ?_, ?_⟩
    · repeat (first | exact trivial | (refine And.intro (by (conv => lhs; whnf) <;> (conv => rhs; whnf) <;> (first | rfl)) ?_))
    · repeat (first | exact trivial | (refine And.intro (by (conv => lhs; whnf) <;> (conv => rhs; whnf) <;> (first | rfl)) ?_))

theorem contract (m : Mem) (vs : List Value) (hl : vs.length = Try.f5.params.size) (hg : ∀ (j : Nat) t v, Try.f5.params.toList[j]? = some t → vs[j]? = some v → Given X m t v) :
    Ev.Fn Try.prog 5 vs m [] fun _ _ v => v = .bool true := by
  match vs, hl with
  | [va, vw], _ =>
    obtain ⟨ca, na, rfl, h2⟩ := (hg 0 27 va rfl rfl).agg rfl rfl
    obtain ⟨a, h2⟩ := re_of na ca h2
    obtain ⟨l, h3, -, h5⟩ := (hg 1 36 vw rfl rfl).ints (k := .u8) rfl rfl rfl rfl rfl
    exact (walk m a _ h2 vw l h3 fun z hz => h5 z hz).mono fun _ _ _ _ h => h.2

theorem spec (H : Type) (ds : List (DataW H)) (h : ds.length = Try.f5.params.size) : Rows.treeTurnsSpec.fn H ds = { results := [.lit (.bool true)], args := ds } := by
  match ds, h with
  | [_, _], _ => rfl

set_option maxRecDepth 100000 in
theorem lifted (os : Os) (started : os.Started) (H : Type) (enc : TypeId × Value → H) :
    ReturnsInHanded {} Try.checked os 5 .any (Rows.treeTurnsSpec.pre6 enc Try.prog Try.f5 Rows.treeTurnsRow.domain false) (Rows.treeTurnsSpec.post enc Try.prog Try.f5 false true false false) := by
  refine returnsInHanded_of_change_sized (C := Try.checked) (by kernel_rfl) started (by kernel_rfl) Try.func5
    (ChangeSpec.witness6 (enc := enc) (C := Try.checked) false ⟨#[], #[.agg #[.int .i64 0, .int .u64 0, .int .u64 0, .int .u64 0, .int .u64 0, .slice none 0 0, .int .i64 0, .int .i64 0, .bool false], .slice none 0 0], []⟩ 8 (by kernel_rfl) (by kernel_rfl) (by kernel_rfl) (by kernel_rfl)) ?_
  intro W base args ds gs before hval hW _ hsz _
  exact law_core hX (by kernel_rfl) rfl rfl Try.underlying4 (by decide +kernel) (fun H ds h => spec H ds h) contract W base args ds gs before hval hW hsz

set_option maxRecDepth 100000 in
theorem proved : Rows.TreeTurnsSaid :=
  OpenClaim.holds_of_wide 5 Try.f5 rfl rfl rfl rfl rfl rfl rfl ⟨rfl, rfl, rfl, rfl, rfl⟩ rfl rfl rfl rfl rfl (by kernel_rfl) Try.func5 (by kernel_rfl)
    (of_decide_eq_true (by kernel_rfl)) (by unfold Func.isWrapper; first | (rw [if_pos (by decide +kernel)]; kernel_rfl) | (rw [if_neg (by decide +kernel)]; exact ⟨rfl, rfl⟩))
    (fun os started H enc _ => lifted os started H enc)
end Go.Proofs.Ytmgfcckboncecaa.treeTurns
