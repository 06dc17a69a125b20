/- Patterns told to be formed, and great. Conditions: none. -/
import Derived.Test.YtemdkfohlppckaaGreatDoorTreeSame

namespace Go.Proofs.YtemdkfohlppckaaGreatDoor.tree
open Go Go.Ev Go.Proofs

/-- How many parts a kind has: any number, one, or none. -/
def partsK (k : Int) : Int := if k = 3 ∨ k = 4 ∨ k = 5 then -1 else if k = 6 ∨ k = 7 ∨ k = 8 ∨ k = 9 then 1 else 0

theorem parts_fn (m : Mem) (k : Int) : FnV Tryz.prog 87 [.int .i64 k] m (.int .i64 (partsK k)) := by
  refine Fn.enter (N := 13) hX Tryz.func87 rfl rfl (by show _ ≤ _; simp) (fun w0 hL => ?_)
  conv => whnf
  conv => whnf
  repeat' (first | ((first | refine zT ?_ | refine zF ?_ | refine zL hX hL ?_ | refine zB hX hL ?_ | (refine zS hX hL ?_; clear hL; intro w hL) | refine zI ?_ | refine zG hX ?_ | refine zO ?_); conv => whnf) | (refine BrReq.dec (fun _ => ?_) (fun _ => ?_) <;> (conv => whnf)) | (refine BrReq.not ?_; refine BrReq.dec (fun _ => ?_) (fun _ => ?_) <;> (conv => whnf)) | (refine BrReq.bool (fun _ => ?_) (fun _ => ?_) <;> (conv => whnf)))
  all_goals (refine RetReq.mk hL ⟨rfl, ?_⟩; refine congrArg (Value.int .i64) ?_; unfold partsK; split <;> first | omega | (split <;> omega))

/-- A node, without its parts, is formed. -/
def Own (k s0 s1 s2 s3 : Int) (len : Nat) (lo hi : Int) (neg : Bool) : Prop :=
  (0 ≤ k ∧ k ≤ 11) ∧ (0 ≤ partsK k → (len : Int) = partsK k) ∧ (k = 2 ∨ (s0 = 0 ∧ s1 = 0 ∧ s2 = 0 ∧ s3 = 0)) ∧ (neg = true → k = 8 ∨ k = 9) ∧
    (k = 7 → 0 ≤ lo ∧ lo ≤ 20 ∧ (hi = -1 ∨ (lo ≤ hi ∧ 1 ≤ hi ∧ hi ≤ 20))) ∧ (k ≠ 7 → lo = 0 ∧ hi = 0)
instance (k s0 s1 s2 s3 : Int) (len : Nat) (lo hi : Int) (neg : Bool) : Decidable (Own k s0 s1 s2 s3 len lo hi neg) := by unfold Own; infer_instance


theorem own_fn (m : Mem) (k s0 s1 s2 s3 : Int) (A : Option Addr) (n c : Nat) (lo hi : Int) (neg : Bool) :
    FnV Tryz.prog 70 [.agg (toArr (reC k s0 s1 s2 s3 (.slice A n c) lo hi neg))] m (.bool (decide (Own k s0 s1 s2 s3 n lo hi neg))) := by
  refine Fn.enter (N := 88) hX Tryz.func70 rfl rfl (by show _ ≤ _; simp) (fun w0 hL => ?_)
  conv => whnf
  refine NewReq.mk hL ?_
  clear hL
  intro b1 w hL
  conv => whnf
  conv => whnf
  repeat ((first | refine zT ?_ | refine zF ?_ | refine zL hX hL ?_ | refine zB hX hL ?_ | (refine zS hX hL ?_; clear hL; intro w hL) | refine zI ?_ | refine zO ?_); conv => whnf)
  refine SeqReq.cut hX (fun _ : Unit => []) [1] (fun _ w => (0 ≤ k ∧ k ≤ 11) ∧ Ev.Loc m [] w0 m [(b1, .cells (toArr (reC k s0 s1 s2 s3 (.slice A n c) lo hi neg)) 36 (0, 0))] w) ?_ ?_
  · conv => whnf
    repeat' (first | ((first | refine zT ?_ | refine zF ?_ | refine zL hX hL ?_ | refine zB hX hL ?_ | (refine zS hX hL ?_; clear hL; intro w hL) | refine zI ?_ | refine zG hX ?_ | refine zO ?_); conv => whnf) | (refine BrReq.dec (fun _ => ?_) (fun _ => ?_) <;> (conv => whnf)) | (refine BrReq.not ?_; refine BrReq.dec (fun _ => ?_) (fun _ => ?_) <;> (conv => whnf)) | (refine BrReq.bool (fun _ => ?_) (fun _ => ?_) <;> (conv => whnf)))
    · exact RetReq.mk hL.drop ⟨rfl, congrArg Value.bool (decide_eq_false (fun h => by have := h.1; omega)).symm⟩
    · exact RetReq.mk hL.drop ⟨rfl, congrArg Value.bool (decide_eq_false (fun h => by have := h.1; omega)).symm⟩
    · exact ⟨(), ⟨by omega, hL⟩, trivial, rfl, trivial⟩
  clear hL
  rintro _ w f ⟨hk, hL⟩
  conv => whnf
  repeat ((first | refine zT ?_ | refine zF ?_ | refine zL hX hL ?_ | refine zB hX hL ?_ | (refine zS hX hL ?_; clear hL; intro w hL) | refine zI ?_ | refine zO ?_); conv => whnf)
  refine SeqReq.cut hX (fun _ : Unit => []) [1] (fun _ w => (0 ≤ partsK k → (n : Int) = partsK k) ∧ Ev.Loc m [] w0 m [(b1, .cells (toArr (reC k s0 s1 s2 s3 (.slice A n c) lo hi neg)) 36 (0, 0))] w) ?_ ?_
  · conv => whnf
    repeat ((first | refine zT ?_ | refine zF ?_ | refine zL hX hL ?_ | refine zB hX hL ?_ | (refine zS hX hL ?_; clear hL; intro w hL) | refine zI ?_ | refine zG hX ?_ | refine zO ?_); conv => whnf)
    refine CallReq.val (parts_fn m k) hL ?_
    clear hL
    intro w hL
    conv => whnf
    repeat' (first | ((first | refine zT ?_ | refine zF ?_ | refine zL hX hL ?_ | refine zB hX hL ?_ | (refine zS hX hL ?_; clear hL; intro w hL) | refine zI ?_ | refine zG hX ?_ | refine zO ?_); conv => whnf) | (refine BrReq.dec (fun _ => ?_) (fun _ => ?_) <;> (conv => whnf)) | (refine BrReq.not ?_; refine BrReq.dec (fun _ => ?_) (fun _ => ?_) <;> (conv => whnf)) | (refine BrReq.bool (fun _ => ?_) (fun _ => ?_) <;> (conv => whnf)))
    · exact RetReq.mk hL.drop ⟨rfl, congrArg Value.bool (decide_eq_false (fun h => by have := h.2.1; omega)).symm⟩
    · exact ⟨(), ⟨by omega, hL⟩, trivial, rfl, trivial⟩
    · exact ⟨(), ⟨by omega, hL⟩, trivial, rfl, trivial⟩
  clear hL
  rintro _ w f ⟨hn, hL⟩
  conv => whnf
  repeat ((first | refine zT ?_ | refine zF ?_ | refine zL hX hL ?_ | refine zB hX hL ?_ | (refine zS hX hL ?_; clear hL; intro w hL) | refine zI ?_ | refine zO ?_); conv => whnf)
  refine SeqReq.cut hX (fun _ : Unit => []) [1] (fun _ w => ((k = 2 ∨ (s0 = 0 ∧ s1 = 0 ∧ s2 = 0 ∧ s3 = 0)) ∧ (neg = true → k = 8 ∨ k = 9)) ∧ Ev.Loc m [] w0 m [(b1, .cells (toArr (reC k s0 s1 s2 s3 (.slice A n c) lo hi neg)) 36 (0, 0))] w) ?_ ?_
  · conv => whnf
    repeat' (first | ((first | refine UGenReq.neA hX rfl rfl rfl Tryz.eqGuardType33 rfl rfl rfl ?_ | refine zT ?_ | refine zF ?_ | refine zL hX hL ?_ | refine zB hX hL ?_ | (refine zS hX hL ?_; clear hL; intro w hL) | refine zI ?_ | refine zG hX ?_ | refine zO ?_); conv => whnf) | (refine BrReq.dec (fun _ => ?_) (fun _ => ?_) <;> (conv => whnf)) | (refine BrReq.not ?_; refine BrReq.dec (fun _ => ?_) (fun _ => ?_) <;> (conv => whnf)) | (refine BrReq.bool (fun _ => ?_) (fun _ => ?_) <;> (conv => whnf)))
    all_goals first
      | (refine RetReq.mk hL.drop ⟨rfl, congrArg Value.bool (decide_eq_false (fun h => ?_)).symm⟩; obtain ⟨_, _, h3, h4, _⟩ := h; first | (simp_all; done) | (simp_all; omega))
      | (refine ⟨(), ⟨⟨?_, ?_⟩, hL⟩, trivial, rfl, trivial⟩ <;> first | (simp_all; done) | (simp_all; omega))
  clear hL
  rintro _ w f ⟨⟨hs, hg⟩, hL⟩
  have hO : Own k s0 s1 s2 s3 n lo hi neg ↔ ((k = 7 → 0 ≤ lo ∧ lo ≤ 20 ∧ (hi = -1 ∨ (lo ≤ hi ∧ 1 ≤ hi ∧ hi ≤ 20))) ∧ (k ≠ 7 → lo = 0 ∧ hi = 0)) :=
    ⟨fun h => ⟨h.2.2.2.2.1, h.2.2.2.2.2⟩, fun h => ⟨hk, hn, hs, hg, h.1, h.2⟩⟩
  have hOd : decide (Own k s0 s1 s2 s3 n lo hi neg) = decide ((k = 7 → 0 ≤ lo ∧ lo ≤ 20 ∧ (hi = -1 ∨ (lo ≤ hi ∧ 1 ≤ hi ∧ hi ≤ 20))) ∧ (k ≠ 7 → lo = 0 ∧ hi = 0)) := decide_eq_decide.2 hO
  rw [hOd]
  conv => whnf
  repeat' (first | ((first | refine zT ?_ | refine zF ?_ | refine zL hX hL ?_ | refine zB hX hL ?_ | (refine zS hX hL ?_; clear hL; intro w hL) | refine zI ?_ | refine zG hX ?_ | refine zO ?_); conv => whnf) | (refine BrReq.dec (fun _ => ?_) (fun _ => ?_) <;> (conv => whnf)) | (refine BrReq.not ?_; refine BrReq.dec (fun _ => ?_) (fun _ => ?_) <;> (conv => whnf)) | (refine BrReq.bool (fun _ => ?_) (fun _ => ?_) <;> (conv => whnf)))
  all_goals (refine RetReq.bool hL.drop ?_; first | exact decide_eq_decide.2 (by omega) | exact (decide_eq_true (by omega)).symm | exact (decide_eq_false (by omega)).symm)

theorem Re.ind {Q : Re → Prop} (h : ∀ k s0 s1 s2 s3 rs lo hi neg, (∀ p ∈ rs, Q p) → Q (.mk k s0 s1 s2 s3 rs lo hi neg)) : ∀ r, Q r := by
  have : ∀ (n : Nat) (r : Re), SizeOf.sizeOf r ≤ n → Q r := by
    intro n
    induction n with
    | zero => intro r hr; obtain ⟨k, s0, s1, s2, s3, rs, lo, hi, neg⟩ := r; simp at hr
    | succ n ih =>
      intro r hr
      obtain ⟨k, s0, s1, s2, s3, rs, lo, hi, neg⟩ := r
      refine h _ _ _ _ _ _ _ _ _ fun p hp => ih p ?_
      have := List.sizeOf_lt_of_mem hp
      simp at hr
      omega
  intro r
  exact this _ r (Nat.le_refl _)

/-- How many times a node's size counts. -/
def timesR (k lo hi : Int) : Int := if k = 7 then max (min (max lo hi) 1001) 1 else 1
def capR (k lo hi : Int) (s : Nat) : Nat := if 1000 < s then 1001 else (min ((s : Int) * timesR k lo hi + 1) 1001).toNat
mutual
/-- A pattern's size. -/
def sizeR : Re → Nat
  | .mk k _ _ _ _ rs lo hi _ => capR k lo hi (sizeL rs)
def sizeL : List Re → Nat
  | [] => 0
  | p :: l => sizeR p + sizeL l
end
mutual
/-- Formed, all the way down. -/
def allR : Re → Bool
  | .mk k s0 s1 s2 s3 rs lo hi neg => decide (Own k s0 s1 s2 s3 rs.length lo hi neg) && allL rs
def allL : List Re → Bool
  | [] => true
  | p :: l => allR p && allL l
end
theorem allL_eq (l : List Re) : allL l = l.all allR := by
  induction l with
  | nil => rfl
  | cons p l ih => simp only [allL, List.all_cons, ih]
theorem sizeL_eq (l : List Re) : sizeL l = (l.map sizeR).sum := by
  induction l with
  | nil => rfl
  | cons p l ih => simp only [sizeL, List.map_cons, List.sum_cons, ih]

theorem timesR_pos (k lo hi : Int) : 1 ≤ timesR k lo hi ∧ timesR k lo hi ≤ 1001 := by unfold timesR; split <;> omega
theorem capR_le (k lo hi : Int) (s : Nat) : capR k lo hi s ≤ 1001 := by unfold capR; split <;> omega
theorem sizeR_le (r : Re) : sizeR r ≤ 1001 := by obtain ⟨k, s0, s1, s2, s3, rs, lo, hi, neg⟩ := r; simp only [sizeR]; exact capR_le _ _ _ _

theorem sizeL_take_succ (rs : List Re) (j : Nat) (h : j < rs.length) : sizeL (rs.take (j + 1)) = sizeL (rs.take j) + sizeR rs[j] := by
  rw [List.take_succ_eq_append_getElem h, sizeL_eq, sizeL_eq, List.map_append, List.sum_append]
  simp
theorem sizeL_take_le (rs : List Re) (j : Nat) : sizeL (rs.take j) ≤ sizeL rs := by
  rw [sizeL_eq, sizeL_eq]
  conv => rhs; rw [← List.take_append_drop j rs]
  rw [List.map_append, List.sum_append]
  omega

theorem size_fn (r : Re) : ∀ (m : Mem) (cs : List Value), RepRe m cs r → FnV Tryz.prog 45 [.agg (toArr cs)] m (.int .i64 (sizeR r : Nat)) := by
  induction r using Re.ind with
  | h kd s0 s1 s2 s3 rs lo hi neg ih =>
    intro m cs h
    obtain ⟨A, n, c, rfl, hs, hk, -, -, -, -, hlo, hhi⟩ := h.open
    obtain ⟨hn, hc, hm⟩ := hs.lens
    have hmx : maxLen = 9223372036854775807 := rfl
    have he := hs.elem
    have ht := timesR_pos kd lo hi
    refine Fn.enter (N := 35) hX Tryz.func45 rfl rfl (by show _ ≤ _; simp) (fun w0 hL => ?_)
    conv => whnf
    refine NewReq.mk hL ?_
    clear hL
    intro b1 w hL
    conv => whnf
    conv => whnf
    repeat ((first | refine zT ?_ | refine zF ?_ | refine zL hX hL ?_ | refine zB hX hL ?_ | (refine zS hX hL ?_; clear hL; intro w hL) | refine zI ?_ | refine zG hX ?_ | refine zO ?_); conv => whnf)
    refine LoopReq.inv hX (fun q : Nat × Nat => [(3, .int .i64 q.1), (9, .int .i64 q.2)]) [1, 7, 8]
      (fun q w => (q.2 ≤ n ∧ q.1 ≤ 1000 ∧ q.1 = sizeL (rs.take q.2)) ∧ Ev.Loc m [] w0 m [(b1, .cells (toArr (reC kd s0 s1 s2 s3 (.slice A n c) lo hi neg)) 36 (0, 0))] w) (fun q => n - q.2) (0, 0)
      ⟨⟨by simp, by simp, rfl⟩, hL⟩ ⟨rfl, rfl, trivial⟩ ?_
    clear hL
    rintro ⟨q, j⟩ w f ⟨⟨hj, hq, hsum⟩, hL⟩
    simp only at hj hq hsum
    conv => whnf
    repeat ((first | refine zT ?_ | refine zF ?_ | refine zL hX hL ?_ | refine zB hX hL ?_ | (refine zS hX hL ?_; clear hL; intro w hL) | refine zI ?_ | refine zG hX ?_ | refine zO ?_); conv => whnf)
    refine BrReq.dec (fun hlt => ?_) (fun hlt => ?_)
    · have hlt' : j < rs.length := by omega
      have hstep := sizeL_take_succ rs j hlt'
      have hle := sizeL_take_le rs (j + 1)
      have hpl := sizeR_le rs[j]
      obtain ⟨a, cs', rfl, hl9, hcells, hrep⟩ := he j _ (List.getElem?_eq_getElem hlt')
      obtain ⟨k1, u0, u1, u2, u3, A1, n1, c1, lo1, hi1, neg1, rfl⟩ := hrep.form
      conv => whnf
      repeat ((first | refine Idx2Req.mk j a rfl (by omega) rfl ?_ | refine LdReq.agg hX rfl rfl hL hl9 hcells ?_ | refine zT ?_ | refine zF ?_ | refine zL hX hL ?_ | refine zB hX hL ?_ | (refine zS hX hL ?_; clear hL; intro w hL) | refine zI ?_ | refine zG hX ?_ | refine zO ?_); conv => whnf)
      refine NewReq.mk hL ?_
      clear hL
      intro b5 w hL
      conv => whnf
      conv => whnf
      repeat ((first | refine zT ?_ | refine zF ?_ | refine zL hX hL ?_ | refine zB hX hL ?_ | (refine zS hX hL ?_; clear hL; intro w hL) | refine zI ?_ | refine zG hX ?_ | refine zO ?_); conv => whnf)
      refine CallReq.val (ih _ (List.getElem_mem hlt') m _ hrep) hL ?_
      clear hL
      intro w hL
      conv => whnf
      repeat ((first | refine zT ?_ | refine zF ?_ | refine zL hX hL ?_ | refine zB hX hL ?_ | (refine zS hX hL ?_; clear hL; intro w hL) | refine zI ?_ | refine zG hX ?_ | refine zO ?_); conv => whnf)
      refine BrReq.dec (fun h => ?_) (fun h => ?_)
      · conv => whnf
        repeat ((first | refine zT ?_ | refine zF ?_ | refine zL hX hL ?_ | refine zB hX hL ?_ | (refine zS hX hL ?_; clear hL; intro w hL) | refine zI ?_ | refine zG hX ?_ | refine zO ?_); conv => whnf)
        refine RetReq.int hL.drop.drop ?_
        have : sizeR (.mk kd s0 s1 s2 s3 rs lo hi neg) = 1001 := by simp only [sizeR, capR]; rw [if_pos (by omega)]
        rw [this]; rfl
      · conv => whnf
        repeat ((first | refine zT ?_ | refine zF ?_ | refine zL hX hL ?_ | refine zB hX hL ?_ | (refine zS hX hL ?_; clear hL; intro w hL) | refine zI ?_ | refine zG hX ?_ | refine zO ?_); conv => whnf)
        refine ⟨(q + sizeR rs[j], j + 1), ⟨⟨by simp only; omega, by simp only; omega, by simp only; omega⟩, hL.drop⟩, by first | omega | (simp only; omega) | (simp only [List.length_cons, List.length_append]; omega), ?_, ?_⟩
        · repeat (first | exact trivial | (refine And.intro (by (conv => lhs; whnf) <;> (conv => rhs; whnf) <;> (first | rfl)) ?_))
        · repeat (first | exact trivial | (refine And.intro (by (conv => lhs; whnf) <;> (conv => rhs; whnf) <;> (first | rfl)) ?_))
    have hjn : j = rs.length := by omega
    rw [hjn, List.take_length] at hsum
    have hmul : (q : Int) * timesR kd lo hi ≤ 1000 * 1001 := Int.mul_le_mul (by omega) (by omega) (by omega) (by omega)
    have hmul0 : 0 ≤ (q : Int) * timesR kd lo hi := Int.mul_nonneg (by omega) (by omega)
    have hval : (sizeR (.mk kd s0 s1 s2 s3 rs lo hi neg) : Int) = min ((q : Int) * timesR kd lo hi + 1) 1001 := by
      simp only [sizeR, capR]; rw [if_neg (by omega), hsum]; rw [hsum] at hmul0; omega
    conv => whnf
    repeat ((first | refine zT ?_ | refine zF ?_ | refine zL hX hL ?_ | refine zB hX hL ?_ | (refine zS hX hL ?_; clear hL; intro w hL) | refine zI ?_ | refine zG hX ?_ | refine zO ?_); conv => whnf)
    refine BrReq.dec (fun h7 => ?_) (fun h7 => ?_)
    · have ht7 : timesR kd lo hi = max (min (max lo hi) 1001) 1 := by unfold timesR; rw [if_pos h7]
      rw [ht7] at hmul hmul0 hval
      conv => whnf
      repeat ((first | refine zT ?_ | refine zF ?_ | refine zL hX hL ?_ | refine zB hX hL ?_ | (refine zS hX hL ?_; clear hL; intro w hL) | refine zI ?_ | refine zG hX ?_ | refine zO ?_); conv => whnf)
      refine ArReq.i64 (by simp only; omega) (by simp only; omega) ?_
      conv => whnf
      repeat ((first | refine zT ?_ | refine zF ?_ | refine zL hX hL ?_ | refine zB hX hL ?_ | (refine zS hX hL ?_; clear hL; intro w hL) | refine zI ?_ | refine zG hX ?_ | refine zO ?_); conv => whnf)
      refine ArReq.i64 (by simp only; omega) (by simp only; omega) ?_
      conv => whnf
      repeat ((first | refine zT ?_ | refine zF ?_ | refine zL hX hL ?_ | refine zB hX hL ?_ | (refine zS hX hL ?_; clear hL; intro w hL) | refine zI ?_ | refine zG hX ?_ | refine zO ?_); conv => whnf)
      exact RetReq.int hL.drop (by rw [hval])
    · have ht7 : timesR kd lo hi = 1 := by unfold timesR; rw [if_neg h7]
      rw [ht7, Int.mul_one] at hval
      conv => whnf
      repeat ((first | refine zT ?_ | refine zF ?_ | refine zL hX hL ?_ | refine zB hX hL ?_ | (refine zS hX hL ?_; clear hL; intro w hL) | refine zI ?_ | refine zG hX ?_ | refine zO ?_); conv => whnf)
      exact RetReq.int hL.drop (by rw [hval])
end Go.Proofs.YtemdkfohlppckaaGreatDoor.tree
