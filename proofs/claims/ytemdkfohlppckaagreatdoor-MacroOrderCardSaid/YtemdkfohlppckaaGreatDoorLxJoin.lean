/- Words of two texts with a blank between, in plain Lean. Conditions: none. -/
import Derived.Test.YtemdkfohlppckaaGreatDoorLxPlain

namespace Go.Proofs.YtemdkfohlppckaaGreatDoor.lx
open Go Go.Ev Go.Proofs

theorem pre_app (x : List UInt8) : ∀ (p r : List UInt8), 32 ∉ p → p.isPrefixOf (r ++ 32 :: x) = p.isPrefixOf r
  | [], r, _ => by simp
  | a :: p, [], h => by
    have : ¬ a = 32 := fun e => h (by simp [e])
    simp [List.isPrefixOf, this]
  | a :: p, b :: r, h => by
    have := pre_app x p r (fun e => h (by simp [e]))
    simp only [List.cons_append, List.isPrefixOf, this]
theorem lookT_app (r x : List UInt8) : lookT (r ++ 32 :: x) = lookT r := by
  unfold lookT
  rw [pre_app x _ r (by decide), pre_app x _ r (by decide), pre_app x _ r (by decide), pre_app x _ r (by decide)]
theorem escT_app (z : List UInt8) : ∀ (r : List UInt8), (escT r).2 ≠ 0 → escT (r ++ z) = escT r
  | [], h => absurd rfl h
  | c :: r, h => by
    simp only [List.cons_append, escT] at h ⊢
    by_cases k1 : c.toNat = 110
    · rw [if_pos k1, if_pos k1]
    rw [if_neg k1] at h ⊢
    rw [if_neg k1]
    by_cases k2 : c.toNat = 116
    · rw [if_pos k2, if_pos k2]
    rw [if_neg k2] at h ⊢
    rw [if_neg k2]
    by_cases k3 : c.toNat = 114
    · rw [if_pos k3, if_pos k3]
    rw [if_neg k3] at h ⊢
    rw [if_neg k3]
    by_cases k4 : c.toNat = 115
    · rw [if_pos k4, if_pos k4]
    rw [if_neg k4] at h ⊢
    rw [if_neg k4]
    by_cases k5 : c.toNat = 120
    · rw [if_pos k5] at h ⊢
      rw [if_pos k5]
      match r, h with
      | [], h => exact absurd rfl h
      | [a], h => exact absurd rfl h
      | a :: b :: r, h => rfl
    · rw [if_neg k5, if_neg k5]
theorem charT_app (own z : List UInt8) : ∀ (r : List UInt8), (charT own r).2 ≠ 0 → charT own (r ++ z) = charT own r
  | [], h => absurd rfl h
  | c :: r, h => by
    simp only [List.cons_append, charT] at h ⊢
    by_cases k1 : c.toNat = 92
    · rw [if_pos k1] at h ⊢
      rw [if_pos k1]
      by_cases h0 : (escT r).2 = 0
      · rw [if_pos h0] at h; exact absurd rfl h
      · rw [escT_app z r h0]
    · rw [if_neg k1, if_neg k1]
theorem drop_app {r z : List UInt8} {n : Nat} (h : n ≤ r.length) : (r ++ z).drop n = r.drop n ++ z := by
  rw [List.drop_append, show n - r.length = 0 by omega, List.drop_zero]
theorem clsT_app (x : List UInt8) : ∀ (k k' : Nat) (r : List UInt8) (n : Nat) (f : Nat → Nat) (y : (Nat → Nat) × Nat), k ≤ k' → clsT k r n f = some y → clsT k' (r ++ 32 :: x) n f = some y := by
  intro k
  induction k with
  | zero => intro k' r n f y _ h; simp [clsT] at h
  | succ k ih =>
    intro k' r n f y hk h
    cases k' with
    | zero => omega
    | succ k' =>
    cases r with
    | nil => simp [clsT] at h
    | cons c r =>
      have h1 := charT_lt ownC (c :: r)
      have hap := charT_app ownC (32 :: x) (c :: r)
      have hdr := fun n h => drop_app (r := c :: r) (z := 32 :: x) (n := n) h
      simp only [List.cons_append, clsT] at h hap hdr ⊢
      by_cases k1 : c.toNat = 93
      · rw [if_pos k1] at h ⊢; exact h
      rw [if_neg k1] at h ⊢
      by_cases ha : (charT ownC (c :: r)).2 = 0
      · rw [if_pos ha] at h; cases h
      rw [if_neg ha] at h
      rw [hap ha]
      generalize charT ownC (c :: r) = a at h h1 ha ⊢
      rw [if_neg ha, hdr _ h1.2]
      by_cases hd : ((c :: r).drop a.2).head? = some 45
      · rw [if_pos hd] at h
        have hd2 : ((c :: r).drop a.2 ++ 32 :: x).head? = some 45 := by
          cases hx : (c :: r).drop a.2 with
          | nil => rw [hx] at hd; cases hd
          | cons e l => rw [hx] at hd; exact hd
        have hl1 : a.2 + 1 ≤ (c :: r).length := by
          have hx : ((c :: r).drop a.2).length ≠ 0 := fun e => by rw [List.eq_nil_of_length_eq_zero e] at hd; cases hd
          rw [List.length_drop] at hx
          omega
        rw [if_pos hd2, hdr _ hl1]
        have h2 := charT_lt ownC ((c :: r).drop (a.2 + 1))
        have hap2 := charT_app ownC (32 :: x) ((c :: r).drop (a.2 + 1))
        by_cases hb : (charT ownC ((c :: r).drop (a.2 + 1))).2 = 0 ∨ (charT ownC ((c :: r).drop (a.2 + 1))).1 < a.1
        · rw [if_pos hb] at h; cases h
        rw [if_neg hb] at h
        rw [hap2 (fun e => hb (.inl e)), if_neg hb]
        rw [List.length_drop] at h2
        rw [hdr _ (by omega)]
        exact ih _ _ _ _ _ (by omega) h
      · rw [if_neg hd] at h
        have hne : (c :: r).drop a.2 ≠ [] := fun e => by
          rw [e] at h
          cases k with
          | zero => simp [clsT] at h
          | succ k => simp [clsT] at h
        have hd2 : ¬ ((c :: r).drop a.2 ++ 32 :: x).head? = some 45 := by
          cases hx : (c :: r).drop a.2 with
          | nil => exact absurd hx hne
          | cons e l => rw [hx] at hd; exact hd
        rw [if_neg hd2]
        exact ih _ _ _ _ _ (by omega) h
theorem classT_app (x r : List UInt8) {y : (Nat → Nat) × Nat} (h : classT r = some y) : classT (r ++ 32 :: x) = some y := by
  cases r with
  | nil => simp [classT, clsT] at h
  | cons c r =>
    unfold classT at h ⊢
    have e1 : ((c :: r) ++ 32 :: x).head? = (c :: r).head? := rfl
    rw [e1]
    split
    · rename_i hc
      rw [if_pos hc] at h
      obtain ⟨z, hz, rfl⟩ := Option.map_eq_some_iff.1 h
      rw [show ((c :: r) ++ 32 :: x).drop 1 = (c :: r).drop 1 ++ 32 :: x from rfl, clsT_app x _ _ _ _ _ _ (by simp) hz]
      rfl
    · rename_i hc
      rw [if_neg hc] at h
      exact clsT_app x _ _ _ _ _ _ (by simp) h
theorem tw_app {c : UInt8} {r z : List UInt8} (h : c ∈ r) : tw c (r ++ z) = tw c r := by
  unfold tw
  induction r with
  | nil => simp at h
  | cons b l ih =>
    rw [List.cons_append, List.takeWhile_cons, List.takeWhile_cons]
    by_cases hb : b = c
    · subst hb; simp
    · have : c ∈ l := by rcases List.mem_cons.1 h with e | e; exact absurd e.symm hb; exact e
      rw [ih this]
theorem braceT_app (r z : List UInt8) (h : (braceT r).2 ≠ 0) : braceT (r ++ z) = braceT r := by
  unfold braceT at h ⊢
  by_cases hm : 125 ∈ r
  · have hm2 : ¬ 125 ∉ r := fun h => h hm
    have hm3 : ¬ 125 ∉ r ++ z := fun h => h (List.mem_append_left _ hm)
    rw [if_neg hm2, if_neg hm3, tw_app hm]
  · rw [if_pos hm] at h; exact absurd rfl h
theorem stepT_app (r x : List UInt8) (h : (stepT r).2 ≠ 0) : stepT (r ++ 32 :: x) = stepT r := by
  unfold stepT at h ⊢
  rw [lookT_app]
  by_cases hk : 0 < (lookT r).1
  · rw [if_pos hk, if_pos hk]
  rw [if_neg hk] at h
  rw [if_neg hk, if_neg hk]
  cases r with
  | nil => exact absurd rfl h
  | cons c r =>
    simp only [List.cons_append] at h ⊢
    by_cases k1 : c.toNat = 92
    · rw [if_pos k1] at h ⊢
      rw [if_pos k1]
      by_cases h0 : (escT r).2 = 0
      · rw [if_pos h0] at h; exact absurd rfl h
      · rw [escT_app (32 :: x) r h0]
    rw [if_neg k1] at h
    rw [if_neg k1, if_neg k1]
    by_cases k2 : c.toNat = 91
    · rw [if_pos k2] at h ⊢
      rw [if_pos k2]
      cases hc : classT r with
      | none => rw [hc] at h; exact absurd rfl h
      | some y => rw [classT_app x r hc]
    rw [if_neg k2] at h
    rw [if_neg k2, if_neg k2]
    by_cases k3 : c.toNat = 123
    · rw [if_pos k3] at h ⊢
      rw [if_pos k3]
      by_cases h0 : (braceT r).2 = 0
      · rw [if_pos h0] at h; exact absurd rfl h
      · rw [braceT_app r (32 :: x) h0]
    rw [if_neg k3, if_neg k3]

theorem goT_fuel : ∀ (k k' : Nat) (r : List UInt8) (n : Nat) (out : List (Nat × W)), r.length < k → r.length < k' → goT k r n out = goT k' r n out := by
  intro k
  induction k with
  | zero => intro k' r n out h; omega
  | succ k ih =>
    intro k' r n out h h'
    cases k' with
    | zero => omega
    | succ k' =>
    cases r with
    | nil => rfl
    | cons c r =>
      simp only [List.length_cons] at h h'
      simp only [goT]
      split
      · exact ih _ _ _ _ (by omega) (by omega)
      split
      · rfl
      · rename_i hs
        exact ih _ _ _ _ (by rw [List.length_drop, List.length_cons]; omega) (by rw [List.length_drop, List.length_cons]; omega)
/-- A word that stands further on. -/
def shW (d : Nat) (x : Nat × W) : Nat × W := (x.1 + d, x.2)
def shR (d : Nat) (out : List (Nat × W)) : List (Nat × W) ⊕ Nat → List (Nat × W) ⊕ Nat
  | .inl l => .inl (out ++ l.map (shW d))
  | .inr p => .inr (p + d)
theorem goT_shift (d : Nat) (out : List (Nat × W)) : ∀ (k : Nat) (r : List UInt8) (n : Nat) (o : List (Nat × W)), goT k r (n + d) (out ++ o.map (shW d)) = shR d out (goT k r n o) := by
  intro k
  induction k with
  | zero => intro r n o; rfl
  | succ k ih =>
    intro r n o
    cases r with
    | nil => rfl
    | cons c r =>
      simp only [goT]
      split
      · rw [show n + d + 1 = n + 1 + d by omega]; exact ih _ _ _
      split
      · rfl
      · rw [show n + d + (stepT (c :: r)).2 = n + (stepT (c :: r)).2 + d by omega, ← ih]
        congr 1
        rw [List.map_append, List.append_assoc]; rfl
theorem goT_join (t : List UInt8) : ∀ (k : Nat) (r : List UInt8) (n : Nat) (out l : List (Nat × W)), goT k r n out = .inl l → r.length < k → goT (k + 1 + t.length) (r ++ 32 :: t) n out = goT (t.length + 1) t (n + r.length + 1) l := by
  intro k
  induction k with
  | zero => intro r n out l h hk; omega
  | succ k ih =>
    intro r n out l h hk
    cases r with
    | nil =>
      rw [goT] at h
      cases h
      rw [show k + 1 + 1 + t.length = (k + 1 + t.length) + 1 by omega, List.nil_append, goT, if_pos (by decide)]
      exact goT_fuel _ _ _ _ _ (by omega) (by omega)
    | cons c r =>
      rw [show k + 1 + 1 + t.length = (k + 1 + t.length) + 1 by omega]
      simp only [List.length_cons] at hk
      have hap := stepT_app (c :: r) t
      have hlen := stepT_len (c :: r)
      have hdr := fun n h => drop_app (r := c :: r) (z := 32 :: t) (n := n) h
      simp only [goT, List.cons_append] at h hap hdr ⊢
      split
      · rename_i hb
        rw [if_pos hb] at h
        rw [ih _ _ _ _ h (by omega)]
        congr 1; simp only [List.length_cons]; omega
      · rename_i hb
        rw [if_neg hb] at h
        by_cases hs : (stepT (c :: r)).2 = 0
        · rw [if_pos hs] at h; cases h
        · rw [if_neg hs] at h
          rw [hap hs]
          rw [if_neg hs, hdr _ hlen, ih _ _ _ _ h (by rw [List.length_drop, List.length_cons]; omega)]
          congr 1; rw [List.length_drop]; omega
theorem words_join (s t : List UInt8) (a b : List (Nat × W)) (ha : wordsT s = .inl a) (hb : wordsT t = .inl b) : wordsT (s ++ 32 :: t) = .inl (a ++ b.map (shW (s.length + 1))) := by
  unfold wordsT at ha hb ⊢
  rw [show (s ++ 32 :: t).length + 1 = (s.length + 1) + 1 + t.length by simp; omega, goT_join t _ s 0 [] a ha (by omega)]
  have h := goT_shift (s.length + 1) a (t.length + 1) t 0 []
  rw [List.map_nil, List.append_nil, hb] at h
  rw [show 0 + s.length + 1 = 0 + (s.length + 1) by omega]
  exact h
theorem out_words {s : List UInt8} (h : s.length ≤ 10000) (h0 : (outT s).2.2 = 0) : ∃ a, wordsT s = .inl a ∧ outT s = (a, 0, 0) := by
  unfold outT at h0 ⊢
  rw [if_neg (by omega)] at h0 ⊢
  cases hw : wordsT s with
  | inl a => exact ⟨a, rfl, rfl⟩
  | inr p => rw [hw] at h0; simp at h0
theorem goT_pos (B : Nat) : ∀ (k : Nat) (r : List UInt8) (n : Nat) (out l : List (Nat × W)), goT k r n out = .inl l → n + r.length ≤ B → (∀ x ∈ out, x.1 ≤ B) → ∀ x ∈ l, x.1 ≤ B := by
  intro k
  induction k with
  | zero => intro r n out l h; simp [goT] at h
  | succ k ih =>
    intro r n out l h hn ho
    cases r with
    | nil => rw [goT] at h; cases h; exact ho
    | cons c r =>
      simp only [goT] at h
      simp only [List.length_cons] at hn
      have hlen := stepT_len (c :: r)
      simp only [List.length_cons] at hlen
      split at h
      · exact ih _ _ _ _ h (by omega) ho
      split at h
      · cases h
      · refine ih _ _ _ _ h (by rw [List.length_drop, List.length_cons]; omega) fun x hx => ?_
        rcases List.mem_append.1 hx with h | h
        · exact ho x h
        · rw [List.mem_singleton.1 h]; simp only; omega
theorem out_join (s t : List UInt8) (h1 : s.length ≤ 4000) (h2 : t.length ≤ 4000) (ha : (outT s).2.2 = 0) (hb : (outT t).2.2 = 0) :
    ∃ a b, outT s = (a, 0, 0) ∧ outT t = (b, 0, 0) ∧ outT (s ++ 32 :: t) = (a ++ b.map (shW (s.length + 1)), 0, 0) ∧ ∀ x ∈ b, x.1 ≤ t.length := by
  obtain ⟨a, ha1, ha2⟩ := out_words (by omega) ha
  obtain ⟨b, hb1, hb2⟩ := out_words (by omega) hb
  refine ⟨a, b, ha2, hb2, ?_, goT_pos t.length _ _ _ _ _ hb1 (by omega) (by simp)⟩
  unfold outT
  rw [if_neg (by simp; omega), words_join s t a b ha1 hb1]
end Go.Proofs.YtemdkfohlppckaaGreatDoor.lx
