/- Words of a text, in plain Lean: how long they are, and of two texts with a blank between. Conditions: none. -/
import Derived.Test.YtemdkfohlppckaaGreatDoorLxSpec

namespace Go.Proofs.YtemdkfohlppckaaGreatDoor.lx
open Go Go.Ev Go.Proofs

theorem clsT_len : ∀ (k : Nat) (r : List UInt8) (n : Nat) (f : Nat → Nat) (x : (Nat → Nat) × Nat), clsT k r n f = some x → n < x.2 ∧ x.2 ≤ n + r.length := by
  intro k
  induction k with
  | zero => intro r n f x h; simp [clsT] at h
  | succ k ih =>
    intro r n f x h
    cases r with
    | nil => simp [clsT] at h
    | cons c r =>
      simp only [clsT] at h
      have h1 := charT_lt ownC (c :: r)
      generalize charT ownC (c :: r) = a at h h1
      split at h
      · cases h; simp only [List.length_cons]; omega
      split at h
      · cases h
      rename_i ha
      split at h
      · rename_i hdash
        have h2 := charT_lt ownC ((c :: r).drop (a.2 + 1))
        generalize charT ownC ((c :: r).drop (a.2 + 1)) = b at h h2
        split at h
        · cases h
        · rename_i hb
          have h3 := ih _ _ _ _ h
          have hd : ((c :: r).drop a.2).length ≠ 0 := fun e => by rw [List.eq_nil_of_length_eq_zero e] at hdash; cases hdash
          rw [List.length_drop] at h2 h3 hd
          omega
      · have h3 := ih _ _ _ _ h
        rw [List.length_drop] at h3
        omega
theorem classT_len {r : List UInt8} {x : (Nat → Nat) × Nat} (h : classT r = some x) : 0 < x.2 ∧ x.2 ≤ r.length := by
  unfold classT at h
  split at h
  · rename_i hn
    obtain ⟨y, hy, rfl⟩ := Option.map_eq_some_iff.1 h
    have := clsT_len _ _ _ _ _ hy
    have hr : r.length ≠ 0 := fun e => by rw [List.eq_nil_of_length_eq_zero e] at hn; cases hn
    rw [List.length_drop] at this
    simp only; omega
  · have := clsT_len _ _ _ _ _ h
    omega
theorem braceT_len (r : List UInt8) : (braceT r).2 ≤ r.length := by
  unfold braceT
  split
  · simp
  · rename_i h
    have := tw_lt (c := 125) (s := r) (Classical.byContradiction h)
    split
    · simp only; omega
    · split
      · simp
      · simp only; omega
theorem stepT_len (r : List UInt8) : (stepT r).2 ≤ r.length := by
  unfold stepT
  split
  · rename_i h
    unfold lookT at h ⊢
    split
    · rename_i h; exact (List.isPrefixOf_iff_prefix.1 h).length_le
    split
    · rename_i h; exact (List.isPrefixOf_iff_prefix.1 h).length_le
    split
    · rename_i h; exact (List.isPrefixOf_iff_prefix.1 h).length_le
    split
    · rename_i h; exact (List.isPrefixOf_iff_prefix.1 h).length_le
    · simp
  · split
    · simp
    · rename_i c r hh
      have h1 := escT_lt r
      have h2 := braceT_len r
      simp only [List.length_cons]
      split
      · split
        · simp
        · simp only; omega
      split
      · split
        · simp
        · rename_i x hx
          have := classT_len hx
          simp only; omega
      split
      · split
        · simp
        · simp only; omega
      split
      · simp
      split
      · simp
      split
      · simp
      · simp
end Go.Proofs.YtemdkfohlppckaaGreatDoor.lx
