/- The words that a scanner reads are right, and no more than bytes. Conditions: none. -/
import Derived.Test.YtemdkfohlppckaaGreatDoorPaWalk
import Derived.Test.YtemdkfohlppckaaGreatDoorLxBrace
import Derived.Test.YtemdkfohlppckaaGreatDoorLxPlain

namespace Go.Proofs.YtemdkfohlppckaaGreatDoor.pa
open Go Go.Ev Go.Proofs Go.Proofs.YtemdkfohlppckaaGreatDoor.lx Go.Proofs.YtemdkfohlppckaaGreatDoor.tree

theorem cnt_in (s : List UInt8) : inI (cntT s) := by
  unfold inI
  rcases cnt_spec s with h | ⟨v, h1, h2, -⟩ <;> omega
theorem clsT_in : ∀ (k : Nat) (r : List UInt8) (n : Nat) (f : Nat → Nat) (x : (Nat → Nat) × Nat), clsT k r n f = some x → InF f → InF x.1 := by
  intro k
  induction k with
  | zero => intro r n f x h; simp [clsT] at h
  | succ k ih =>
    intro r n f x h hf
    cases r with
    | nil => simp [clsT] at h
    | cons c r =>
      simp only [clsT] at h
      split at h
      · cases h; exact hf
      split at h
      · cases h
      split at h
      · split at h
        · cases h
        · exact ih _ _ _ _ h (inF_fold _ hf)
      · exact ih _ _ _ _ h (inF_fold _ hf)
theorem classT_in {r : List UInt8} {x : (Nat → Nat) × Nat} (h : classT r = some x) : InF x.1 := by
  unfold classT at h
  split at h
  · obtain ⟨y, hy, rfl⟩ := Option.map_eq_some_iff.1 h
    exact inF_not _
  · exact clsT_in _ _ _ _ _ h inF_zero
theorem okK (k : Int) : OkW (wK k) := ⟨by simp [inI, wK], by simp [inI, wK], inF_zero⟩
theorem okB {f : Nat → Nat} (h : InF f) : OkW (wB f) := ⟨by simp [inI, wB], by simp [inI, wB], h⟩
theorem braceT_ok (r : List UInt8) : OkW (braceT r).1 := by
  unfold braceT
  split
  · exact okK 0
  split
  · exact ⟨by simp [inI], by simp [inI], inF_zero⟩
  · split
    · exact okK 0
    · rename_i x hx
      have h1 := cnt_in (tw 125 r)
      have h2 := cnt_in (tw 44 (tw 125 r))
      have h3 := cnt_in ((tw 125 r).drop ((tw 44 (tw 125 r)).length + 1))
      unfold repT at hx
      split at hx
      · split at hx
        · cases hx; exact ⟨h1, h1, inF_zero⟩
        · cases hx
      split at hx
      · split at hx
        · cases hx; exact ⟨h2, by simp [inI], inF_zero⟩
        · cases hx
      · split at hx
        · cases hx; exact ⟨h2, h3, inF_zero⟩
        · cases hx
theorem stepT_ok (r : List UInt8) : OkW (lx.stepT r).1 := by
  unfold lx.stepT
  split
  · exact okK _
  split
  · exact okK 0
  split
  · split
    · exact okK 0
    · exact okB (inF_put inF_zero _)
  split
  · split
    · exact okK 0
    · rename_i x hx; exact okB (classT_in hx)
  split
  · split
    · exact okK 0
    · exact braceT_ok _
  split
  · exact okB (inF_not _)
  split
  · exact okK _
  split
  · exact okK 0
  · exact okB (inF_put inF_zero _)
theorem goT_ok : ∀ (k : Nat) (r : List UInt8) (n : Nat) (out l : List (Nat × W)), goT k r n out = .inl l → (∀ x ∈ out, OkW x.2) → (∀ x ∈ l, OkW x.2) ∧ l.length ≤ out.length + r.length := by
  intro k
  induction k with
  | zero => intro r n out l h; simp [goT] at h
  | succ k ih =>
    intro r n out l h ho
    cases r with
    | nil => rw [goT] at h; cases h; exact ⟨ho, by simp⟩
    | cons c r =>
      simp only [goT] at h
      split at h
      · have := ih _ _ _ _ h ho
        exact ⟨this.1, by have := this.2; simp only [List.length_cons]; omega⟩
      split at h
      · cases h
      · rename_i hs
        have := ih _ _ _ _ h fun x hx => by
          rcases List.mem_append.1 hx with h | h
          · exact ho x h
          · rw [List.mem_singleton.1 h]; exact stepT_ok _
        refine ⟨this.1, ?_⟩
        have h2 := this.2
        rw [List.length_append, List.length_singleton, List.length_drop] at h2
        have := stepT_len (c :: r)
        simp only [List.length_cons] at h2 this ⊢
        omega
theorem out_ok (s : List UInt8) : (∀ x ∈ (outT s).1, OkW x.2) ∧ (outT s).1.length ≤ 10000 := by
  unfold outT
  split
  · simp
  · cases hw : wordsT s with
    | inl l =>
      have := goT_ok _ _ _ _ _ hw (by simp)
      exact ⟨this.1, by have := this.2; simp only [List.length_nil] at this ⊢; omega⟩
    | inr p => simp
theorem sizeL_mem {l : List Re} {p : Re} (h : p ∈ l) : sizeR p ≤ sizeL l := by
  induction l with
  | nil => simp at h
  | cons q l ih =>
    simp only [sizeL]
    rcases List.mem_cons.1 h with rfl | h
    · omega
    · have := ih h; omega
theorem small_size (r : Re) : sizeR r ≤ 1000 → Small r ∧ 1 ≤ sizeR r := by
  induction r using Re.ind with
  | h k s0 s1 s2 s3 rs lo hi neg ih =>
    intro h
    simp only [sizeR, capR] at h ⊢
    have ht := timesR_pos k lo hi
    split at h
    · omega
    · rename_i hs
      rw [if_neg hs]
      have hm : (sizeL rs : Int) * 1 ≤ (sizeL rs : Int) * timesR k lo hi := Int.mul_le_mul_of_nonneg_left (by omega) (by omega)
      have h1 : sizeL rs ≤ 999 := by omega
      have hp : ∀ p ∈ rs, sizeR p ≤ sizeL rs := fun p hp => sizeL_mem hp
      have hl : rs.length ≤ sizeL rs := by
        clear hm h hs
        induction rs with
        | nil => simp
        | cons p l ih2 =>
          have g1 := (ih p (by simp) (by have := hp p (by simp); omega)).2
          have g2 : sizeL (p :: l) = sizeR p + sizeL l := rfl
          have g3 := ih2 (fun q hq => ih q (by simp [hq])) (by omega) (fun q hq => sizeL_mem hq)
          simp only [List.length_cons]; omega
      exact ⟨.mk _ _ _ _ _ _ _ _ _ (by omega) fun p hpm => (ih p hpm (by have := hp p hpm; omega)).1, by omega⟩
end Go.Proofs.YtemdkfohlppckaaGreatDoor.pa
