/- Patterns alike, as the program tells it. Conditions: none. -/
import Derived.Test.YtemdkfohlppckaaGreatDoorTreeFn

namespace Go.Proofs.YtemdkfohlppckaaGreatDoor.tree
open Go Go.Ev Go.Proofs

theorem deep_part {k : Nat} {kd s0 s1 s2 s3 lo hi : Int} {neg : Bool} {rs : List Re} (h : deepR (k + 1) (.mk kd s0 s1 s2 s3 rs lo hi neg) ≤ k + 1) : ∀ p ∈ rs, deepR k p ≤ k := by
  intro p hp
  simp only [deepR, Re.parts] at h
  have key : ∀ (l : List Nat) (a x : Nat), (x ∈ l ∨ x ≤ a) → x ≤ l.foldl max a := by
    intro l
    induction l with
    | nil => intro a x h; simpa using h
    | cons y l ih =>
      intro a x h
      refine ih _ _ ?_
      rcases h with h | h
      · rcases List.mem_cons.1 h with rfl | h
        · right; omega
        · left; exact h
      · right; omega
  have := key (rs.map (deepR k)) 0 (deepR k p) (.inl (List.mem_map.2 ⟨p, hp, rfl⟩))
  omega

theorem sameR_refl : ∀ (k : Nat) (r : Re), deepR k r ≤ k → sameR (k + 1) r r = true := by
  intro k
  induction k with
  | zero => intro r h; simp [deepR] at h
  | succ k ih =>
    intro r h
    obtain ⟨kd, s0, s1, s2, s3, rs, lo, hi, neg⟩ := r
    have hp := deep_part h
    have e : sameR (k + 2) (.mk kd s0 s1 s2 s3 rs lo hi neg) (.mk kd s0 s1 s2 s3 rs lo hi neg) = (List.zipWith (sameR (k + 1)) rs rs).all id := by
      simp only [sameR, headEq, Re.parts]; rw [decide_eq_true (by simp), Bool.true_and]
    rw [e]
    refine (all_zip rs rs rfl).2 fun i x y hx hy => ?_
    rw [hx] at hy; cases hy
    exact ih x (hp x (List.mem_of_getElem? hx))
end Go.Proofs.YtemdkfohlppckaaGreatDoor.tree
