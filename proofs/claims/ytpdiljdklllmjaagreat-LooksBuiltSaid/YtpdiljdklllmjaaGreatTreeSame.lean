/- Patterns alike. Conditions: none. -/
import Derived.Test.YtpdiljdklllmjaaGreatTree

namespace Go.Proofs.YtpdiljdklllmjaaGreat.tree
open Go Go.Ev Go.Proofs

/-- Alike, but for their parts. -/
def headEq : Re → Re → Bool
  | .mk k s0 s1 s2 s3 rs lo hi neg, .mk k' t0 t1 t2 t3 rs' lo' hi' neg' =>
    decide (k = k' ∧ (s0 = t0 ∧ s1 = t1 ∧ s2 = t2 ∧ s3 = t3) ∧ lo = lo' ∧ hi = hi' ∧ neg = neg' ∧ rs.length = rs'.length)
def sameR : Nat → Re → Re → Bool
  | 0, _, _ => false
  | k + 1, a, b => headEq a b && (List.zipWith (sameR k) a.parts b.parts).all id

theorem all_zip {f : Re → Re → Bool} : ∀ (l r : List Re), l.length = r.length → ((List.zipWith f l r).all id = true ↔ ∀ (i : Nat) (x y : Re), l[i]? = some x → r[i]? = some y → f x y = true) := by
  intro l
  induction l with
  | nil => intro r h; simp
  | cons a l ih =>
    intro r h
    cases r with
    | nil => simp at h
    | cons b r =>
      simp only [List.zipWith_cons_cons, List.all_cons, id_eq, Bool.and_eq_true]
      rw [ih r (by simpa using h)]
      constructor
      · rintro ⟨h1, h2⟩ i x y hx hy
        cases i with
        | zero => simp at hx hy; subst hx hy; exact h1
        | succ i => exact h2 i x y (by simpa using hx) (by simpa using hy)
      · intro h1
        exact ⟨h1 0 a b rfl rfl, fun i x y hx hy => h1 (i + 1) x y (by simpa using hx) (by simpa using hy)⟩
end Go.Proofs.YtpdiljdklllmjaaGreat.tree
