/- A parser keeps its depth, and takes words. Conditions: none. -/
import Derived.Test.YtemdkfohlppckaaGreatDoorPaSpec

namespace Go.Proofs.YtemdkfohlppckaaGreatDoor.pa
open Go Go.Ev Go.Proofs Go.Proofs.YtemdkfohlppckaaGreatDoor.lx Go.Proofs.YtemdkfohlppckaaGreatDoor.tree

/-- As deep as before, and no more words. -/
def Keeps (s s' : PS) : Prop := s'.deep = s.deep ∧ s'.l <:+ s.l
theorem Keeps.refl (s : PS) : Keeps s s := ⟨rfl, List.suffix_refl _⟩
theorem Keeps.trans {a b c : PS} (h : Keeps a b) (k : Keeps b c) : Keeps a c := ⟨k.1.trans h.1, k.2.trans h.2⟩
theorem keeps_next (s : PS) : Keeps s (nextP s) := ⟨rfl, List.tail_suffix _⟩
theorem keeps_fail (e at_ : Int) (s : PS) : Keeps s (failP e at_ s) := by unfold failP; split <;> exact ⟨rfl, List.suffix_refl _⟩
theorem enter_deep (at_ : Int) (s : PS) : (enterP at_ s).deep = s.deep + 1 ∧ (enterP at_ s).l = s.l := by
  unfold enterP failP
  split
  · split <;> exact ⟨rfl, rfl⟩
  · exact ⟨rfl, rfl⟩
theorem keeps_in {at_ : Int} {s s' : PS} (h : Keeps (enterP at_ s) s') : Keeps s (closeP s') ∧ s'.deep = s.deep + 1 := by
  obtain ⟨h1, h2⟩ := h
  have he := enter_deep at_ s
  rw [he.1] at h1
  rw [he.2] at h2
  exact ⟨⟨by show s'.deep - 1 = _; omega, h2⟩, h1⟩
theorem P_keeps (fin : Nat) (defs : List (List UInt8 × Re)) : ∀ (k : Nat) (t : Task) (s : PS) (x : Re × PS), P fin defs k t s = some x → Keeps s x.2 := by
  intro k
  induction k with
  | zero => intro t s x h; simp [P] at h
  | succ k ih =>
    intro t s x h
    cases t with
    | alt =>
      rw [P] at h
      obtain ⟨y, h1, h2⟩ := Option.bind_eq_some_iff.1 h
      exact (ih _ _ y h1).trans (ih _ _ _ h2)
    | altL acc =>
      rw [P] at h
      split at h
      · obtain ⟨y, h1, h2⟩ := Option.bind_eq_some_iff.1 h
        exact ((keeps_next s).trans (ih _ _ y h1)).trans (ih _ _ _ h2)
      · cases h; exact Keeps.refl s
    | both =>
      rw [P] at h
      obtain ⟨y, h1, h2⟩ := Option.bind_eq_some_iff.1 h
      exact (ih _ _ y h1).trans (ih _ _ _ h2)
    | bothL acc =>
      rw [P] at h
      split at h
      · obtain ⟨y, h1, h2⟩ := Option.bind_eq_some_iff.1 h
        exact ((keeps_next s).trans (ih _ _ y h1)).trans (ih _ _ _ h2)
      · cases h; exact Keeps.refl s
    | cat => rw [P] at h; exact ih _ _ _ h
    | catL acc =>
      rw [P] at h
      split at h
      · obtain ⟨y, h1, h2⟩ := Option.bind_eq_some_iff.1 h
        exact (ih _ _ y h1).trans (ih _ _ _ h2)
      · cases h; exact Keeps.refl s
    | no =>
      rw [P] at h
      split at h
      · obtain ⟨y, h1, h2⟩ := Option.bind_eq_some_iff.1 h
        cases h2
        exact (keeps_next s).trans (keeps_in (ih _ _ y h1)).1
      · exact ih _ _ _ h
    | post =>
      rw [P] at h
      obtain ⟨y, h1, h2⟩ := Option.bind_eq_some_iff.1 h
      exact (ih _ _ y h1).trans (ih _ _ _ h2)
    | postL r =>
      rw [P] at h
      split at h
      · exact (keeps_next s).trans (ih _ _ _ h)
      · cases h; exact Keeps.refl s
    | atom =>
      rw [P] at h
      split at h
      · cases h; exact keeps_fail _ _ _
      split at h
      · cases h; exact keeps_next s
      split at h
      · exact (keeps_next s).trans (ih _ _ _ h)
      split at h
      · obtain ⟨y, h1, h2⟩ := Option.bind_eq_some_iff.1 h
        cases h2
        exact (keeps_next s).trans (ih _ _ y h1)
      split at h
      · cases h; exact keeps_next s
      split at h
      · cases h; exact keeps_next s
      split at h
      · split at h
        · cases h; exact keeps_next s
        · cases h; exact (keeps_next s).trans (keeps_fail _ _ _)
      · cases h; exact keeps_fail _ _ _
    | inner n =>
      rw [P] at h
      obtain ⟨y, h1, h2⟩ := Option.bind_eq_some_iff.1 h
      have h3 := (keeps_in (ih _ _ y h1)).1
      split at h2
      · cases h2; exact h3.trans (keeps_fail _ _ _)
      · cases h2; exact h3.trans (keeps_next _)
end Go.Proofs.YtemdkfohlppckaaGreatDoor.pa
