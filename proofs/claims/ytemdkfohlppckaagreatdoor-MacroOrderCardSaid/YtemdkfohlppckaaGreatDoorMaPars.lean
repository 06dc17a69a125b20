/- The parser leans on the names in a text alone. In plain Lean. Conditions: none. -/
import Derived.Test.YtemdkfohlppckaaGreatDoorPaParse

namespace Go.Proofs.YtemdkfohlppckaaGreatDoor.ma
open Go Go.Ev Go.Proofs Go.Proofs.YtemdkfohlppckaaGreatDoor.lx Go.Proofs.YtemdkfohlppckaaGreatDoor.tree Go.Proofs.YtemdkfohlppckaaGreatDoor.pa

/-- All names are found, the same by two lists. -/
def Fnd (ds ds' : List (List UInt8 × Re)) (s : PS) : Prop := (∀ x ∈ s.l, x.2.kind = 11 → findD x.2.name ds = findD x.2.name ds' ∧ findD x.2.name ds ≠ none) ∧ (s.e = 0 ∨ s.e = 2 ∨ s.e = 8)
section
variable {ds ds' : List (List UInt8 × Re)} {s : PS}
theorem Fnd.next (h : Fnd ds ds' s) : Fnd ds ds' (nextP s) := ⟨fun x hx => h.1 x (List.mem_of_mem_tail hx), h.2⟩
theorem Fnd.close (h : Fnd ds ds' s) : Fnd ds ds' (closeP s) := h
theorem Fnd.fail {e at_ : Int} (h : Fnd ds ds' s) (he : e = 2 ∨ e = 8) : Fnd ds ds' (failP e at_ s) := by
  unfold failP
  split
  · exact ⟨h.1, .inr he⟩
  · exact h
theorem Fnd.enter {n : Int} (h : Fnd ds ds' s) : Fnd ds ds' (enterP n s) := by
  unfold enterP
  split
  · exact Fnd.fail (s := { s with deep := s.deep + 1 }) h (.inr rfl)
  · exact h
theorem Fnd.head (h : Fnd ds ds' s) (hk : kindP s = 11) : findD (headW s).2.name ds = findD (headW s).2.name ds' ∧ findD (headW s).2.name ds ≠ none := by
  obtain ⟨l, d, a, e⟩ := s
  cases l with
  | nil => unfold kindP at hk; split at hk <;> cases hk
  | cons x l =>
    refine h.1 x (by simp) ?_
    unfold kindP at hk
    split at hk
    · cases hk
    · exact hk
end
theorem P_same (fin : Nat) (ds ds' : List (List UInt8 × Re)) : ∀ (k : Nat) (t : Task) (s : PS) (x : Re × PS), P fin ds k t s = some x → Fnd ds ds' s → Fnd ds ds' x.2 ∧ P fin ds' k t s = some x := by
  intro k
  induction k with
  | zero => intro t s x h; simp [P] at h
  | succ k ih =>
    intro t s x h hp
    cases t with
    | alt =>
      rw [P] at h ⊢
      obtain ⟨y, h1, h2⟩ := Option.bind_eq_some_iff.1 h
      obtain ⟨a1, b1⟩ := ih _ _ y h1 hp
      obtain ⟨a2, b2⟩ := ih _ _ _ h2 a1
      exact ⟨a2, by rw [b1]; exact b2⟩
    | altL acc =>
      rw [P] at h ⊢
      split at h
      · rename_i hc
        obtain ⟨y, h1, h2⟩ := Option.bind_eq_some_iff.1 h
        obtain ⟨a1, b1⟩ := ih _ _ y h1 hp.next
        obtain ⟨a2, b2⟩ := ih _ _ _ h2 a1
        exact ⟨a2, by rw [if_pos hc, b1]; exact b2⟩
      · rename_i hc; cases h; exact ⟨hp, by rw [if_neg hc]⟩
    | both =>
      rw [P] at h ⊢
      obtain ⟨y, h1, h2⟩ := Option.bind_eq_some_iff.1 h
      obtain ⟨a1, b1⟩ := ih _ _ y h1 hp
      obtain ⟨a2, b2⟩ := ih _ _ _ h2 a1
      exact ⟨a2, by rw [b1]; exact b2⟩
    | bothL acc =>
      rw [P] at h ⊢
      split at h
      · rename_i hc
        obtain ⟨y, h1, h2⟩ := Option.bind_eq_some_iff.1 h
        obtain ⟨a1, b1⟩ := ih _ _ y h1 hp.next
        obtain ⟨a2, b2⟩ := ih _ _ _ h2 a1
        exact ⟨a2, by rw [if_pos hc, b1]; exact b2⟩
      · rename_i hc; cases h; exact ⟨hp, by rw [if_neg hc]⟩
    | cat => rw [P] at h ⊢; exact ih _ _ _ h hp
    | catL acc =>
      rw [P] at h ⊢
      split at h
      · rename_i hc
        obtain ⟨y, h1, h2⟩ := Option.bind_eq_some_iff.1 h
        obtain ⟨a1, b1⟩ := ih _ _ y h1 hp
        obtain ⟨a2, b2⟩ := ih _ _ _ h2 a1
        exact ⟨a2, by rw [if_pos hc, b1]; exact b2⟩
      · rename_i hc; cases h; exact ⟨hp, by rw [if_neg hc]⟩
    | no =>
      rw [P] at h ⊢
      split at h
      · rename_i hc
        obtain ⟨y, h1, h2⟩ := Option.bind_eq_some_iff.1 h
        obtain ⟨a1, b1⟩ := ih _ _ y h1 hp.next.enter
        cases h2
        exact ⟨a1.close, by rw [if_pos hc, b1]; rfl⟩
      · rename_i hc
        obtain ⟨a1, b1⟩ := ih _ _ _ h hp
        exact ⟨a1, by rw [if_neg hc]; exact b1⟩
    | post =>
      rw [P] at h ⊢
      obtain ⟨y, h1, h2⟩ := Option.bind_eq_some_iff.1 h
      obtain ⟨a1, b1⟩ := ih _ _ y h1 hp
      obtain ⟨a2, b2⟩ := ih _ _ _ h2 a1
      exact ⟨a2, by rw [b1]; exact b2⟩
    | postL r =>
      rw [P] at h ⊢
      split at h
      · rename_i hc
        obtain ⟨a1, b1⟩ := ih _ _ _ h hp.next
        exact ⟨a1, by rw [if_pos hc]; exact b1⟩
      · rename_i hc; cases h; exact ⟨hp, by rw [if_neg hc]⟩
    | atom =>
      rw [P] at h ⊢
      by_cases c0 : kindP s = 0
      · rw [if_pos c0] at h ⊢; cases h; exact ⟨hp.fail (.inl rfl), rfl⟩
      rw [if_neg c0] at h ⊢
      by_cases c1 : kindP s = 1
      · rw [if_pos c1] at h ⊢; cases h; exact ⟨hp.next, rfl⟩
      rw [if_neg c1] at h ⊢
      by_cases c2 : kindP s = 2
      · rw [if_pos c2] at h ⊢; exact ih _ _ _ h hp.next
      rw [if_neg c2] at h ⊢
      by_cases c3 : kindP s = 12 ∨ kindP s = 13 ∨ kindP s = 14 ∨ kindP s = 15
      · rw [if_pos c3] at h ⊢
        obtain ⟨y, h1, h2⟩ := Option.bind_eq_some_iff.1 h
        obtain ⟨a1, b1⟩ := ih _ _ y h1 hp.next
        cases h2
        exact ⟨a1, by rw [b1]; rfl⟩
      rw [if_neg c3] at h ⊢
      by_cases c4 : kindP s = 16
      · rw [if_pos c4] at h ⊢; cases h; exact ⟨hp.next, rfl⟩
      rw [if_neg c4] at h ⊢
      by_cases c5 : kindP s = 17
      · rw [if_pos c5] at h ⊢; cases h; exact ⟨hp.next, rfl⟩
      rw [if_neg c5] at h ⊢
      by_cases c6 : kindP s = 11
      · rw [if_pos c6] at h ⊢
        obtain ⟨e1, e2⟩ := hp.head c6
        rw [← e1]
        cases hf : findD (headW s).2.name ds with
        | none => exact absurd hf e2
        | some r => rw [hf] at h; cases h; exact ⟨hp.next, rfl⟩
      rw [if_neg c6] at h ⊢
      cases h; exact ⟨hp.fail (.inl rfl), rfl⟩
    | inner n =>
      rw [P] at h ⊢
      obtain ⟨y, h1, h2⟩ := Option.bind_eq_some_iff.1 h
      obtain ⟨a1, b1⟩ := ih _ _ y h1 hp.enter
      refine ⟨?_, by rw [b1]; exact h2⟩
      split at h2
      · cases h2; exact a1.close.fail (.inl rfl)
      · cases h2; exact a1.close.next
theorem parse_at {s : List UInt8} (ds : List (List UInt8 × Re)) (h0 : (outT s).2.2 = 0) : ∃ x, P s.length ds (16 * (outT s).1.length + 8) .alt (startP (outT s).1) = some x ∧ parseT s ds = checkP x.1 (endP s.length x.2) := by
  obtain ⟨x, hx⟩ := P_total s.length ds (16 * (outT s).1.length + 8) .alt (startP (outT s).1) (by have := lft_le (startP (outT s).1); simp only [startP, rank] at this ⊢; omega)
  refine ⟨x, hx, ?_⟩
  unfold parseT
  rw [if_neg (fun h => h h0), hx]
theorem check_cases (r : Re) (s : PS) : ((checkP r s).2.2 = s.e ∧ s.e ≠ 0) ∨ (checkP r s).2.2 = 8 ∨ (checkP r s).2.2 = 9 ∨ (checkP r s).2.2 = 2 ∨ (checkP r s = (r, 0, 0) ∧ formedR r = true) := by
  unfold checkP
  split
  · rename_i h; exact .inl ⟨rfl, h⟩
  split
  · exact .inr (.inl rfl)
  split
  · exact .inr (.inr (.inl rfl))
  split
  · rename_i h; exact .inr (.inr (.inr (.inr ⟨rfl, h⟩)))
  · exact .inr (.inr (.inr (.inl rfl)))
/-- A text whose words stand is read the same by two lists that know its names the same. -/
theorem parse_same {s : List UInt8} {ds ds' : List (List UInt8 × Re)} (h0 : (outT s).2.2 = 0) (h : ∀ x ∈ (outT s).1, x.2.kind = 11 → findD x.2.name ds = findD x.2.name ds' ∧ findD x.2.name ds ≠ none) :
    parseT s ds = parseT s ds' ∧ ((parseT s ds).2.2 = 0 ∨ (parseT s ds).2.2 = 2 ∨ (parseT s ds).2.2 = 8 ∨ (parseT s ds).2.2 = 9) := by
  obtain ⟨x, hx, e⟩ := parse_at ds h0
  obtain ⟨y, hy, e'⟩ := parse_at ds' h0
  obtain ⟨a1, b1⟩ := P_same s.length ds ds' _ _ _ _ hx (⟨h, .inl rfl⟩ : Fnd ds ds' (startP (outT s).1))
  rw [b1] at hy
  cases hy
  refine ⟨by rw [e, e'], ?_⟩
  have ha : (endP s.length x.2).e = 0 ∨ (endP s.length x.2).e = 2 ∨ (endP s.length x.2).e = 8 := by
    unfold endP
    split
    · exact (a1.fail (.inl rfl)).2
    · exact a1.2
  rw [e]
  rcases check_cases x.1 (endP s.length x.2) with ⟨h1, h2⟩ | h1 | h1 | h1 | ⟨h1, -⟩
  · rw [h1]; rcases ha with h | h | h
    · exact absurd h h2
    · exact .inr (.inl h)
    · exact .inr (.inr (.inl h))
  · exact .inr (.inr (.inl h1))
  · exact .inr (.inr (.inr h1))
  · exact .inr (.inl h1)
  · rw [h1]; exact .inl rfl
theorem parse_leaf {s : List UInt8} {ds : List (List UInt8 × Re)} (h0 : (outT s).2.2 = 0) (h : (parseT s ds).2.2 = 0) : parseT s ds = ((parseT s ds).1, 0, 0) ∧ formedR (parseT s ds).1 = true := by
  obtain ⟨x, hx, e⟩ := parse_at ds h0
  rw [e] at h ⊢
  rcases check_cases x.1 (endP s.length x.2) with ⟨h1, h2⟩ | h1 | h1 | h1 | ⟨h1, h2⟩
  · exact absurd (h1.symm.trans h) h2
  · rw [h1] at h; cases h
  · rw [h1] at h; cases h
  · rw [h1] at h; cases h
  · rw [h1]; exact ⟨rfl, h2⟩
end Go.Proofs.YtemdkfohlppckaaGreatDoor.ma
