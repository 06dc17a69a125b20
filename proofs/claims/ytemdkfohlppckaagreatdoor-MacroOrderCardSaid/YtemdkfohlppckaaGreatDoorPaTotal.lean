/- The parser ends. Conditions: none. -/
import Derived.Test.YtemdkfohlppckaaGreatDoorPaKeep

namespace Go.Proofs.YtemdkfohlppckaaGreatDoor.pa
open Go Go.Ev Go.Proofs Go.Proofs.YtemdkfohlppckaaGreatDoor.lx Go.Proofs.YtemdkfohlppckaaGreatDoor.tree

/-- How many words it may still take. -/
def lft (s : PS) : Nat := if s.e ≠ 0 then 0 else s.l.length
def rank : Task → Nat
  | .atom => 1 | .post => 2 | .no => 3 | .catL _ => 4 | .cat => 5 | .both => 6 | .alt => 7 | .inner _ => 8 | _ => 0
theorem lft_next {s : PS} (h : kindP s ≠ 0) : lft (nextP s) + 1 = lft s := by
  obtain ⟨l, dp, at_, e⟩ := s
  unfold kindP at h
  unfold lft nextP
  simp only at h ⊢
  by_cases he : e = 0
  · rw [if_neg (by simp [he])] at h
    rw [if_neg (by simp [he]), if_neg (by simp [he])]
    cases l with
    | nil => exact absurd rfl h
    | cons x l => simp
  · rw [if_pos he] at h; exact absurd rfl h
theorem lft_fail (e at_ : Int) (he : e ≠ 0) (s : PS) : lft (failP e at_ s) = 0 := by
  unfold failP lft
  by_cases h : s.e = 0
  · rw [if_pos h]; simp only; rw [if_pos he]
  · rw [if_neg h, if_pos h]
theorem lft_enter (at_ : Int) (s : PS) : lft (enterP at_ s) ≤ lft s := by
  unfold enterP
  split
  · rw [lft_fail _ _ (by decide)]; omega
  · exact Nat.le_refl _
theorem lft_close (s : PS) : lft (closeP s) = lft s := rfl
theorem lft_pos {s : PS} (h : kindP s ≠ 0) : 0 < lft s := by have := lft_next h; omega

theorem P_lft (fin : Nat) (defs : List (List UInt8 × Re)) : ∀ (k : Nat) (t : Task) (s : PS) (x : Re × PS), P fin defs k t s = some x → lft x.2 ≤ lft s ∧ (t = .no ∨ t = .post ∨ t = .atom → kindP s ≠ 0 → lft x.2 < lft s) := by
  intro k
  induction k with
  | zero => intro t s x h; simp [P] at h
  | succ k ih =>
    intro t s x h
    cases t with
    | alt =>
      rw [P] at h
      obtain ⟨y, h1, h2⟩ := Option.bind_eq_some_iff.1 h
      exact ⟨Nat.le_trans (ih _ _ _ h2).1 (ih _ _ y h1).1, by simp⟩
    | altL acc =>
      rw [P] at h
      refine ⟨?_, by simp⟩
      split at h
      · rename_i h4
        obtain ⟨y, h1, h2⟩ := Option.bind_eq_some_iff.1 h
        have := lft_next (s := s) (by rw [h4]; decide)
        have := (ih _ _ _ h2).1
        have := (ih _ _ y h1).1
        omega
      · cases h; exact Nat.le_refl _
    | both =>
      rw [P] at h
      obtain ⟨y, h1, h2⟩ := Option.bind_eq_some_iff.1 h
      exact ⟨Nat.le_trans (ih _ _ _ h2).1 (ih _ _ y h1).1, by simp⟩
    | bothL acc =>
      rw [P] at h
      refine ⟨?_, by simp⟩
      split at h
      · rename_i h4
        obtain ⟨y, h1, h2⟩ := Option.bind_eq_some_iff.1 h
        have := lft_next (s := s) (by rw [h4]; decide)
        have := (ih _ _ _ h2).1
        have := (ih _ _ y h1).1
        omega
      · cases h; exact Nat.le_refl _
    | cat => rw [P] at h; exact ⟨(ih _ _ _ h).1, by simp⟩
    | catL acc =>
      rw [P] at h
      refine ⟨?_, by simp⟩
      split at h
      · obtain ⟨y, h1, h2⟩ := Option.bind_eq_some_iff.1 h
        exact Nat.le_trans (ih _ _ _ h2).1 (ih _ _ y h1).1
      · cases h; exact Nat.le_refl _
    | no =>
      rw [P] at h
      split at h
      · rename_i h6
        obtain ⟨y, h1, h2⟩ := Option.bind_eq_some_iff.1 h
        cases h2
        have h3 := lft_next (s := s) (by rw [h6]; decide)
        have h4 := lft_enter (headW s).1 (nextP s)
        have h5 := (ih _ _ y h1).1
        have h7 := lft_close y.2
        exact ⟨by simp only; omega, fun _ _ => by simp only; omega⟩
      · have h1 := ih _ _ _ h
        exact ⟨h1.1, fun _ hk => h1.2 (by simp) hk⟩
    | post =>
      rw [P] at h
      obtain ⟨y, h1, h2⟩ := Option.bind_eq_some_iff.1 h
      have g1 := ih _ _ y h1
      have g2 := (ih _ _ _ h2).1
      exact ⟨by omega, fun _ hk => by have := g1.2 (by simp) hk; omega⟩
    | postL r =>
      rw [P] at h
      refine ⟨?_, by simp⟩
      split at h
      · rename_i hk
        have := lft_next (s := s) (by omega)
        have := (ih _ _ _ h).1
        omega
      · cases h; exact Nat.le_refl _
    | atom =>
      rw [P] at h
      split at h
      · rename_i h0
        cases h
        rw [lft_fail _ _ (by decide)]
        exact ⟨Nat.zero_le _, fun _ hk => absurd h0 hk⟩
      rename_i h0
      have h3 := lft_next (s := s) h0
      split at h
      · cases h; exact ⟨by simp only; omega, fun _ _ => by simp only; omega⟩
      split at h
      · have := (ih _ _ _ h).1
        exact ⟨by omega, fun _ _ => by omega⟩
      split at h
      · obtain ⟨y, h1, h2⟩ := Option.bind_eq_some_iff.1 h
        cases h2
        have := (ih _ _ y h1).1
        exact ⟨by simp only; omega, fun _ _ => by simp only; omega⟩
      split at h
      · cases h; exact ⟨by simp only; omega, fun _ _ => by simp only; omega⟩
      split at h
      · cases h; exact ⟨by simp only; omega, fun _ _ => by simp only; omega⟩
      split at h
      · split at h
        · cases h; exact ⟨by simp only; omega, fun _ _ => by simp only; omega⟩
        · cases h; rw [lft_fail _ _ (by decide)]; exact ⟨Nat.zero_le _, fun _ _ => by omega⟩
      · cases h; rw [lft_fail _ _ (by decide)]; exact ⟨Nat.zero_le _, fun _ _ => by omega⟩
    | inner n =>
      rw [P] at h
      obtain ⟨y, h1, h2⟩ := Option.bind_eq_some_iff.1 h
      have g1 := (ih _ _ y h1).1
      have g2 := lft_enter n s
      have g3 := lft_close y.2
      refine ⟨?_, by simp⟩
      split at h2
      · cases h2; rw [lft_fail _ _ (by decide)]; exact Nat.zero_le _
      · rename_i h3
        cases h2
        have := lft_next (s := closeP y.2) (fun e => h3 (by rw [e]; decide))
        simp only; omega

theorem P_total (fin : Nat) (defs : List (List UInt8 × Re)) : ∀ (k : Nat) (t : Task) (s : PS), 16 * lft s + rank t < k → ∃ x, P fin defs k t s = some x := by
  intro k
  induction k with
  | zero => intro t s h; omega
  | succ k ih =>
    intro t s h
    have hb : ∀ (t1 : Task) (s1 : PS) (f : Re × PS → Option (Re × PS)), 16 * lft s1 + rank t1 < k → (∀ y, P fin defs k t1 s1 = some y → ∃ x, f y = some x) → ∃ x, (P fin defs k t1 s1).bind f = some x := by
      intro t1 s1 f h1 h2
      obtain ⟨y, hy⟩ := ih t1 s1 h1
      obtain ⟨x, hx⟩ := h2 y hy
      exact ⟨x, by rw [hy]; exact hx⟩
    cases t with
    | alt =>
      rw [P]
      simp only [rank] at h
      refine hb _ _ _ (by simp only [rank]; omega) fun y hy => ih _ _ ?_
      have := (P_lft fin defs k _ _ y hy).1
      simp only [rank]; omega
    | altL acc =>
      rw [P]
      simp only [rank] at h
      split
      · rename_i h4
        have h3 := lft_next (s := s) (by rw [h4]; decide)
        refine hb _ _ _ (by simp only [rank]; omega) fun y hy => ih _ _ ?_
        have := (P_lft fin defs k _ _ y hy).1
        simp only [rank]; omega
      · exact ⟨_, rfl⟩
    | both =>
      rw [P]
      simp only [rank] at h
      refine hb _ _ _ (by simp only [rank]; omega) fun y hy => ih _ _ ?_
      have := (P_lft fin defs k _ _ y hy).1
      simp only [rank]; omega
    | bothL acc =>
      rw [P]
      simp only [rank] at h
      split
      · rename_i h4
        have h3 := lft_next (s := s) (by rw [h4]; decide)
        refine hb _ _ _ (by simp only [rank]; omega) fun y hy => ih _ _ ?_
        have := (P_lft fin defs k _ _ y hy).1
        simp only [rank]; omega
      · exact ⟨_, rfl⟩
    | cat => rw [P]; simp only [rank] at h; exact ih _ _ (by simp only [rank]; omega)
    | catL acc =>
      rw [P]
      simp only [rank] at h
      split
      · rename_i hk
        refine hb _ _ _ (by simp only [rank]; omega) fun y hy => ih _ _ ?_
        have := (P_lft fin defs k _ _ y hy).2 (.inl rfl) hk.1
        simp only [rank]; omega
      · exact ⟨_, rfl⟩
    | no =>
      rw [P]
      simp only [rank] at h
      split
      · rename_i h6
        have h3 := lft_next (s := s) (by rw [h6]; decide)
        have h4 := lft_enter (headW s).1 (nextP s)
        exact hb _ _ _ (by simp only [rank]; omega) fun y hy => ⟨_, rfl⟩
      · exact ih _ _ (by simp only [rank]; omega)
    | post =>
      rw [P]
      simp only [rank] at h
      refine hb _ _ _ (by simp only [rank]; omega) fun y hy => ih _ _ ?_
      have := (P_lft fin defs k _ _ y hy).1
      simp only [rank]; omega
    | postL r =>
      rw [P]
      simp only [rank] at h
      split
      · rename_i hk
        have h3 := lft_next (s := s) (by omega)
        exact ih _ _ (by simp only [rank]; omega)
      · exact ⟨_, rfl⟩
    | atom =>
      rw [P]
      simp only [rank] at h
      split
      · exact ⟨_, rfl⟩
      rename_i h0
      have h3 := lft_next (s := s) h0
      split
      · exact ⟨_, rfl⟩
      split
      · exact ih _ _ (by simp only [rank]; omega)
      split
      · exact hb _ _ _ (by simp only [rank]; omega) fun y hy => ⟨_, rfl⟩
      split
      · exact ⟨_, rfl⟩
      split
      · exact ⟨_, rfl⟩
      split
      · split <;> exact ⟨_, rfl⟩
      · exact ⟨_, rfl⟩
    | inner n =>
      rw [P]
      simp only [rank] at h
      have h4 := lft_enter n s
      refine hb _ _ _ (by simp only [rank]; omega) fun y hy => ?_
      split <;> exact ⟨_, rfl⟩
theorem lft_le (s : PS) : lft s ≤ s.l.length := by unfold lft; split <;> omega

/-- More fuel changes nothing. -/
theorem P_mono (fin : Nat) (defs : List (List UInt8 × Re)) : ∀ (k : Nat) (t : Task) (s : PS) (x : Re × PS), P fin defs k t s = some x → P fin defs (k + 1) t s = some x := by
  intro k
  induction k with
  | zero => intro t s x h; simp [P] at h
  | succ k ih =>
    intro t s x h
    have hb : ∀ (t1 : Task) (s1 : PS) (f g : Re × PS → Option (Re × PS)), (P fin defs k t1 s1).bind f = some x → (∀ y, f y = some x → g y = some x) → (P fin defs (k + 1) t1 s1).bind g = some x := by
      intro t1 s1 f g h1 h2
      obtain ⟨y, g1, g2⟩ := Option.bind_eq_some_iff.1 h1
      rw [ih _ _ y g1]; exact h2 y g2
    cases t with
    | alt => rw [P] at h ⊢; exact hb _ _ _ _ h fun y hy => ih _ _ _ hy
    | altL acc =>
      rw [P] at h ⊢
      split
      · rename_i h4; rw [if_pos h4] at h; exact hb _ _ _ _ h fun y hy => ih _ _ _ hy
      · rename_i h4; rw [if_neg h4] at h; exact h
    | both => rw [P] at h ⊢; exact hb _ _ _ _ h fun y hy => ih _ _ _ hy
    | bothL acc =>
      rw [P] at h ⊢
      split
      · rename_i h4; rw [if_pos h4] at h; exact hb _ _ _ _ h fun y hy => ih _ _ _ hy
      · rename_i h4; rw [if_neg h4] at h; exact h
    | cat => rw [P] at h ⊢; exact ih _ _ _ h
    | catL acc =>
      rw [P] at h ⊢
      split
      · rename_i h4; rw [if_pos h4] at h; exact hb _ _ _ _ h fun y hy => ih _ _ _ hy
      · rename_i h4; rw [if_neg h4] at h; exact h
    | no =>
      rw [P] at h ⊢
      split
      · rename_i h4; rw [if_pos h4] at h; exact hb _ _ _ _ h fun y hy => hy
      · rename_i h4; rw [if_neg h4] at h; exact ih _ _ _ h
    | post => rw [P] at h ⊢; exact hb _ _ _ _ h fun y hy => ih _ _ _ hy
    | postL r =>
      rw [P] at h ⊢
      split
      · rename_i h4; rw [if_pos h4] at h; exact ih _ _ _ h
      · rename_i h4; rw [if_neg h4] at h; exact h
    | atom =>
      rw [P] at h ⊢
      split
      · rename_i h4; rw [if_pos h4] at h; exact h
      rename_i h4; rw [if_neg h4] at h
      split
      · rename_i h5; rw [if_pos h5] at h; exact h
      rename_i h5; rw [if_neg h5] at h
      split
      · rename_i h6; rw [if_pos h6] at h; exact ih _ _ _ h
      rename_i h6; rw [if_neg h6] at h
      split
      · rename_i h7; rw [if_pos h7] at h; exact hb _ _ _ _ h fun y hy => hy
      rename_i h7; rw [if_neg h7] at h
      exact h
    | inner n => rw [P] at h ⊢; exact hb _ _ _ _ h fun y hy => hy
theorem P_more (fin : Nat) (defs : List (List UInt8 × Re)) {k k' : Nat} (hk : k ≤ k') {t : Task} {s : PS} {x : Re × PS} (h : P fin defs k t s = some x) : P fin defs k' t s = some x := by
  induction hk with
  | refl => exact h
  | step _ ih => exact P_mono _ _ _ _ _ _ ih
end Go.Proofs.YtemdkfohlppckaaGreatDoor.pa
