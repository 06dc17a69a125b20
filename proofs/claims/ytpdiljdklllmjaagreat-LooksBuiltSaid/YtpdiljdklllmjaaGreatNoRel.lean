/- Tables of spans as relations: one behind the other, any number of times. Conditions: none. -/
import Derived.Test.YtpdiljdklllmjaaGreatTabsRest

namespace Go.Proofs.YtpdiljdklllmjaaGreat.tabs
open Go Go.Ev Go.Proofs

/-- Two tables that tell the same of so many places. -/
def Eqt (n : Nat) (f g : Nat → Nat → Bool) : Prop := ∀ i j, i < n → j < n → f i j = g i j
def Upt (n : Nat) (f : Nat → Nat → Bool) : Prop := ∀ i j, i < n → j < n → f i j = true → i ≤ j
def oneT : Nat → Nat → Bool := fun i j => decide (i = j)
def nonT : Nat → Nat → Bool := fun _ _ => false
theorem Eqt.refl (n : Nat) (f : Nat → Nat → Bool) : Eqt n f f := fun _ _ _ _ => rfl
theorem Eqt.symm {n : Nat} {f g : Nat → Nat → Bool} (h : Eqt n f g) : Eqt n g f := fun i j hi hj => (h i j hi hj).symm
theorem Eqt.trans {n : Nat} {f g k : Nat → Nat → Bool} (h : Eqt n f g) (h2 : Eqt n g k) : Eqt n f k := fun i j hi hj => (h i j hi hj).trans (h2 i j hi hj)
theorem Eqt.up {n : Nat} {f g : Nat → Nat → Bool} (h : Eqt n f g) (hf : Upt n f) : Upt n g := fun i j hi hj hg => hf i j hi hj (by rw [h i j hi hj]; exact hg)
theorem upt_one (n : Nat) : Upt n oneT := fun i j _ _ h => by have := of_decide_eq_true h; omega
theorem upt_then (n : Nat) (f g : Nat → Nat → Bool) : Upt n (thenT n f g) := fun i j _ _ h => by
  obtain ⟨k, _, h1, h2, _⟩ := thenT_iff.1 h; omega
theorem then_iff' {n : Nat} {f g : Nat → Nat → Bool} (hf : Upt n f) (hg : Upt n g) {i j : Nat} (hi : i < n) (hj : j < n) : thenT n f g i j = true ↔ ∃ k, k < n ∧ f i k = true ∧ g k j = true := by
  rw [thenT_iff]
  exact ⟨fun ⟨k, h1, _, _, h2, h3⟩ => ⟨k, h1, h2, h3⟩, fun ⟨k, h1, h2, h3⟩ => ⟨k, h1, hf i k hi h1 h2, hg k j h1 hj h3, h2, h3⟩⟩
theorem eqt_of {n : Nat} {f g : Nat → Nat → Bool} (h : ∀ i j, i < n → j < n → (f i j = true ↔ g i j = true)) : Eqt n f g := fun i j hi hj => Bool.eq_iff_iff.2 (h i j hi hj)
theorem then_congr {n : Nat} {f f' g g' : Nat → Nat → Bool} (h : Eqt n f f') (k : Eqt n g g') : Eqt n (thenT n f g) (thenT n f' g') := eqt_of fun i j hi hj => by
  rw [thenT_iff, thenT_iff]
  constructor
  · rintro ⟨q, h1, h2, h3, h4, h5⟩; exact ⟨q, h1, h2, h3, by rw [← h i q hi h1]; exact h4, by rw [← k q j h1 hj]; exact h5⟩
  · rintro ⟨q, h1, h2, h3, h4, h5⟩; exact ⟨q, h1, h2, h3, by rw [h i q hi h1]; exact h4, by rw [k q j h1 hj]; exact h5⟩
theorem then_assoc (n : Nat) (f g h : Nat → Nat → Bool) : Eqt n (thenT n (thenT n f g) h) (thenT n f (thenT n g h)) := eqt_of fun i j hi hj => by
  rw [thenT_iff, thenT_iff]
  constructor
  · rintro ⟨q, h1, h2, h3, h4, h5⟩
    obtain ⟨p, k1, k2, k3, k4, k5⟩ := thenT_iff.1 h4
    exact ⟨p, k1, k2, by omega, k4, thenT_iff.2 ⟨q, h1, k3, h3, k5, h5⟩⟩
  · rintro ⟨q, h1, h2, h3, h4, h5⟩
    obtain ⟨p, k1, k2, k3, k4, k5⟩ := thenT_iff.1 h5
    exact ⟨p, k1, by omega, k3, thenT_iff.2 ⟨q, h1, h2, k2, h4, k4⟩, k5⟩
theorem then_one_r {n : Nat} {f : Nat → Nat → Bool} (hf : Upt n f) : Eqt n (thenT n f oneT) f := eqt_of fun i j hi hj => by
  rw [then_iff' hf (upt_one n) hi hj]
  exact ⟨fun ⟨k, _, h1, h2⟩ => by rw [← of_decide_eq_true h2]; exact h1, fun h => ⟨j, hj, h, decide_eq_true rfl⟩⟩
theorem then_one_l {n : Nat} {f : Nat → Nat → Bool} (hf : Upt n f) : Eqt n (thenT n oneT f) f := eqt_of fun i j hi hj => by
  rw [then_iff' (upt_one n) hf hi hj]
  exact ⟨fun ⟨k, _, h1, h2⟩ => by rw [of_decide_eq_true h1]; exact h2, fun h => ⟨i, hi, decide_eq_true rfl, h⟩⟩
theorem then_non_l (n : Nat) (f : Nat → Nat → Bool) : thenT n nonT f = nonT := by
  funext i j
  rw [Bool.eq_iff_iff, thenT_iff]
  exact ⟨fun ⟨_, _, _, _, h, _⟩ => h, fun h => absurd h (by simp [nonT])⟩
theorem then_non_r (n : Nat) (f : Nat → Nat → Bool) : thenT n f nonT = nonT := by
  funext i j
  rw [Bool.eq_iff_iff, thenT_iff]
  exact ⟨fun ⟨_, _, _, _, _, h⟩ => h, fun h => absurd h (by simp [nonT])⟩

/-! ### So many times -/
theorem upt_pow (n : Nat) (f : Nat → Nat → Bool) : ∀ k, Upt n (powK n f k)
  | 0 => upt_one n
  | _ + 1 => upt_then n _ _
theorem pow_congr {n : Nat} {f g : Nat → Nat → Bool} (h : Eqt n f g) : ∀ k, Eqt n (powK n f k) (powK n g k)
  | 0 => Eqt.refl _ _
  | k + 1 => then_congr (pow_congr h k) h
theorem pow_add {n : Nat} {f : Nat → Nat → Bool} (hf : Upt n f) (a : Nat) : ∀ b, Eqt n (powK n f (a + b)) (thenT n (powK n f a) (powK n f b))
  | 0 => (then_one_r (upt_pow n f a)).symm
  | b + 1 => (then_congr (pow_add hf a b) (Eqt.refl n f)).trans (then_assoc n _ _ _)
theorem pow_one {n : Nat} {f : Nat → Nat → Bool} (hf : Upt n f) : Eqt n (powK n f 1) f := then_one_l hf
/-- One time ahead. -/
theorem pow_succ {n : Nat} {f : Nat → Nat → Bool} (hf : Upt n f) (k : Nat) : Eqt n (powK n f (k + 1)) (thenT n f (powK n f k)) := by
  rw [show k + 1 = 1 + k by omega]
  exact (pow_add hf 1 k).trans (then_congr (pow_one hf) (Eqt.refl _ _))
theorem pow_short {n : Nat} {f : Nat → Nat → Bool} : ∀ (m : Nat) (i j : Nat), i < n → j < n → powK n f m i j = true → ∃ m', m' + i ≤ j ∧ powK n f m' i j = true
  | 0, i, j, _, _, h => ⟨0, by have := of_decide_eq_true (show decide (i = j) = true from h); omega, h⟩
  | m + 1, i, j, hi, hj, h => by
    obtain ⟨k, h1, h2, h3, h4, h5⟩ := thenT_iff.1 h
    obtain ⟨m', h6, h7⟩ := pow_short m i k hi h1 h4
    by_cases e : k = j
    · subst e; exact ⟨m', h6, h7⟩
    · exact ⟨m' + 1, by omega, thenT_iff.2 ⟨k, h1, h2, h3, h7, h5⟩⟩
theorem anyK_iff {n : Nat} {f : Nat → Nat → Bool} : ∀ (k : Nat) (i j : Nat), anyK n f k i j = true ↔ ∃ m, m ≤ k ∧ powK n f m i j = true
  | 0, i, j => ⟨fun h => ⟨0, Nat.le_refl 0, h⟩, fun ⟨m, hm, h⟩ => by rw [show m = 0 by omega] at h; exact h⟩
  | k + 1, i, j => by
    rw [anyK, Bool.or_eq_true, anyK_iff k i j, thenT_iff]
    constructor
    · rintro (⟨m, h1, h2⟩ | ⟨q, h1, h2, h3, h4, h5⟩)
      · exact ⟨m, by omega, h2⟩
      · obtain ⟨m, h6, h7⟩ := (anyK_iff k i q).1 h4
        exact ⟨m + 1, by omega, thenT_iff.2 ⟨q, h1, h2, h3, h7, h5⟩⟩
    · rintro ⟨m, h1, h2⟩
      by_cases e : m ≤ k
      · exact .inl ⟨m, e, h2⟩
      · obtain rfl : m = k + 1 := by omega
        obtain ⟨q, h3, h4, h5, h6, h7⟩ := thenT_iff.1 h2
        exact .inr ⟨q, h3, h4, h5, (anyK_iff k i q).2 ⟨k, Nat.le_refl k, h6⟩, h7⟩
theorem any_iff {n : Nat} {f : Nat → Nat → Bool} {i j : Nat} (hi : i < n) (hj : j < n) : anyT n f i j = true ↔ ∃ m, powK n f m i j = true := by
  unfold anyT
  rw [anyK_iff]
  refine ⟨fun ⟨m, _, h⟩ => ⟨m, h⟩, fun ⟨m, h⟩ => ?_⟩
  obtain ⟨m', h1, h2⟩ := pow_short m i j hi hj h
  exact ⟨m', by omega, h2⟩
theorem upt_any (n : Nat) (f : Nat → Nat → Bool) : Upt n (anyT n f) := fun i j hi hj h => by
  obtain ⟨m, h⟩ := (any_iff hi hj).1 h
  exact upt_pow n f m i j hi hj h
theorem any_congr {n : Nat} {f g : Nat → Nat → Bool} (h : Eqt n f g) : Eqt n (anyT n f) (anyT n g) := eqt_of fun i j hi hj => by
  rw [any_iff hi hj, any_iff hi hj]
  exact ⟨fun ⟨m, k⟩ => ⟨m, by rw [← pow_congr h m i j hi hj]; exact k⟩, fun ⟨m, k⟩ => ⟨m, by rw [pow_congr h m i j hi hj]; exact k⟩⟩
theorem any_any {n : Nat} {f : Nat → Nat → Bool} (hf : Upt n f) : Eqt n (anyT n (anyT n f)) (anyT n f) := eqt_of fun i j hi hj => by
  rw [any_iff hi hj]
  constructor
  · rintro ⟨m, h⟩
    rw [any_iff hi hj]
    revert j
    induction m with
    | zero => intro j hj h; exact ⟨0, h⟩
    | succ m ih =>
      intro j hj h
      obtain ⟨k, h1, h2, h3, h4, h5⟩ := thenT_iff.1 h
      obtain ⟨a, ha⟩ := ih k h1 h4
      obtain ⟨b, hb⟩ := (any_iff h1 hj).1 h5
      exact ⟨a + b, by rw [pow_add hf a b i j hi hj]; exact thenT_iff.2 ⟨k, h1, h2, h3, ha, hb⟩⟩
  · exact fun h => ⟨1, by rw [pow_one (upt_any n f) i j hi hj]; exact h⟩
theorem any_one (n : Nat) : Eqt n (anyT n oneT) oneT := eqt_of fun i j hi hj => by
  rw [any_iff hi hj]
  constructor
  · rintro ⟨m, h⟩
    obtain ⟨m', -, -⟩ := pow_short m i j hi hj h
    have : ∀ m, Eqt n (powK n oneT m) oneT := fun m => by
      induction m with
      | zero => exact Eqt.refl _ _
      | succ m ih => exact (then_congr ih (Eqt.refl _ _)).trans (then_one_l (upt_one n))
    rw [← this m i j hi hj]; exact h
  · exact fun h => ⟨0, h⟩
theorem any_non (n : Nat) : Eqt n (anyT n nonT) oneT := eqt_of fun i j hi hj => by
  rw [any_iff hi hj]
  constructor
  · rintro ⟨m, h⟩
    cases m with
    | zero => exact h
    | succ m => rw [powK, then_non_r] at h; exact absurd h (by simp [nonT])
  · exact fun h => ⟨0, h⟩
/-- At most so many times. -/
def optT (n : Nat) (f : Nat → Nat → Bool) : Nat → Nat → Nat → Bool
  | 0 => oneT
  | k + 1 => fun i j => oneT i j || thenT n f (optT n f k) i j
theorem optT_iff {n : Nat} {f : Nat → Nat → Bool} (hf : Upt n f) : ∀ (k : Nat) (i j : Nat), i < n → j < n → (optT n f k i j = true ↔ ∃ m, m ≤ k ∧ powK n f m i j = true)
  | 0, i, j, _, _ => ⟨fun h => ⟨0, Nat.le_refl 0, h⟩, fun ⟨m, hm, h⟩ => by rw [show m = 0 by omega] at h; exact h⟩
  | k + 1, i, j, hi, hj => by
    rw [optT, Bool.or_eq_true, thenT_iff]
    constructor
    · rintro (h | ⟨q, h1, h2, h3, h4, h5⟩)
      · exact ⟨0, by omega, h⟩
      · obtain ⟨m, h6, h7⟩ := (optT_iff hf k q j h1 hj).1 h5
        exact ⟨m + 1, by omega, by rw [pow_succ hf m i j hi hj]; exact thenT_iff.2 ⟨q, h1, h2, h3, h4, h7⟩⟩
    · rintro ⟨m, h1, h2⟩
      cases m with
      | zero => exact .inl h2
      | succ m =>
        rw [pow_succ hf m i j hi hj] at h2
        obtain ⟨q, h3, h4, h5, h6, h7⟩ := thenT_iff.1 h2
        exact .inr ⟨q, h3, h4, h5, h6, (optT_iff hf k q j h3 hj).2 ⟨m, by omega, h7⟩⟩
theorem outK_iff {n : Nat} {f : Nat → Nat → Bool} (lo : Nat) : ∀ (d : Nat) (i j : Nat), outK n f lo d i j = true ↔ ∃ m, m ≤ d ∧ powK n f (lo + m) i j = true
  | 0, i, j => ⟨fun h => ⟨0, Nat.le_refl 0, h⟩, fun ⟨m, hm, h⟩ => by rw [show m = 0 by omega] at h; exact h⟩
  | d + 1, i, j => by
    rw [outK, Bool.or_eq_true, outK_iff lo d i j]
    constructor
    · rintro (⟨m, h1, h2⟩ | h)
      · exact ⟨m, by omega, h2⟩
      · exact ⟨d + 1, Nat.le_refl _, h⟩
    · rintro ⟨m, h1, h2⟩
      by_cases e : m ≤ d
      · exact .inl ⟨m, e, h2⟩
      · rw [show m = d + 1 by omega] at h2; exact .inr h2
/-- So many times ahead of a table. -/
def repT (n : Nat) (f : Nat → Nat → Bool) : Nat → (Nat → Nat → Bool) → Nat → Nat → Bool
  | 0, g => g
  | k + 1, g => repT n f k (thenT n f g)
theorem repT_eq {n : Nat} {f : Nat → Nat → Bool} (hf : Upt n f) : ∀ (k : Nat) {g : Nat → Nat → Bool}, Upt n g → Eqt n (repT n f k g) (thenT n (powK n f k) g)
  | 0, g, hg => (then_one_l hg).symm
  | k + 1, g, _ => (repT_eq hf k (upt_then n f g)).trans (then_assoc n (powK n f k) f g).symm
theorem repT_congr {n : Nat} {f : Nat → Nat → Bool} : ∀ (k : Nat) {g g' : Nat → Nat → Bool}, Eqt n g g' → Eqt n (repT n f k g) (repT n f k g')
  | 0, _, _, h => h
  | k + 1, _, _, h => repT_congr k (then_congr (Eqt.refl n f) h)
/-- So many times: as the program puts it together, and as the document does. -/
theorem times_same {n : Nat} {f : Nat → Nat → Bool} (hf : Upt n f) {lo hi : Int} (hl : hi < 0 ∨ lo ≤ hi) (hlo : 0 ≤ lo) : Eqt n (repT n f lo.toNat (if hi < 0 then anyT n f else optT n f (hi - lo).toNat)) (timesT n lo hi f) := by
  unfold timesT
  by_cases h : hi < 0
  · rw [if_pos h, if_pos h]
    exact repT_eq hf _ (upt_any n f)
  · rw [if_neg h, if_neg h]
    have hup : Upt n (optT n f (hi - lo).toNat) := fun i j hi' hj h' => by
      obtain ⟨m, _, h2⟩ := (optT_iff hf _ i j hi' hj).1 h'
      exact upt_pow n f m i j hi' hj h2
    refine (repT_eq hf _ hup).trans (eqt_of fun i j hi' hj => ?_)
    rw [outK_iff, thenT_iff]
    constructor
    · rintro ⟨k, h1, h2, h3, h4, h5⟩
      obtain ⟨m, h6, h7⟩ := (optT_iff hf _ k j h1 hj).1 h5
      exact ⟨m, h6, by rw [pow_add hf _ m i j hi' hj]; exact thenT_iff.2 ⟨k, h1, h2, h3, h4, h7⟩⟩
    · rintro ⟨m, h1, h2⟩
      rw [pow_add hf _ m i j hi' hj] at h2
      obtain ⟨k, h3, h4, h5, h6, h7⟩ := thenT_iff.1 h2
      exact ⟨k, h3, h4, h5, h6, (optT_iff hf _ k j h3 hj).2 ⟨m, h1, h7⟩⟩
theorem optT_congr {n : Nat} {f g : Nat → Nat → Bool} (h : Eqt n f g) : ∀ k, Eqt n (optT n f k) (optT n g k)
  | 0 => Eqt.refl _ _
  | k + 1 => fun i j hi hj => by
    show (oneT i j || thenT n f (optT n f k) i j) = (oneT i j || thenT n g (optT n g k) i j)
    rw [then_congr h (optT_congr h k) i j hi hj]
end Go.Proofs.YtpdiljdklllmjaaGreat.tabs
