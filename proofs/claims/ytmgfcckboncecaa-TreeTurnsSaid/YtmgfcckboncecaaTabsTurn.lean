/- Patterns turned round match backwards what they matched. Conditions: none. -/
import Derived.Test.YtmgfcckboncecaaTabsSpans
import Derived.Test.YtmgfcckboncecaaTreeRturn

namespace Go.Proofs.Ytmgfcckboncecaa.tabs
open Go Go.Ev Go.Proofs Go.Proofs.Ytmgfcckboncecaa.tree

def EqN (N : Nat) (f g : Tb) : Prop := ∀ i j, i < N → j < N → f i j = g i j
def Good (f : Tb) : Prop := ∀ i j, f i j = true → i ≤ j
def dg : Tb := fun i j => decide (i = j)
/-- Read backwards. -/
def rv (n : Nat) (f : Tb) : Tb := fun i j => f (n - j) (n - i)

theorem EqN.rfl' {N : Nat} {f : Tb} : EqN N f f := fun _ _ _ _ => rfl
theorem EqN.symm {N : Nat} {f g : Tb} (h : EqN N f g) : EqN N g f := fun i j hi hj => (h i j hi hj).symm
theorem EqN.trans {N : Nat} {f g h : Tb} (h1 : EqN N f g) (h2 : EqN N g h) : EqN N f h := fun i j hi hj => (h1 i j hi hj).trans (h2 i j hi hj)
theorem EqN.of {N : Nat} {f g : Tb} (h : f = g) : EqN N f g := by subst h; exact EqN.rfl'
theorem rv_congr {n : Nat} {f g : Tb} (h : EqN (n + 1) f g) : EqN (n + 1) (rv n f) (rv n g) := fun i j _ _ => h _ _ (by omega) (by omega)

theorem then_congr {N : Nat} {f f' g g' : Tb} (h1 : EqN N f f') (h2 : EqN N g g') : EqN N (thenT N f g) (thenT N f' g') := by
  intro i j hi hj
  rw [Bool.eq_iff_iff, thenT_iff, thenT_iff]
  exact exists_congr fun k => ⟨fun ⟨a, b, c, d, e⟩ => ⟨a, b, c, by rw [← h1 i k hi a]; exact d, by rw [← h2 k j a hj]; exact e⟩, fun ⟨a, b, c, d, e⟩ => ⟨a, b, c, by rw [h1 i k hi a]; exact d, by rw [h2 k j a hj]; exact e⟩⟩
theorem then_good {N : Nat} {f g : Tb} : Good (thenT N f g) := by
  intro i j h
  obtain ⟨k, _, h1, h2, _⟩ := thenT_iff.1 h
  omega
theorem then_assoc (N : Nat) (f g h : Tb) : thenT N (thenT N f g) h = thenT N f (thenT N g h) := by
  funext i j
  rw [Bool.eq_iff_iff, thenT_iff, thenT_iff]
  constructor
  · rintro ⟨k, h1, h2, h3, h4, h5⟩
    obtain ⟨q, h6, h7, h8, h9, h10⟩ := thenT_iff.1 h4
    exact ⟨q, h6, h7, by omega, h9, thenT_iff.2 ⟨k, h1, h8, h3, h10, h5⟩⟩
  · rintro ⟨q, h1, h2, h3, h4, h5⟩
    obtain ⟨k, h6, h7, h8, h9, h10⟩ := thenT_iff.1 h5
    exact ⟨k, h6, by omega, h8, thenT_iff.2 ⟨q, h1, h2, h7, h4, h9⟩, h10⟩
theorem then_dgl {N : Nat} {f : Tb} (hf : Good f) : EqN N (thenT N dg f) f := by
  intro i j hi hj
  rw [Bool.eq_iff_iff, thenT_iff]
  constructor
  · rintro ⟨k, _, _, _, h4, h5⟩
    have : i = k := by simpa [dg] using h4
    subst this; exact h5
  · intro h; exact ⟨i, hi, Nat.le_refl i, hf i j h, by simp [dg], h⟩
theorem then_dgr {N : Nat} {f : Tb} (hf : Good f) : EqN N (thenT N f dg) f := by
  intro i j hi hj
  rw [Bool.eq_iff_iff, thenT_iff]
  constructor
  · rintro ⟨k, _, _, _, h4, h5⟩
    have : k = j := by simpa [dg] using h5
    subst this; exact h4
  · intro h; exact ⟨j, hj, hf i j h, Nat.le_refl j, h, by simp [dg]⟩
theorem then_rv {n : Nat} {f g : Tb} : EqN (n + 1) (thenT (n + 1) (rv n f) (rv n g)) (rv n (thenT (n + 1) g f)) := by
  intro i j hi hj
  unfold rv
  rw [Bool.eq_iff_iff, thenT_iff, thenT_iff]
  constructor
  · rintro ⟨k, h1, h2, h3, h4, h5⟩; exact ⟨n - k, by omega, by omega, by omega, h5, h4⟩
  · rintro ⟨k, h1, h2, h3, h4, h5⟩
    exact ⟨n - k, by omega, by omega, by omega, by rw [show n - (n - k) = k by omega]; exact h5, by rw [show n - (n - k) = k by omega]; exact h4⟩
theorem dg_good : Good dg := fun i j h => by have : i = j := by simpa [dg] using h
                                             omega
theorem dg_rv {n : Nat} : EqN (n + 1) dg (rv n dg) := fun i j hi hj => by unfold dg rv; exact decide_eq_decide.2 (by omega)

/-! ### one behind the other, of many -/
def catT (N : Nat) (l : List Tb) : Tb := l.foldl (thenT N) dg
theorem foldl_assoc (N : Nat) : ∀ (l : List Tb) (a b : Tb), l.foldl (thenT N) (thenT N a b) = thenT N a (l.foldl (thenT N) b) := by
  intro l
  induction l with
  | nil => intro a b; rfl
  | cons x l ih => intro a b; simp only [List.foldl_cons]; rw [then_assoc, ih]
theorem foldl_congr {N : Nat} : ∀ (l : List Tb) (z z' : Tb), EqN N z z' → EqN N (l.foldl (thenT N) z) (l.foldl (thenT N) z') := by
  intro l
  induction l with
  | nil => intro z z' h; exact h
  | cons x l ih => intro z z' h; exact ih _ _ (then_congr h EqN.rfl')
theorem foldl_good {N : Nat} : ∀ (l : List Tb) (z : Tb), Good z → Good (l.foldl (thenT N) z) := by
  intro l
  induction l with
  | nil => intro z h; exact h
  | cons x l ih => intro z h; exact ih _ then_good
theorem cat_cons {N : Nat} {x : Tb} {l : List Tb} (hx : Good x) : EqN N (catT N (x :: l)) (thenT N x (catT N l)) := by
  show EqN N (l.foldl (thenT N) (thenT N dg x)) _
  have h1 : EqN N (l.foldl (thenT N) (thenT N dg x)) (l.foldl (thenT N) (thenT N x dg)) := foldl_congr l _ _ ((then_dgl hx).trans (then_dgr hx).symm)
  exact h1.trans (EqN.of (foldl_assoc N l x dg))
theorem cat_rv {n : Nat} {F G : Re → Tb} : ∀ (rs : List Re), (∀ p ∈ rs, Good (F p)) → (∀ p ∈ rs, EqN (n + 1) (G p) (rv n (F p))) → EqN (n + 1) (catT (n + 1) (rs.map G).reverse) (rv n (catT (n + 1) (rs.map F))) := by
  intro rs
  induction rs with
  | nil => intro _ _; exact dg_rv
  | cons p rs ih =>
    intro h1 h2
    have e : catT (n + 1) ((p :: rs).map G).reverse = thenT (n + 1) (catT (n + 1) (rs.map G).reverse) (G p) := by
      unfold catT; rw [List.map_cons, List.reverse_cons, List.foldl_append]; rfl
    rw [e]
    refine (then_congr (ih (fun q hq => h1 q (by simp [hq])) fun q hq => h2 q (by simp [hq])) (h2 p (by simp))).trans ?_
    exact then_rv.trans (rv_congr (cat_cons (h1 p (by simp))).symm)

/-! ### so many times -/
theorem pow_good {N : Nat} {f : Tb} : ∀ k, Good (powK N f k) := by
  intro k; cases k with
  | zero => exact dg_good
  | succ k => exact then_good
theorem pow_comm1 {N : Nat} {f : Tb} (hf : Good f) : ∀ k, EqN N (thenT N f (powK N f k)) (thenT N (powK N f k) f) := by
  intro k
  induction k with
  | zero => exact (then_dgr hf).trans (then_dgl hf).symm
  | succ k ih => exact (EqN.of (then_assoc N f (powK N f k) f).symm).trans (then_congr ih EqN.rfl')
theorem pow_comm {N : Nat} {f : Tb} (hf : Good f) (a : Nat) : ∀ b, EqN N (thenT N (powK N f a) (powK N f b)) (thenT N (powK N f b) (powK N f a)) := by
  intro b
  induction b with
  | zero => exact (then_dgr (pow_good a)).trans (then_dgl (pow_good a)).symm
  | succ b ih =>
    refine (EqN.of (then_assoc N (powK N f a) (powK N f b) f).symm).trans ((then_congr ih EqN.rfl').trans ?_)
    rw [then_assoc]
    refine (then_congr EqN.rfl' (pow_comm1 hf a).symm).trans (EqN.of ?_)
    rw [← then_assoc]; rfl
theorem pow_rv {n : Nat} {f f' : Tb} (hf : Good f) (h : EqN (n + 1) f' (rv n f)) : ∀ k, EqN (n + 1) (powK (n + 1) f' k) (rv n (powK (n + 1) f k)) := by
  intro k
  induction k with
  | zero => exact dg_rv
  | succ k ih => exact (then_congr ih h).trans (then_rv.trans (rv_congr (pow_comm1 hf k)))
theorem any_iff {N : Nat} {f : Tb} : ∀ (k i j : Nat), anyK N f k i j = true ↔ ∃ q, q ≤ k ∧ powK N f q i j = true := by
  intro k
  induction k with
  | zero => intro i j; exact ⟨fun h => ⟨0, Nat.le_refl 0, h⟩, fun ⟨q, h1, h2⟩ => by have : q = 0 := by omega
                                                                                    subst this; exact h2⟩
  | succ k ih =>
    intro i j
    simp only [anyK, Bool.or_eq_true, ih, thenT_iff]
    constructor
    · rintro (⟨q, h1, h2⟩ | ⟨m, h1, h2, h3, ⟨q, h4, h5⟩, h6⟩)
      · exact ⟨q, by omega, h2⟩
      · exact ⟨q + 1, by omega, thenT_iff.2 ⟨m, h1, h2, h3, h5, h6⟩⟩
    · rintro ⟨q, h1, h2⟩
      by_cases e : q = k + 1
      · subst e
        obtain ⟨m, h3, h4, h5, h6, h7⟩ := thenT_iff.1 h2
        exact .inr ⟨m, h3, h4, h5, ⟨k, Nat.le_refl k, h6⟩, h7⟩
      · exact .inl ⟨q, by omega, h2⟩
theorem any_rv {n : Nat} {f f' : Tb} (hf : Good f) (h : EqN (n + 1) f' (rv n f)) : EqN (n + 1) (anyT (n + 1) f') (rv n (anyT (n + 1) f)) := by
  intro i j hi hj
  unfold anyT
  show anyK (n + 1) f' (n + 1) i j = anyK (n + 1) f (n + 1) (n - j) (n - i)
  rw [Bool.eq_iff_iff, any_iff, any_iff]
  refine exists_congr fun q => and_congr Iff.rfl ?_
  rw [pow_rv hf h q i j hi hj]; rfl
theorem any_pow {N : Nat} {f : Tb} (hf : Good f) (a : Nat) : EqN N (thenT N (anyT N f) (powK N f a)) (thenT N (powK N f a) (anyT N f)) := by
  intro i j hi hj
  unfold anyT
  have key : ∀ q, thenT N (powK N f q) (powK N f a) i j = thenT N (powK N f a) (powK N f q) i j := fun q => pow_comm hf q a i j hi hj
  rw [Bool.eq_iff_iff, thenT_iff, thenT_iff]
  constructor
  · rintro ⟨k, h1, h2, h3, h4, h5⟩
    obtain ⟨q, h6, h7⟩ := (any_iff _ _ _).1 h4
    have := key q
    rw [Bool.eq_iff_iff] at this
    obtain ⟨k', h8, h9, h10, h11, h12⟩ := thenT_iff.1 (this.1 (thenT_iff.2 ⟨k, h1, h2, h3, h7, h5⟩))
    exact ⟨k', h8, h9, h10, h11, (any_iff _ _ _).2 ⟨q, h6, h12⟩⟩
  · rintro ⟨k, h1, h2, h3, h4, h5⟩
    obtain ⟨q, h6, h7⟩ := (any_iff _ _ _).1 h5
    have := key q
    rw [Bool.eq_iff_iff] at this
    obtain ⟨k', h8, h9, h10, h11, h12⟩ := thenT_iff.1 (this.2 (thenT_iff.2 ⟨k, h1, h2, h3, h4, h7⟩))
    exact ⟨k', h8, h9, h10, (any_iff _ _ _).2 ⟨q, h6, h11⟩, h12⟩
theorem out_rv {n : Nat} {f f' : Tb} (hf : Good f) (h : EqN (n + 1) f' (rv n f)) (lo : Nat) : ∀ d, EqN (n + 1) (outK (n + 1) f' lo d) (rv n (outK (n + 1) f lo d)) := by
  intro d
  induction d with
  | zero => exact pow_rv hf h lo
  | succ d ih =>
    intro i j hi hj
    simp only [outK, rv]
    rw [ih i j hi hj, pow_rv hf h _ i j hi hj]; rfl
theorem out_good {N : Nat} {f : Tb} (lo : Nat) : ∀ d, Good (outK N f lo d) := by
  intro d
  induction d with
  | zero => exact pow_good lo
  | succ d ih =>
    intro i j h
    simp only [outK, Bool.or_eq_true] at h
    rcases h with h | h
    · exact ih i j h
    · exact pow_good _ i j h
theorem times_rv {n : Nat} {f f' : Tb} (hf : Good f) (h : EqN (n + 1) f' (rv n f)) (lo hi : Int) : EqN (n + 1) (timesT (n + 1) lo hi f') (rv n (timesT (n + 1) lo hi f)) := by
  unfold timesT
  by_cases e : hi < 0
  · rw [if_pos e, if_pos e]
    exact (then_congr (pow_rv hf h _) (any_rv hf h)).trans (then_rv.trans (rv_congr (any_pow hf _)))
  · rw [if_neg e, if_neg e]; exact out_rv hf h _ _
theorem times_good {N : Nat} {f : Tb} (lo hi : Int) : Good (timesT N lo hi f) := by
  unfold timesT
  split
  · exact then_good
  · exact out_good _ _

/-! ### or, and, looks, bytes -/
theorem or_fold : ∀ (l : List Tb) (z : Tb) (i j : Nat), l.foldl (fun f g i j => f i j || g i j) z i j = (z i j || l.any fun g => g i j) := by
  intro l
  induction l with
  | nil => intro z i j; simp
  | cons x l ih => intro z i j; simp only [List.foldl_cons, ih, List.any_cons, Bool.or_assoc]
theorem and_fold : ∀ (l : List Tb) (z : Tb) (i j : Nat), l.foldl (fun f g i j => f i j && g i j) z i j = (z i j && l.all fun g => g i j) := by
  intro l
  induction l with
  | nil => intro z i j; simp
  | cons x l ih => intro z i j; simp only [List.foldl_cons, ih, List.all_cons, Bool.and_assoc]
theorem look_rv {n : Nat} {f f' : Tb} (h : EqN (n + 1) f' (rv n f)) (k k' : Int) (hk : (k = 8 ∧ k' = 9) ∨ (k = 9 ∧ k' = 8)) (neg : Bool) : EqN (n + 1) (lookT (n + 1) k' neg f') (rv n (lookT (n + 1) k neg f)) := by
  intro i j hi hj
  unfold rv lookT
  by_cases e : i = j
  · subst e
    rw [decide_eq_true rfl, decide_eq_true rfl, Bool.true_and, Bool.true_and]
    have : lookS (n + 1) k' f' i = lookS (n + 1) k f (n - i) := by
      unfold lookS
      rw [Bool.eq_iff_iff]
      simp only [List.any_eq_true, List.mem_range, Bool.or_eq_true, Bool.and_eq_true, decide_eq_true_eq]
      rcases hk with ⟨rfl, rfl⟩ | ⟨rfl, rfl⟩
      · constructor
        · rintro ⟨q, h1, ⟨h2, _⟩ | ⟨_, h2⟩⟩
          · omega
          · rw [h q i h1 hi] at h2; exact ⟨n - q, by omega, .inl ⟨rfl, h2⟩⟩
        · rintro ⟨q, h1, ⟨_, h2⟩ | ⟨h2, _⟩⟩
          · refine ⟨n - q, by omega, .inr ⟨rfl, ?_⟩⟩
            rw [h (n - q) i (by omega) hi]; unfold rv; rw [show n - (n - q) = q by omega]; exact h2
          · omega
      · constructor
        · rintro ⟨q, h1, ⟨_, h2⟩ | ⟨h2, _⟩⟩
          · rw [h i q hi h1] at h2; exact ⟨n - q, by omega, .inr ⟨rfl, h2⟩⟩
          · omega
        · rintro ⟨q, h1, ⟨h2, _⟩ | ⟨_, h2⟩⟩
          · omega
          · refine ⟨n - q, by omega, .inl ⟨rfl, ?_⟩⟩
            rw [h i (n - q) hi (by omega)]; unfold rv; rw [show n - (n - q) = q by omega]; exact h2
    rw [this]
  · rw [decide_eq_false e, decide_eq_false (by omega : ¬ n - j = n - i)]; rfl
theorem getD_rev {w : List Int} {i : Nat} (hi : i < w.length) : w.reverse.getD i 0 = w.getD (w.length - 1 - i) 0 := by
  rw [List.getD_eq_getElem?_getD, List.getD_eq_getElem?_getD, List.getElem?_reverse hi]

theorem node_good (w : List Int) (k s0 s1 s2 s3 lo hi : Int) (neg : Bool) (l : List Tb) (hl : ∀ f ∈ l, Good f) : Good (nodeT w k s0 s1 s2 s3 lo hi neg l) := by
  unfold nodeT
  intro i j h
  simp only at h
  split at h
  · exact dg_good i j h
  split at h
  · simp only [Bool.and_eq_true, decide_eq_true_eq] at h; omega
  split at h
  · exact foldl_good l _ dg_good i j h
  split at h
  · rw [or_fold] at h
    simp only [Bool.false_or, List.any_eq_true] at h
    obtain ⟨g, h1, h2⟩ := h
    exact hl g h1 i j h2
  split at h
  · rw [and_fold] at h
    simp only [Bool.and_eq_true, decide_eq_true_eq] at h; exact h.1.1
  split at h
  · simp only [Bool.and_eq_true, decide_eq_true_eq] at h; exact h.1
  split at h
  · exact times_good _ _ i j h
  split at h
  · unfold lookT at h; simp only [Bool.and_eq_true, decide_eq_true_eq] at h; omega
  split at h
  · simp only [Bool.and_eq_true, decide_eq_true_eq] at h; omega
  split at h
  · simp only [Bool.and_eq_true, decide_eq_true_eq] at h; omega
  · cases h
theorem spans_good (w : List Int) (r : Re) : Good (spansR w r) := by
  induction r using Re.ind with
  | h k s0 s1 s2 s3 rs lo hi neg ih =>
    simp only [spansR, spansL_eq]
    refine node_good w k s0 s1 s2 s3 lo hi neg _ fun f hf => ?_
    obtain ⟨p, hp, rfl⟩ := List.mem_map.1 hf
    exact ih p hp

/-- What is turned round matches backwards. -/
theorem spans_turn (w : List Int) (r : Re) : allR r = true → EqN (w.length + 1) (spansR w.reverse (turnR r)) (rv w.length (spansR w r)) := by
  induction r using Re.ind with
  | h kd s0 s1 s2 s3 rs lo hi neg ih =>
    intro hall
    simp only [allR, Bool.and_eq_true, decide_eq_true_eq] at hall
    obtain ⟨hO, hall⟩ := hall
    rw [allL_eq, List.all_eq_true] at hall
    have hG : ∀ p ∈ rs, EqN (w.length + 1) (spansR w.reverse (turnR p)) (rv w.length (spansR w p)) := fun p hp => ih p hp (hall p hp)
    have hF : ∀ p ∈ rs, Good (spansR w p) := fun p _ => spans_good w p
    have hmap : (rs.map turnR).map (spansR w.reverse) = rs.map fun p => spansR w.reverse (turnR p) := by rw [List.map_map]; rfl
    have hO2 := hO.2.1
    rw [turnR_eq]
    simp only [spansR, spansL_eq, nodeT, List.length_reverse]
    by_cases k1 : kd = 1
    · have ek : turnK kd = 1 := by unfold turnK; rw [if_neg (by omega), if_neg (by omega), if_neg (by omega), if_neg (by omega)]; exact k1
      rw [if_pos ek]
      intro i j hi hj
      unfold rv
      rw [if_pos k1]
      exact decide_eq_decide.2 (by omega)
    by_cases k2 : kd = 2
    · have ek : turnK kd = 2 := by unfold turnK; rw [if_neg (by omega), if_neg (by omega), if_neg (by omega), if_neg (by omega)]; exact k2
      rw [if_neg (by omega : ¬ turnK kd = 1), if_pos ek]
      intro i j hi hj
      unfold rv
      rw [if_neg k1, if_pos k2]
      show (decide (j = i + 1) && hasR s0 s1 s2 s3 (w.reverse.getD i 0).toNat) = (decide (w.length - i = w.length - j + 1) && hasR s0 s1 s2 s3 (w.getD (w.length - j) 0).toNat)
      by_cases e : j = i + 1
      · rw [decide_eq_true e, decide_eq_true (by omega), getD_rev (by omega), show w.length - 1 - i = w.length - j by omega]
      · rw [decide_eq_false e, decide_eq_false (by omega)]; rfl
    by_cases k3 : kd = 3
    · have ek : turnK kd = 3 := by unfold turnK; rw [if_neg (by omega), if_neg (by omega), if_neg (by omega), if_neg (by omega)]; exact k3
      rw [if_neg (by omega : ¬ turnK kd = 1), if_neg (by omega : ¬ turnK kd = 2), if_pos ek, if_pos k3, List.map_reverse, hmap]
      have := cat_rv (n := w.length) (F := spansR w) (G := fun p => spansR w.reverse (turnR p)) rs hF hG
      intro i j hi hj
      unfold rv
      rw [if_neg k1, if_neg k2, if_pos k3]
      exact this i j hi hj
    rw [if_neg k3, hmap]
    by_cases k4 : kd = 4
    · have ek : turnK kd = 4 := by unfold turnK; rw [if_neg (by omega), if_neg (by omega), if_neg (by omega), if_neg (by omega)]; exact k4
      rw [if_neg (by omega : ¬ turnK kd = 1), if_neg (by omega : ¬ turnK kd = 2), if_neg (by omega : ¬ turnK kd = 3), if_pos ek]
      intro i j hi hj
      unfold rv
      rw [if_neg k1, if_neg k2, if_neg k3, if_pos k4, or_fold, or_fold, Bool.false_or, Bool.false_or, List.any_map, List.any_map]
      rw [Bool.eq_iff_iff, List.any_eq_true, List.any_eq_true]
      exact exists_congr fun p => and_congr_right fun hp => by simp only [Function.comp_apply]; rw [hG p hp i j hi hj]; rfl
    by_cases k5 : kd = 5
    · have ek : turnK kd = 5 := by unfold turnK; rw [if_neg (by omega), if_neg (by omega), if_neg (by omega), if_neg (by omega)]; exact k5
      rw [if_neg (by omega : ¬ turnK kd = 1), if_neg (by omega : ¬ turnK kd = 2), if_neg (by omega : ¬ turnK kd = 3), if_neg (by omega : ¬ turnK kd = 4), if_pos ek]
      intro i j hi hj
      unfold rv
      rw [if_neg k1, if_neg k2, if_neg k3, if_neg k4, if_pos k5, and_fold, and_fold, List.all_map, List.all_map]
      have e1 : (decide (i ≤ j) && !false) = (decide (w.length - j ≤ w.length - i) && !false) := by congr 1; exact decide_eq_decide.2 (by omega)
      rw [e1]
      congr 1
      rw [Bool.eq_iff_iff, List.all_eq_true, List.all_eq_true]
      exact forall_congr' fun p => imp_congr_right fun hp => by simp only [Function.comp_apply]; rw [hG p hp i j hi hj]; rfl
    have hone : (kd = 6 ∨ kd = 7 ∨ kd = 8 ∨ kd = 9) → ∃ p, rs = [p] := by
      intro h
      have ek : partsK kd = 1 := by unfold partsK; rw [if_neg (by omega), if_pos h]
      rw [ek] at hO2
      have hl : rs.length = 1 := by have := hO2 (by omega); omega
      exact List.length_eq_one_iff.1 hl
    by_cases k6 : kd = 6
    · obtain ⟨p, rfl⟩ := hone (by omega)
      have ek : turnK kd = 6 := by unfold turnK; rw [if_neg (by omega), if_neg (by omega), if_neg (by omega), if_neg (by omega)]; exact k6
      rw [if_neg (by omega : ¬ turnK kd = 1), if_neg (by omega : ¬ turnK kd = 2), if_neg (by omega : ¬ turnK kd = 3), if_neg (by omega : ¬ turnK kd = 4), if_neg (by omega : ¬ turnK kd = 5), if_pos ek]
      intro i j hi hj
      unfold rv
      rw [if_neg k1, if_neg k2, if_neg k3, if_neg k4, if_neg k5, if_pos k6]
      simp only [List.map_cons, List.map_nil, List.headD_cons]
      rw [hG p (by simp) i j hi hj]
      unfold rv
      congr 1; exact decide_eq_decide.2 (by omega)
    by_cases k7 : kd = 7
    · obtain ⟨p, rfl⟩ := hone (by omega)
      have ek : turnK kd = 7 := by unfold turnK; rw [if_neg (by omega), if_neg (by omega), if_neg (by omega), if_neg (by omega)]; exact k7
      rw [if_neg (by omega : ¬ turnK kd = 1), if_neg (by omega : ¬ turnK kd = 2), if_neg (by omega : ¬ turnK kd = 3), if_neg (by omega : ¬ turnK kd = 4), if_neg (by omega : ¬ turnK kd = 5), if_neg (by omega : ¬ turnK kd = 6), if_pos ek]
      intro i j h1 h2
      unfold rv
      rw [if_neg k1, if_neg k2, if_neg k3, if_neg k4, if_neg k5, if_neg k6, if_pos k7]
      simp only [List.map_cons, List.map_nil, List.headD_cons]
      exact times_rv (hF p (by simp)) (hG p (by simp)) lo hi i j h1 h2
    by_cases k8 : kd = 8
    · obtain ⟨p, rfl⟩ := hone (by omega)
      have ek : turnK kd = 9 := by unfold turnK; rw [if_pos k8]
      rw [if_neg (by omega : ¬ turnK kd = 1), if_neg (by omega : ¬ turnK kd = 2), if_neg (by omega : ¬ turnK kd = 3), if_neg (by omega : ¬ turnK kd = 4), if_neg (by omega : ¬ turnK kd = 5), if_neg (by omega : ¬ turnK kd = 6), if_neg (by omega : ¬ turnK kd = 7), if_pos (by omega : turnK kd = 8 ∨ turnK kd = 9)]
      intro i j h1 h2
      unfold rv
      rw [if_neg k1, if_neg k2, if_neg k3, if_neg k4, if_neg k5, if_neg k6, if_neg k7, if_pos (by omega : kd = 8 ∨ kd = 9)]
      simp only [List.map_cons, List.map_nil, List.headD_cons]
      exact look_rv (hG p (by simp)) kd (turnK kd) (.inl ⟨k8, ek⟩) neg i j h1 h2
    by_cases k9 : kd = 9
    · obtain ⟨p, rfl⟩ := hone (by omega)
      have ek : turnK kd = 8 := by unfold turnK; rw [if_neg k8, if_pos k9]
      rw [if_neg (by omega : ¬ turnK kd = 1), if_neg (by omega : ¬ turnK kd = 2), if_neg (by omega : ¬ turnK kd = 3), if_neg (by omega : ¬ turnK kd = 4), if_neg (by omega : ¬ turnK kd = 5), if_neg (by omega : ¬ turnK kd = 6), if_neg (by omega : ¬ turnK kd = 7), if_pos (by omega : turnK kd = 8 ∨ turnK kd = 9)]
      intro i j h1 h2
      unfold rv
      rw [if_neg k1, if_neg k2, if_neg k3, if_neg k4, if_neg k5, if_neg k6, if_neg k7, if_pos (by omega : kd = 8 ∨ kd = 9)]
      simp only [List.map_cons, List.map_nil, List.headD_cons]
      exact look_rv (hG p (by simp)) kd (turnK kd) (.inr ⟨k9, ek⟩) neg i j h1 h2
    have k89 : ¬ (kd = 8 ∨ kd = 9) := by omega
    by_cases k10 : kd = 10
    · have ek : turnK kd = 11 := by unfold turnK; rw [if_neg k8, if_neg k9, if_pos k10]
      rw [if_neg (by omega : ¬ turnK kd = 1), if_neg (by omega : ¬ turnK kd = 2), if_neg (by omega : ¬ turnK kd = 3), if_neg (by omega : ¬ turnK kd = 4), if_neg (by omega : ¬ turnK kd = 5), if_neg (by omega : ¬ turnK kd = 6), if_neg (by omega : ¬ turnK kd = 7), if_neg (by omega : ¬ (turnK kd = 8 ∨ turnK kd = 9)), if_neg (by omega : ¬ turnK kd = 10), if_pos ek]
      intro i j h1 h2
      unfold rv
      rw [if_neg k1, if_neg k2, if_neg k3, if_neg k4, if_neg k5, if_neg k6, if_neg k7, if_neg k89, if_pos k10]
      show (decide (i = j) && (decide (i = w.length) || decide (w.reverse.getD i 0 = 10))) = (decide (w.length - j = w.length - i) && (decide (w.length - j = 0) || decide (w.getD (w.length - j - 1) 0 = 10)))
      by_cases e : i = j
      · subst e
        rw [decide_eq_true rfl, decide_eq_true rfl, Bool.true_and, Bool.true_and]
        by_cases e2 : i = w.length
        · rw [decide_eq_true e2, decide_eq_true (by omega : w.length - i = 0), Bool.true_or, Bool.true_or]
        · rw [decide_eq_false e2, decide_eq_false (by omega : ¬ w.length - i = 0), Bool.false_or, Bool.false_or, getD_rev (by omega), show w.length - 1 - i = w.length - i - 1 by omega]
      · rw [decide_eq_false e, decide_eq_false (by omega : ¬ w.length - j = w.length - i)]; rfl
    by_cases k11 : kd = 11
    · have ek : turnK kd = 10 := by unfold turnK; rw [if_neg k8, if_neg k9, if_neg k10, if_pos k11]
      rw [if_neg (by omega : ¬ turnK kd = 1), if_neg (by omega : ¬ turnK kd = 2), if_neg (by omega : ¬ turnK kd = 3), if_neg (by omega : ¬ turnK kd = 4), if_neg (by omega : ¬ turnK kd = 5), if_neg (by omega : ¬ turnK kd = 6), if_neg (by omega : ¬ turnK kd = 7), if_neg (by omega : ¬ (turnK kd = 8 ∨ turnK kd = 9)), if_pos ek]
      intro i j h1 h2
      unfold rv
      rw [if_neg k1, if_neg k2, if_neg k3, if_neg k4, if_neg k5, if_neg k6, if_neg k7, if_neg k89, if_neg k10, if_pos k11]
      show (decide (i = j) && (decide (i = 0) || decide (w.reverse.getD (i - 1) 0 = 10))) = (decide (w.length - j = w.length - i) && (decide (w.length - j = w.length) || decide (w.getD (w.length - j) 0 = 10)))
      by_cases e : i = j
      · subst e
        rw [decide_eq_true rfl, decide_eq_true rfl, Bool.true_and, Bool.true_and]
        by_cases e2 : i = 0
        · rw [decide_eq_true e2, decide_eq_true (by omega : w.length - i = w.length), Bool.true_or, Bool.true_or]
        · rw [decide_eq_false e2, decide_eq_false (by omega : ¬ w.length - i = w.length), Bool.false_or, Bool.false_or, getD_rev (by omega), show w.length - 1 - (i - 1) = w.length - i by omega]
      · rw [decide_eq_false e, decide_eq_false (by omega : ¬ w.length - j = w.length - i)]; rfl
    have ek : turnK kd = kd := by unfold turnK; rw [if_neg k8, if_neg k9, if_neg k10, if_neg k11]
    rw [ek, if_neg k1, if_neg k2, if_neg k3, if_neg k4, if_neg k5, if_neg k6, if_neg k7, if_neg k89, if_neg k10, if_neg k11, if_neg k1, if_neg k2, if_neg k3, if_neg k4, if_neg k5, if_neg k6, if_neg k7, if_neg k89, if_neg k10, if_neg k11]
    exact EqN.rfl'
end Go.Proofs.Ytmgfcckboncecaa.tabs
