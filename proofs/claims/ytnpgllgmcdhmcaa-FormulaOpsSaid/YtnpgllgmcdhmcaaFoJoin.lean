/- Formulas: what is joined, all products, the dual, in plain Lean. Conditions: none. -/
import Derived.Test.YtnpgllgmcdhmcaaFoPlain
import Derived.Lib.SlicesCompact

namespace Go.Proofs.Ytnpgllgmcdhmcaa.fo
open Go Go.Ev Go.Proofs

def sortI (zs : List Int) : List Int := zs.mergeSort fun x y => decide (x ≤ y)
theorem get! {l : List Int} {j : Nat} (h : j < l.length) : l.toArray[j]! = l[j] := by simp [getElem!_pos, h]
theorem compact_mem {l : List Int} {z : Int} (h : z ∈ Lib.compact l) : z ∈ l := by
  unfold Lib.compact Lib.compactUpTo at h
  obtain ⟨j, hj, rfl⟩ := List.mem_map.1 h
  have hj := List.mem_range.1 (List.mem_filter.1 hj).1
  rw [get! hj]; exact List.getElem_mem hj
theorem compact_len (l : List Int) : (Lib.compact l).length ≤ l.length := by
  unfold Lib.compact Lib.compactUpTo
  rw [List.length_map]
  have := List.length_filter_le (Lib.keeps l.toArray) (List.range l.length)
  rwa [List.length_range] at this
theorem compact_mem' {l : List Int} {z : Int} : z ∈ l → z ∈ Lib.compact l := by
  intro h
  have hex : ∃ j, j < l.length ∧ l.toArray[j]! = z := by
    obtain ⟨j, hj, e⟩ := List.getElem_of_mem h
    exact ⟨j, hj, by rw [get! hj, e]⟩
  obtain ⟨j, ⟨hj, e⟩, hmin⟩ : ∃ j, (j < l.length ∧ l.toArray[j]! = z) ∧ ∀ i, i < j → ¬ (i < l.length ∧ l.toArray[i]! = z) := by
    obtain ⟨j0, h0⟩ := hex
    induction j0 using Nat.strongRecOn with
    | ind j0 ih =>
      by_cases hm : ∃ i, i < j0 ∧ (i < l.length ∧ l.toArray[i]! = z)
      · obtain ⟨i, hi, h1⟩ := hm; exact ih i hi h1
      · exact ⟨j0, h0, fun i hi h1 => hm ⟨i, hi, h1⟩⟩
  unfold Lib.compact Lib.compactUpTo
  refine List.mem_map.2 ⟨j, List.mem_filter.2 ⟨List.mem_range.2 hj, ?_⟩, e⟩
  unfold Lib.keeps
  refine decide_eq_true ?_
  by_cases h0 : j = 0
  · exact .inl h0
  · right
    intro e2
    exact hmin (j - 1) (by omega) ⟨by omega, by rw [← e2, e]⟩
theorem compact_lt {l : List Int} (h : l.Pairwise (· ≤ ·)) : (Lib.compact l).Pairwise (· < ·) := by
  unfold Lib.compact Lib.compactUpTo
  rw [List.pairwise_map]
  have hp : ((List.range l.length).filter (Lib.keeps l.toArray)).Pairwise (· < ·) := List.pairwise_lt_range.filter _
  refine hp.imp_of_mem fun {a b} ha hb hab => ?_
  have ha' := List.mem_range.1 (List.mem_filter.1 ha).1
  have hb' := List.mem_range.1 (List.mem_filter.1 hb).1
  have hk := (List.mem_filter.1 hb).2
  unfold Lib.keeps at hk
  have hk := of_decide_eq_true hk
  rw [get! ha', get! hb']
  rw [List.pairwise_iff_getElem] at h
  rcases hk with h0 | hk
  · omega
  · rw [get! hb', get! (by omega : b - 1 < l.length)] at hk
    have h1 : l[b - 1] ≤ l[b] := h (b - 1) b (by omega) hb' (by omega)
    have h2 : l[a] ≤ l[b - 1] := by
      by_cases e : a = b - 1
      · subst e; exact Int.le_refl _
      · exact h a (b - 1) ha' (by omega) (by omega)
    omega
theorem sortI_le (l : List Int) : (sortI l).Pairwise (· ≤ ·) := by
  unfold sortI
  have := List.pairwise_mergeSort (le := fun x y : Int => decide (x ≤ y)) (fun a b c h1 h2 => by simp only [decide_eq_true_eq] at *; omega) (fun a b => by simp only [Bool.or_eq_true, decide_eq_true_eq]; omega) l
  exact this.imp fun h => of_decide_eq_true h
theorem sortI_len (l : List Int) : (sortI l).length = l.length := by unfold sortI; rw [List.length_mergeSort]
/-- A part of two parts' numbers. -/
def joinP (p q : Prt) : Prt := Lib.compact (sortI (p ++ q))
theorem join_iff {p q : Prt} {z : Int} : z ∈ joinP p q ↔ z ∈ p ∨ z ∈ q := by
  unfold joinP
  constructor
  · intro h
    have h := compact_mem h
    unfold sortI at h
    rw [List.mem_mergeSort, List.mem_append] at h
    exact h
  · intro h
    refine compact_mem' ?_
    unfold sortI
    rw [List.mem_mergeSort, List.mem_append]
    exact h
theorem join_len (p q : Prt) : (joinP p q).length ≤ p.length + q.length := by
  have := compact_len (sortI (p ++ q))
  rw [sortI_len, List.length_append] at this
  exact this
theorem join_rises {p q : Prt} (hp : Rises p) (hq : Rises q) : Rises (joinP p q) :=
  ⟨fun n hn => (join_iff.1 hn).elim (hp.1 n) (hq.1 n), compact_lt (sortI_le _)⟩
theorem join_sub {p q S : Prt} : subP (joinP p q) S ↔ subP p S ∧ subP q S :=
  ⟨fun h => ⟨fun n hn => h n (join_iff.2 (.inl hn)), fun n hn => h n (join_iff.2 (.inr hn))⟩, fun h n hn => (join_iff.1 hn).elim (h.1 n) (h.2 n)⟩
def In (A : Prt) (f : Fml) : Prop := ∀ p ∈ f, ∀ n ∈ p, n ∈ A
def prods (f g : Fml) : Fml := f.flatMap fun p => g.map (joinP p)
theorem prods_mem {f g : Fml} {x : Prt} : x ∈ prods f g ↔ ∃ p ∈ f, ∃ q ∈ g, joinP p q = x := by
  unfold prods
  rw [List.mem_flatMap]
  exact ⟨fun ⟨p, hp, h⟩ => by obtain ⟨q, hq, e⟩ := List.mem_map.1 h; exact ⟨p, hp, q, hq, e⟩, fun ⟨p, hp, q, hq, e⟩ => ⟨p, hp, List.mem_map.2 ⟨q, hq, e⟩⟩⟩
theorem prods_holds {f g : Fml} {S : Prt} : holdsP (prods f g) S ↔ holdsP f S ∧ holdsP g S := by
  constructor
  · rintro ⟨x, hx, hS⟩
    obtain ⟨p, hp, q, hq, rfl⟩ := prods_mem.1 hx
    obtain ⟨h1, h2⟩ := join_sub.1 hS
    exact ⟨⟨p, hp, h1⟩, q, hq, h2⟩
  · rintro ⟨⟨p, hp, h1⟩, q, hq, h2⟩
    exact ⟨_, prods_mem.2 ⟨p, hp, q, hq, rfl⟩, join_sub.2 ⟨h1, h2⟩⟩
theorem prods_rises {f g : Fml} (hf : ∀ p ∈ f, Rises p) (hg : ∀ p ∈ g, Rises p) : ∀ p ∈ prods f g, Rises p := by
  intro x hx
  obtain ⟨p, hp, q, hq, rfl⟩ := prods_mem.1 hx
  exact join_rises (hf p hp) (hg q hq)
theorem prods_in {A : Prt} {f g : Fml} (hf : In A f) (hg : In A g) : In A (prods f g) := by
  intro x hx n hn
  obtain ⟨p, hp, q, hq, rfl⟩ := prods_mem.1 hx
  exact (join_iff.1 hn).elim (hf p hp n) (hg q hq n)
theorem Canon.in_ {A : Prt} {l r : Fml} (h : Canon l r) (hl : In A l) : In A r := fun p hp n hn => hl p (h.mem p hp) n hn
theorem In.app {A : Prt} {f g : Fml} (hf : In A f) (hg : In A g) : In A (f ++ g) := fun p hp => (List.mem_append.1 hp).elim (hf p) (hg p)
theorem nodup_sub : ∀ (A l : List Int), l.Nodup → (∀ x ∈ l, x ∈ A) → l.length ≤ A.length
  | [], l, _, h => by cases l with | nil => simp | cons a l => exact absurd (h a (by simp)) (by simp)
  | a :: A, l, hn, h => by
    have h1 := nodup_sub A (l.erase a) (hn.erase a) fun x hx => by
      have hne : x ≠ a := fun e => by subst e; exact hn.not_mem_erase hx
      rcases List.mem_cons.1 (h x (List.mem_of_mem_erase hx)) with e | e
      · exact absurd e hne
      · exact e
    have := List.length_erase (a := a) (l := l)
    rw [List.length_cons]
    split at this <;> omega
theorem rises_len {A p : Prt} (hp : Rises p) (h : ∀ n ∈ p, n ∈ A) : p.length ≤ A.length :=
  nodup_sub A p (hp.2.imp fun h e => by omega) h
/-- One step of a conjunction. -/
theorem and_step {f g r r' : Fml} {p : Prt} (h : Canon (prods f g) r) (h' : Canon (r ++ g.map (joinP p)) r') : Canon (prods (f ++ [p]) g) r' := by
  have e : prods (f ++ [p]) g = prods f g ++ g.map (joinP p) := by unfold prods; rw [List.flatMap_append]; simp
  rw [e]
  refine ⟨h'.formed, fun q hq => ?_, fun S => ?_⟩
  · rcases List.mem_append.1 (h'.mem q hq) with k | k
    · exact List.mem_append_left _ (h.mem q k)
    · exact List.mem_append_right _ k
  · rw [h'.holds S, holds_app, holds_app, h.holds S]
/-- One number each. -/
def ones (p : Prt) : Fml := p.map fun n => [n]
theorem ones_formed {p : Prt} (h : Rises p) : FormedP (ones p) := by
  refine ⟨fun q hq => ?_, ?_, ?_⟩
  · obtain ⟨n, hn, rfl⟩ := List.mem_map.1 hq
    exact ⟨fun k hk => by rw [List.mem_singleton.1 hk]; exact h.1 n hn, List.pairwise_singleton _ _⟩
  · unfold ones
    rw [List.pairwise_map]
    refine h.2.imp fun {a b} hab => .inr ⟨rfl, ?_⟩
    rw [lexB, if_neg (by omega)]
    exact decide_eq_true hab
  · unfold ones
    rw [List.pairwise_map]
    refine h.2.imp fun {a b} hab hs => ?_
    have := List.mem_singleton.1 (hs a (by simp))
    omega
theorem ones_holds {p S : Prt} : holdsP (ones p) S ↔ ∃ n ∈ p, n ∈ S := by
  unfold holdsP ones
  constructor
  · rintro ⟨q, hq, hs⟩
    obtain ⟨n, hn, rfl⟩ := List.mem_map.1 hq
    exact ⟨n, hn, hs n (by simp)⟩
  · rintro ⟨n, hn, hs⟩
    exact ⟨[n], List.mem_map.2 ⟨n, hn, rfl⟩, fun k hk => by rw [List.mem_singleton.1 hk]; exact hs⟩
theorem ones_in {A p : Prt} (h : ∀ n ∈ p, n ∈ A) : In A (ones p) := by
  intro q hq n hn
  obtain ⟨k, hk, rfl⟩ := List.mem_map.1 hq
  rw [List.mem_singleton.1 hn]; exact h k hk
/-- The dual, of so many parts. -/
structure Dl (A : Prt) (f r : Fml) : Prop where
  formed : FormedP r
  in_ : In A r
  holds : ∀ S, holdsP r S ↔ ∀ p ∈ f, ∃ n ∈ p, n ∈ S
theorem Dl.start (A : Prt) : Dl A [] [[]] :=
  ⟨⟨fun p hp => by rw [List.mem_singleton.1 hp]; exact ⟨fun n hn => by (cases hn), .nil⟩, List.pairwise_singleton _ _, List.pairwise_singleton _ _⟩, fun p hp n hn => (by rw [List.mem_singleton.1 hp] at hn; cases hn),
    fun S => ⟨fun _ p hp => by (cases hp), fun _ => ⟨[], by simp, fun n hn => by (cases hn)⟩⟩⟩
theorem Dl.step {A : Prt} {f r r' : Fml} {p : Prt} (h : Dl A f r) (hp : ∀ n ∈ p, n ∈ A) (h' : Canon (prods r (ones p)) r') : Dl A (f ++ [p]) r' := by
  refine ⟨h'.formed, h'.in_ (prods_in h.in_ (ones_in hp)), fun S => ?_⟩
  rw [h'.holds S, prods_holds, ones_holds, h.holds S]
  constructor
  · rintro ⟨h1, h2⟩ q hq
    rcases List.mem_append.1 hq with hq | hq
    · exact h1 q hq
    · rw [List.mem_singleton.1 hq]; exact h2
  · intro h1
    exact ⟨fun q hq => h1 q (List.mem_append_left _ hq), h1 p (by simp)⟩
/-- Twice the dual holds for the same. -/
theorem dual_twice {A : Prt} {f t u : Fml} (hf : In A f) (h1 : Dl A f t) (h2 : Dl A t u) (S : Prt) : holdsP u S ↔ holdsP f S := by
  rw [h2.holds S]
  constructor
  · intro h
    refine Classical.byContradiction fun hn => ?_
    -- outside of S there is one of each part
    have hT : holdsP t (A.filter fun n => decide (n ∉ S)) := by
      rw [h1.holds]
      intro p hp
      refine Classical.byContradiction fun hc => hn ⟨p, hp, fun n hnp => ?_⟩
      refine Classical.byContradiction fun hnS => hc ⟨n, hnp, ?_⟩
      exact List.mem_filter.2 ⟨hf p hp n hnp, decide_eq_true hnS⟩
    obtain ⟨q, hq, hqS⟩ := hT
    obtain ⟨n, hnq, hnS⟩ := h q hq
    have := (List.mem_filter.1 (hqS n hnq)).2
    exact absurd hnS (of_decide_eq_true this)
  · rintro ⟨p, hp, hpS⟩ q hq
    -- each part of the dual meets each part
    have := (h1.holds q).1 ⟨q, hq, fun n hn => hn⟩ p hp
    obtain ⟨n, hnp, hnq⟩ := this
    exact ⟨n, hnq, hpS n hnp⟩
end Go.Proofs.Ytnpgllgmcdhmcaa.fo
