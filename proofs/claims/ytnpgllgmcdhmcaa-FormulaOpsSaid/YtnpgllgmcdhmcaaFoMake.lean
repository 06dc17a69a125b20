/- Formulas: numbers in order, those chosen by bits, the formula of a table, in plain Lean. Conditions: none. -/
import Derived.Test.YtnpgllgmcdhmcaaFoJoin

namespace Go.Proofs.Ytnpgllgmcdhmcaa.fo
open Go Go.Ev Go.Proofs

/-- All numbers of a list, each once, rising. -/
structure AtP (l X : List Int) : Prop where
  lt : l.Pairwise (· < ·)
  mem : ∀ z, z ∈ l ↔ z ∈ X
theorem AtP.start : AtP [] [] := ⟨.nil, fun _ => Iff.rfl⟩
theorem AtP.skip {l X : List Int} {z : Int} (h : AtP l X) (hz : z ∈ l) : AtP l (X ++ [z]) := ⟨h.lt, fun x => by
  rw [h.mem, List.mem_append, List.mem_singleton]
  exact ⟨.inl, fun k => k.elim id fun k => k ▸ (h.mem z).1 hz⟩⟩
theorem pw_ins {α : Type} {r : α → α → Prop} (ht : ∀ a b c, r a b → r b c → r a c) {l : List α} {z : α} {q : Nat} (h : l.Pairwise r) (h1 : ∀ x ∈ l.take q, r x z) (h2 : ∀ x ∈ l.drop q, r z x) : (l.take q ++ [z] ++ l.drop q).Pairwise r := by
  have h' := h
  rw [← List.take_append_drop q l, List.pairwise_append] at h'
  obtain ⟨a1, a2, a3⟩ := h'
  rw [List.append_assoc, List.pairwise_append]
  refine ⟨a1, List.pairwise_append.2 ⟨List.pairwise_singleton _ _, a2, fun a ha b hb => by rw [List.mem_singleton.1 ha]; exact h2 b hb⟩, fun a ha b hb => ?_⟩
  rcases List.mem_append.1 hb with hb | hb
  · rw [List.mem_singleton.1 hb]; exact h1 a ha
  · exact ht _ _ _ (h1 a ha) (h2 b hb)
theorem drop_of {α : Type} {r : α → α → Prop} (ht : ∀ a b c, r a b → r b c → r a c) {l : List α} {z : α} {q : Nat} (h : l.Pairwise r) (h2 : ∀ hq : q < l.length, r z l[q]) : ∀ x ∈ l.drop q, r z x := by
  intro x hx
  obtain ⟨i, hi, rfl⟩ := List.getElem_of_mem hx
  rw [List.getElem_drop]
  rw [List.length_drop] at hi
  by_cases e : i = 0
  · subst e; exact h2 (by omega)
  · exact ht _ _ _ (h2 (by omega)) (List.pairwise_iff_getElem.1 h q (q + i) (by omega) (by omega) (by omega))
theorem mem_ins {α : Type} {l : List α} {z x : α} {q : Nat} : x ∈ l.take q ++ [z] ++ l.drop q ↔ x ∈ l ∨ x = z := by
  have : x ∈ l ↔ x ∈ l.take q ∨ x ∈ l.drop q := by
    conv => lhs; rw [← List.take_append_drop q l]
    exact List.mem_append
  rw [this, List.mem_append, List.mem_append, List.mem_singleton]
  constructor
  · rintro ((h | h) | h)
    · exact .inl (.inl h)
    · exact .inr h
    · exact .inl (.inr h)
  · rintro ((h | h) | h)
    · exact .inl (.inl h)
    · exact .inr h
    · exact .inl (.inr h)
theorem AtP.ins {l X : List Int} {z : Int} {q : Nat} (h : AtP l X) (hz : z ∉ l) (h1 : ∀ x ∈ l.take q, x < z) (h2 : q = l.length ∨ ∃ hq : q < l.length, ¬ l[q] < z) : AtP (l.take q ++ [z] ++ l.drop q) (X ++ [z]) := by
  refine ⟨pw_ins (r := (· < ·)) (fun _ _ _ => Int.lt_trans) h.lt h1 (drop_of (r := (· < ·)) (fun _ _ _ => Int.lt_trans) h.lt fun hq => ?_), fun x => by rw [mem_ins, h.mem, List.mem_append, List.mem_singleton]⟩
  rcases h2 with h2 | ⟨_, h2⟩
  · omega
  · have : l[q] ≠ z := fun e => hz (e ▸ List.getElem_mem hq)
    omega
theorem AtP.uniq {l l' X : List Int} (h : AtP l X) (h' : AtP l' X) : l = l' := pw_ext Int.lt_irrefl Int.lt_trans l l' h.lt h'.lt fun x => (h.mem x).trans (h'.mem x).symm
theorem AtP.len {l X A : List Int} (h : AtP l X) (hA : ∀ z ∈ X, z ∈ A) : l.length ≤ A.length :=
  nodup_sub A l (h.lt.imp fun h e => by omega) fun x hx => hA x ((h.mem x).1 hx)

/-! ### those whose bits are 1 -/
def chosenP : Prt → Nat → Prt
  | [], _ => []
  | a :: l, b => if b % 2 = 1 then a :: chosenP l (b / 2) else chosenP l (b / 2)
theorem chosen_snoc : ∀ (l : Prt) (a : Int) (b : Nat), chosenP (l ++ [a]) b = chosenP l b ++ (if b.testBit l.length = true then [a] else [])
  | [], a, b => by
    rw [List.nil_append, List.length_nil, Nat.testBit_zero]
    by_cases h : b % 2 = 1 <;> simp [chosenP, h]
  | x :: l, a, b => by
    rw [List.cons_append, chosenP, chosenP, chosen_snoc l a (b / 2), List.length_cons, Nat.testBit_succ]
    by_cases h : b % 2 = 1
    · rw [if_pos h, if_pos h]; rfl
    · rw [if_neg h, if_neg h]
theorem chosen_sub : ∀ (l : Prt) (b : Nat), (chosenP l b).Sublist l
  | [], _ => List.Sublist.refl _
  | a :: l, b => by
    unfold chosenP
    split
    · exact (chosen_sub l _).cons_cons a
    · exact (chosen_sub l _).cons a
theorem chosen_mem : ∀ {l : Prt} {b : Nat} {z : Int}, z ∈ chosenP l b ↔ ∃ i, ∃ h : i < l.length, l[i] = z ∧ b.testBit i = true
  | [], b, z => by
    constructor
    · intro h; cases h
    · rintro ⟨i, h, -⟩; cases h
  | a :: l, b, z => by
    have key : z ∈ chosenP (a :: l) b ↔ (b % 2 = 1 ∧ z = a) ∨ z ∈ chosenP l (b / 2) := by
      rw [chosenP]
      by_cases h : b % 2 = 1
      · rw [if_pos h, List.mem_cons]; exact or_congr ⟨fun e => ⟨h, e⟩, fun e => e.2⟩ Iff.rfl
      · rw [if_neg h]; exact ⟨.inr, fun k => k.elim (fun e => absurd e.1 h) id⟩
    rw [key, chosen_mem]
    constructor
    · rintro (⟨h, rfl⟩ | ⟨i, hi, e, hb⟩)
      · exact ⟨0, Nat.zero_lt_succ _, rfl, by rw [Nat.testBit_zero]; exact decide_eq_true h⟩
      · exact ⟨i + 1, Nat.succ_lt_succ hi, e, by rw [Nat.testBit_succ]; exact hb⟩
    · rintro ⟨i, hi, e, hb⟩
      cases i with
      | zero => rw [Nat.testBit_zero] at hb; exact .inl ⟨of_decide_eq_true hb, e.symm⟩
      | succ i => rw [Nat.testBit_succ] at hb; exact .inr ⟨i, Nat.lt_of_succ_lt_succ hi, e, hb⟩
/-- Numbers that rise, from 0 on. -/
theorem inj_of {A : Prt} (h : A.Pairwise (· < ·)) {i j : Nat} (hi : i < A.length) (hj : j < A.length) (e : A[i] = A[j]) : i = j := by
  rcases Nat.lt_trichotomy i j with k | k | k
  · have := List.pairwise_iff_getElem.1 h i j hi hj k; omega
  · exact k
  · have := List.pairwise_iff_getElem.1 h j i hj hi k; omega
theorem chosen_bit {A : Prt} (h : A.Pairwise (· < ·)) {i b : Nat} (hi : i < A.length) : A[i] ∈ chosenP A b ↔ b.testBit i = true := by
  rw [chosen_mem]
  constructor
  · rintro ⟨j, hj, e, hb⟩
    rw [← inj_of h hj hi e]; exact hb
  · intro hb; exact ⟨i, hi, rfl, hb⟩
theorem chosen_rises {A : Prt} (h : Rises A) (b : Nat) : Rises (chosenP A b) := ⟨fun n hn => h.1 n ((chosen_sub A b).subset hn), h.2.sublist (chosen_sub A b)⟩
theorem chosen_mask {A S : Prt} {z : Int} : z ∈ chosenP A (maskA A S) ↔ z ∈ A ∧ z ∈ S := by
  rw [chosen_mem]
  constructor
  · rintro ⟨i, hi, rfl, hb⟩
    rw [mask_bit A S i hi] at hb
    exact ⟨List.getElem_mem hi, of_decide_eq_true hb⟩
  · rintro ⟨h1, h2⟩
    obtain ⟨i, hi, rfl⟩ := List.getElem_of_mem h1
    exact ⟨i, hi, rfl, by rw [mask_bit A S i hi]; exact decide_eq_true h2⟩
theorem bit_of {n b i : Nat} (h : b < 2 ^ n) (hb : b.testBit i = true) : i < n := by
  refine Classical.byContradiction fun hn => ?_
  rw [Nat.testBit_lt_two_pow (Nat.lt_of_lt_of_le h (Nat.pow_le_pow_right (by decide) (by omega)))] at hb
  cases hb
theorem chosen_inj {A : Prt} (h : A.Pairwise (· < ·)) {x y : Nat} (hx : x < 2 ^ A.length) (hy : y < 2 ^ A.length) (e : chosenP A x = chosenP A y) : x = y := by
  refine Nat.eq_of_testBit_eq fun i => ?_
  by_cases hi : i < A.length
  · have h1 := chosen_bit h (b := x) hi
    have h2 := chosen_bit h (b := y) hi
    rw [e] at h1
    exact Bool.eq_iff_iff.2 (h1.symm.trans h2)
  · have h1 : x.testBit i = false := by cases hb : x.testBit i with | false => rfl | true => exact absurd (bit_of hx hb) hi
    have h2 : y.testBit i = false := by cases hb : y.testBit i with | false => rfl | true => exact absurd (bit_of hy hb) hi
    rw [h1, h2]

/-! ### the formula of a table -/
def Least (n : Nat) (H : Nat → Bool) (b : Nat) : Prop := H b = true ∧ ∀ i, i < n → b.testBit i = true → H (b ^^^ 2 ^ i) = false
structure MkI (A : Prt) (H : Nat → Bool) (r : Fml) (B : Nat) : Prop where
  mem : ∀ p, p ∈ r ↔ ∃ b, b < B ∧ Least A.length H b ∧ p = chosenP A b
  less : r.Pairwise lessP
  len : r.length ≤ B
theorem MkI.start (A : Prt) (H : Nat → Bool) : MkI A H [] 0 := ⟨fun p => ⟨fun h => by (cases h), fun ⟨b, h, _⟩ => by omega⟩, .nil, Nat.le_refl _⟩
theorem MkI.skip {A : Prt} {H : Nat → Bool} {r : Fml} {B : Nat} (h : MkI A H r B) (hl : ¬ Least A.length H B) : MkI A H r (B + 1) := by
  refine ⟨fun p => (h.mem p).trans ⟨fun ⟨b, hb, k⟩ => ⟨b, by omega, k⟩, fun ⟨b, hb, k⟩ => ⟨b, ?_, k⟩⟩, h.less, Nat.le_succ_of_le h.len⟩
  have : b ≠ B := fun e => hl (e ▸ k.1)
  omega
theorem MkI.ins {A : Prt} {H : Nat → Bool} {r : Fml} {B q : Nat} (hA : A.Pairwise (· < ·)) (hB : B < 2 ^ A.length) (h : MkI A H r B) (hl : Least A.length H B) (h1 : ∀ x ∈ r.take q, lessP x (chosenP A B)) (h2 : q = r.length ∨ ∃ hq : q < r.length, ¬ lessP r[q] (chosenP A B)) :
    MkI A H (r.take q ++ [chosenP A B] ++ r.drop q) (B + 1) := by
  refine ⟨fun p => ?_, pw_ins (r := lessP) (fun _ _ _ => less_trans) h.less h1 (drop_of (r := lessP) (fun _ _ _ => less_trans) h.less fun hq => ?_), ?_⟩
  · rw [mem_ins, h.mem]
    constructor
    · rintro (⟨b, hb, k⟩ | k)
      · exact ⟨b, by omega, k⟩
      · exact ⟨B, by omega, hl, k⟩
    · rintro ⟨b, hb, k⟩
      by_cases e : b = B
      · subst e; exact .inr k.2
      · exact .inl ⟨b, by omega, k⟩
  · rcases h2 with h2 | ⟨_, h2⟩
    · omega
    · rcases less_total r[q] (chosenP A B) with k | k | k
      · exact absurd k h2
      · obtain ⟨b, hb, -, e⟩ := (h.mem r[q]).1 (List.getElem_mem hq)
        rw [k] at e
        have := chosen_inj hA hB (by omega) e
        omega
      · exact k
  · have := h.len
    simp only [List.length_append, List.length_take, List.length_drop, List.length_singleton]
    omega
theorem xor_lt {b i n : Nat} (h : b < 2 ^ n) (hi : i < n) : b ^^^ 2 ^ i < 2 ^ n := Nat.xor_lt_two_pow h (Nat.pow_lt_pow_right (by decide) hi)
theorem xor_bit {b i j : Nat} (hj : j ≠ i) : (b ^^^ 2 ^ i).testBit j = b.testBit j := by
  rw [Nat.testBit_xor, Nat.testBit_two_pow, decide_eq_false (fun e => hj e.symm), Bool.xor_false]
theorem xor_lt' {b i : Nat} (h : b.testBit i = true) : b ^^^ 2 ^ i < b := by
  have hi : (b ^^^ 2 ^ i).testBit i = false := by rw [Nat.testBit_xor, h, Nat.testBit_two_pow, decide_eq_true rfl]; rfl
  have h1 : b ^^^ 2 ^ i ≤ b := Nat.le_of_testBit fun j hj => by
    by_cases e : j = i
    · subst e; exact h
    · rw [xor_bit e] at hj; exact hj
  have h2 : b ^^^ 2 ^ i ≠ b := fun e => by rw [e, h] at hi; cases hi
  omega
theorem xor_sub {A : Prt} {b i : Nat} (h : b.testBit i = true) : subP (chosenP A (b ^^^ 2 ^ i)) (chosenP A b) := by
  intro z hz
  obtain ⟨j, hj, e, hb⟩ := chosen_mem.1 hz
  refine chosen_mem.2 ⟨j, hj, e, ?_⟩
  by_cases k : j = i
  · subst k; exact h
  · rw [xor_bit k] at hb; exact hb
theorem least_ex {A : Prt} {H : Nat → Bool} : ∀ (s : Nat), H s = true → s < 2 ^ A.length → ∃ b, b < 2 ^ A.length ∧ Least A.length H b ∧ subP (chosenP A b) (chosenP A s) := by
  intro s
  induction s using Nat.strongRecOn with
  | ind s ih =>
    intro hs hlt
    by_cases hl : Least A.length H s
    · exact ⟨s, hlt, hl, fun _ h => h⟩
    · have : ∃ i, i < A.length ∧ s.testBit i = true ∧ H (s ^^^ 2 ^ i) = true := by
        refine Classical.byContradiction fun hn => hl ⟨hs, fun i hi hb => ?_⟩
        cases e : H (s ^^^ 2 ^ i) with
        | false => rfl
        | true => exact absurd ⟨i, hi, hb, e⟩ hn
      obtain ⟨i, hi, hb, e⟩ := this
      obtain ⟨b, h1, h2, h3⟩ := ih _ (xor_lt' hb) e (xor_lt hlt hi)
      exact ⟨b, h1, h2, fun z hz => xor_sub hb z (h3 z hz)⟩
/-- What is put together from a table of what rises holds just where it says. -/
theorem make_law {A : Prt} {H : Nat → Bool} {r : Fml} {P : Prt → Prop} (hA : Rises A) (hM : ∀ S S', subP S S' → P S → P S') (hT : ∀ b, b < 2 ^ A.length → (H b = true ↔ P (chosenP A b)))
    (hP : ∀ S, P S → P (chosenP A (maskA A S))) (h : MkI A H r (2 ^ A.length)) : FormedP r ∧ ∀ S, holdsP r S ↔ P S := by
  refine ⟨⟨fun p hp => ?_, h.less, ?_⟩, fun S => ⟨?_, fun hS => ?_⟩⟩
  · obtain ⟨b, -, -, rfl⟩ := (h.mem p).1 hp
    exact chosen_rises hA b
  · refine List.Pairwise.imp_of_mem (R := lessP) (fun {a b} ha hb hl hs => ?_) h.less
    obtain ⟨x, hx, lx, rfl⟩ := (h.mem a).1 ha
    obtain ⟨y, hy, ly, rfl⟩ := (h.mem b).1 hb
    have hxy : ∀ j, x.testBit j = true → y.testBit j = true := fun j hj => by
      have hjl := bit_of hx hj
      exact (chosen_bit hA.2 hjl).1 (hs _ ((chosen_bit hA.2 hjl).2 hj))
    have : ∃ i, y.testBit i = true ∧ x.testBit i = false := by
      refine Classical.byContradiction fun hn => ?_
      have e : x = y := Nat.eq_of_testBit_eq fun i => by
        cases e1 : x.testBit i with
        | true => rw [hxy i e1]
        | false =>
          cases e2 : y.testBit i with
          | false => rfl
          | true => exact absurd ⟨i, e2, e1⟩ hn
      subst e
      exact less_irrefl _ hl
    obtain ⟨i, h1, h2⟩ := this
    have hil := bit_of hy h1
    have hf := ly.2 i hil h1
    have hP1 : P (chosenP A (y ^^^ 2 ^ i)) := hM _ _ (fun z hz => by
      obtain ⟨j, hj, e, hb⟩ := chosen_mem.1 hz
      refine chosen_mem.2 ⟨j, hj, e, ?_⟩
      rw [xor_bit (fun k => by rw [k] at hb; rw [hb] at h2; cases h2)]
      exact hxy j hb) ((hT x hx).1 lx.1)
    rw [(hT _ (xor_lt hy hil)).2 hP1] at hf
    cases hf
  · rintro ⟨p, hp, hpS⟩
    obtain ⟨b, hb, l, rfl⟩ := (h.mem p).1 hp
    exact hM _ _ hpS ((hT b hb).1 l.1)
  · have hs := mask_lt A S
    obtain ⟨b, hb, l, hsub⟩ := least_ex (maskA A S) ((hT _ hs).2 (hP S hS)) hs
    exact ⟨_, (h.mem _).2 ⟨b, hb, l, rfl⟩, fun z hz => (chosen_mask.1 (hsub z hz)).2⟩

/-! ### the three tables -/
theorem holds_mono {f : Fml} {S S' : Prt} (h : subP S S') : holdsP f S → holdsP f S' := fun ⟨p, hp, hs⟩ => ⟨p, hp, fun n hn => h n (hs n hn)⟩
theorem holds_mask {A : Prt} {f : Fml} {S : Prt} (hf : In A f) : holdsP f S → holdsP f (chosenP A (maskA A S)) := fun ⟨p, hp, hs⟩ => ⟨p, hp, fun n hn => chosen_mask.2 ⟨hf p hp n hn, hs n hn⟩⟩
/-- All parts are met. -/
def metP (f : Fml) (S : Prt) : Prop := ∀ p ∈ f, ∃ n ∈ p, n ∈ S
theorem met_mono {f : Fml} {S S' : Prt} (h : subP S S') : metP f S → metP f S' := fun k p hp => by obtain ⟨n, h1, h2⟩ := k p hp; exact ⟨n, h1, h n h2⟩
theorem met_mask {A : Prt} {f : Fml} {S : Prt} (hf : In A f) : metP f S → metP f (chosenP A (maskA A S)) := fun k p hp => by obtain ⟨n, h1, h2⟩ := k p hp; exact ⟨n, h1, chosen_mask.2 ⟨hf p hp n h1, h2⟩⟩
theorem comp_bit {n b i : Nat} (hb : b < 2 ^ n) (hi : i < n) : (2 ^ n - 1 - b).testBit i = !b.testBit i := by
  rw [Nat.sub_sub, Nat.add_comm 1 b, Nat.testBit_two_pow_sub_succ hb]
  simp [hi]
theorem met_comp {A : Prt} (hA : A.Pairwise (· < ·)) {f : Fml} (hf : In A f) {b : Nat} (hb : b < 2 ^ A.length) : ¬ holdsP f (chosenP A (2 ^ A.length - 1 - b)) ↔ metP f (chosenP A b) := by
  have key : ∀ n ∈ A, n ∈ chosenP A (2 ^ A.length - 1 - b) ↔ n ∉ chosenP A b := fun n hn => by
    obtain ⟨i, hi, rfl⟩ := List.getElem_of_mem hn
    rw [chosen_bit hA hi, chosen_bit hA hi, comp_bit hb hi]
    cases b.testBit i <;> simp
  constructor
  · intro h p hp
    refine Classical.byContradiction fun hn => h ⟨p, hp, fun n hnp => (key n (hf p hp n hnp)).2 fun k => hn ⟨n, hnp, k⟩⟩
  · rintro h ⟨p, hp, hs⟩
    obtain ⟨n, h1, h2⟩ := h p hp
    exact (key n (hf p hp n h1)).1 (hs n h1) h2
end Go.Proofs.Ytnpgllgmcdhmcaa.fo
