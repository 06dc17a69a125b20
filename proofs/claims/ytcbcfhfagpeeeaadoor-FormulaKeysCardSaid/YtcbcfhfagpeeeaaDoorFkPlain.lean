/- A formula's text tells the formula. Conditions: none; plain Lean. -/
import Derived.Test.YtcbcfhfagpeeeaaDoorFkFew

namespace Go.Proofs.YtcbcfhfagpeeeaaDoor.fk
open Go Go.Ev Go.Proofs

theorem split_at {α : Type} {c : α} : ∀ {a b x y : List α}, c ∉ a → c ∉ b → a ++ c :: x = b ++ c :: y → a = b ∧ x = y
  | [], [], x, y, _, _, h => by simpa using h
  | [], z :: b, x, y, _, hb, h => by
    simp only [List.nil_append, List.cons_append, List.cons.injEq] at h
    exact absurd (h.1 ▸ List.mem_cons_self) hb
  | z :: a, [], x, y, ha, _, h => by
    simp only [List.nil_append, List.cons_append, List.cons.injEq] at h
    exact absurd (h.1 ▸ List.mem_cons_self) ha
  | z :: a, z' :: b, x, y, ha, hb, h => by
    simp only [List.cons_append, List.cons.injEq] at h
    obtain ⟨h1, h2⟩ := split_at (fun k => ha (List.mem_cons_of_mem _ k)) (fun k => hb (List.mem_cons_of_mem _ k)) h.2
    exact ⟨by rw [h.1, h1], h2⟩

theorem dg_val (u j : Nat) : (Lib.dg u j).toNat = 48 + u / 10 ^ j % 10 := by
  unfold Lib.dg
  have : u / 10 ^ j % 10 < 10 := Nat.mod_lt _ (by omega)
  rw [UInt8.toNat_ofNat']
  omega
theorem dec_mem {u : Nat} {x : UInt8} (h : x ∈ Lib.decDigits u) : 48 ≤ x.toNat ∧ x.toNat ≤ 57 := by
  rw [Lib.decDigits_eq] at h
  obtain ⟨t, -, rfl⟩ := List.mem_map.1 h
  rw [dg_val]
  have : u / 10 ^ (Lib.nDigits u - 1 - t) % 10 < 10 := Nat.mod_lt _ (by omega)
  omega
def val (l : List UInt8) : Nat := l.foldl (fun a x => 10 * a + (x.toNat - 48)) 0
theorem val_dec : ∀ (u : Nat), val (Lib.decDigits u) = u := by
  intro u
  induction u using Nat.strongRecOn with
  | ind u ih =>
    rw [Lib.decDigits]
    split
    · rename_i h
      simp only [val, List.foldl_cons, List.foldl_nil]
      rw [UInt8.toNat_ofNat']; omega
    · rename_i h
      have := ih (u / 10) (by omega)
      unfold val at this ⊢
      rw [List.foldl_append, this]
      simp only [List.foldl_cons, List.foldl_nil]
      rw [UInt8.toNat_ofNat']; omega
theorem dec_inj {u v : Nat} (h : Lib.decDigits u = Lib.decDigits v) : u = v := by rw [← val_dec u, h, val_dec]
theorem itoa_mem {n : Int} {x : UInt8} (h : x ∈ Lib.itoa n) : x ≠ 44 ∧ x ≠ 59 := by
  have key : ∀ u, x ∈ Lib.decDigits u → x ≠ 44 ∧ x ≠ 59 := fun u hx => by
    have := dec_mem hx
    constructor <;> (rintro rfl; revert this; decide)
  unfold Lib.itoa at h
  split at h
  · rcases List.mem_cons.1 h with rfl | h
    · decide
    · exact key _ h
  · exact key _ h
theorem itoa_inj {n m : Int} (h : Lib.itoa n = Lib.itoa m) : n = m := by
  have h45 : ∀ u v, (45 : UInt8) :: Lib.decDigits u = Lib.decDigits v → False := fun u v e => by
    have := dec_mem (u := v) (x := 45) (by rw [← e]; simp)
    revert this; decide
  unfold Lib.itoa at h
  split at h <;> split at h
  · injection h with _ h
    have := dec_inj h; omega
  · exact (h45 _ _ h).elim
  · exact (h45 _ _ h.symm).elim
  · have := dec_inj h; omega

theorem partB_cons (n : Int) (p : List Int) (r : List UInt8) : partB (n :: p) ++ r = Lib.itoa n ++ 44 :: (partB p ++ r) := by simp [partB]
theorem keyB_cons (p : List Int) (f : List (List Int)) : keyB (p :: f) = partB p ++ 59 :: keyB f := by simp [keyB]
theorem itoa_head (n : Int) (r s : List UInt8) : Lib.itoa n ++ r ≠ 59 :: s := by
  intro h
  have h1 := itoa_pos n
  cases e : Lib.itoa n with
  | nil => rw [e] at h1; simp at h1
  | cons x l =>
    rw [e, List.cons_append] at h
    injection h with h _
    exact (itoa_mem (n := n) (x := x) (by rw [e]; simp)).2 h
theorem part_split : ∀ {p q : List Int} {r s : List UInt8}, partB p ++ 59 :: r = partB q ++ 59 :: s → p = q ∧ r = s
  | [], [], r, s, h => by simpa [partB] using h
  | [], m :: q, r, s, h => by rw [partB_cons] at h; exact (itoa_head m _ r h.symm).elim
  | n :: p, [], r, s, h => by rw [partB_cons] at h; exact (itoa_head n _ s h).elim
  | n :: p, m :: q, r, s, h => by
    rw [partB_cons, partB_cons] at h
    obtain ⟨h1, h2⟩ := split_at (fun k => (itoa_mem k).1 rfl) (fun k => (itoa_mem k).1 rfl) h
    obtain ⟨h3, h4⟩ := part_split h2
    exact ⟨by rw [itoa_inj h1, h3], h4⟩
theorem keyB_ne (p : List Int) (f : List (List Int)) : keyB (p :: f) ≠ [] := by rw [keyB_cons]; simp
theorem keyB_inj : ∀ {f g : List (List Int)}, keyB f = keyB g → f = g
  | [], [], _ => rfl
  | [], q :: g, h => (keyB_ne q g h.symm).elim
  | p :: f, [], h => (keyB_ne p f h).elim
  | p :: f, q :: g, h => by
    rw [keyB_cons, keyB_cons] at h
    obtain ⟨h1, h2⟩ := part_split h
    rw [h1, keyB_inj h2]
theorem keyB_beq (f g : List (List Int)) : ((⟨(keyB f).toArray⟩ : ByteArray) == ⟨(keyB g).toArray⟩) = decide (f = g) := by
  rw [Bool.eq_iff_iff, Go.MapKept.bytes_beq, decide_eq_true_iff]
  refine ⟨fun e => ?_, fun e => by rw [e]⟩
  injection e with e
  exact keyB_inj (by simpa using e)
end Go.Proofs.YtcbcfhfagpeeeaaDoor.fk
