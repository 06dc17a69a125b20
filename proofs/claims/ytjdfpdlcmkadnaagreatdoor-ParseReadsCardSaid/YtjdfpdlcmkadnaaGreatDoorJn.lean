/- Strings in a row, put together. Conditions: none. -/
import Derived.Test.YtjdfpdlcmkadnaaGreatDoorEv
import Derived.Test.YtjdfpdlcmkadnaaGreatDoorTab

namespace Go.Proofs.YtjdfpdlcmkadnaaGreatDoor.bd
open Go Go.Ev Go.Proofs
/-- Strings in a row. -/
def isS (cs : List Value) (s : List UInt8) : Prop := cs = [.string (bs s)]
def jn (sep : List UInt8) : List (List UInt8) → List UInt8
  | [] => []
  | [a] => a
  | a :: b :: r => a ++ sep ++ jn sep (b :: r)
def jnT (sep : List UInt8) (l : List (List UInt8)) : List UInt8 := (l.map fun s => sep ++ s).flatten
theorem jn_cons (sep a : List UInt8) : ∀ (r : List (List UInt8)), jn sep (a :: r) = a ++ jnT sep r
  | [] => by simp [jn, jnT]
  | b :: r => by rw [jn, jn_cons sep b r]; simp [jnT]
def totL (l : List (List UInt8)) : Nat := (l.map List.length).sum
theorem totL_take {l : List (List UInt8)} {j : Nat} (h : j < l.length) : totL (l.take (j + 1)) = totL (l.take j) + l[j].length := by
  rw [List.take_succ_eq_append_getElem h]; unfold totL; rw [List.map_append, List.sum_append]; simp
theorem jnT_take (sep : List UInt8) {l : List (List UInt8)} {j : Nat} (h : j < l.length) : jnT sep (l.take (j + 1)) = jnT sep (l.take j) ++ sep ++ l[j] := by
  rw [List.take_succ_eq_append_getElem h]; unfold jnT; rw [List.map_append, List.flatten_append]; simp
theorem jnT_len (sep : List UInt8) : ∀ (l : List (List UInt8)), (jnT sep l).length = l.length * sep.length + totL l
  | [] => by simp [jnT, totL]
  | a :: l => by
    have := jnT_len sep l
    simp only [jnT, totL, List.map_cons, List.flatten_cons, List.length_append, List.length_cons, List.sum_cons] at this ⊢
    rw [this, Nat.succ_mul]; omega
theorem totL_le : ∀ {l : List (List UInt8)} (j : Nat), totL (l.take j) ≤ totL l
  | [], j => by simp
  | a :: l, 0 => by simp [totL]
  | a :: l, j + 1 => by have := totL_le (l := l) j; simp only [totL, List.take_succ_cons, List.map_cons, List.sum_cons] at this ⊢; omega
theorem tot_one {l : List (List UInt8)} {i : Nat} (h : i < l.length) : l[i].length ≤ totL l := by
  have := totL_take h
  have := totL_le (l := l) (i + 1)
  omega

theorem Sl.one {m : Mem} {A : Option Addr} {n c : Nat} {l : List (List UInt8)} (h : Sl m 1 isS (.slice A n c) l) {i : Nat} (hi : i < l.length) : ∃ a, A = some a ∧ mcell m (a.add (scale i 1)) = some (.string (bs l[i])) := by
  obtain ⟨a, cs, e1, e2, e3, rfl⟩ := Sl.elem h i _ (List.getElem?_eq_getElem hi)
  have := e3 0 _ rfl
  have add0 : ∀ x : Addr, x.add 0 = x := fun x => by cases x; rfl
  rw [add0] at this
  exact ⟨a, e1, this⟩
end Go.Proofs.YtjdfpdlcmkadnaaGreatDoor.bd
