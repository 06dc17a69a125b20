/- Looks: gathered out of a pattern. Conditions: none. -/
import Derived.Test.YtblpobeokfkggaaLooksFn
import Derived.Test.YtblpobeokfkggaaEv

namespace Go.Proofs.Ytblpobeokfkggaa.looks
open Go Go.Ev Go.Proofs Go.Proofs.Ytblpobeokfkggaa.tree

mutual
/-- The looks of a pattern, behind others. -/
def looksR : Re → List Re → List Re
  | .mk k s0 s1 s2 s3 rs lo hi neg, ls =>
    if k < 8 then looksL rs ls
    else if (looksL rs ls).any (fun x => sameR 41 x (bareR (.mk k s0 s1 s2 s3 rs lo hi neg))) then looksL rs ls
    else looksL rs ls ++ [bareR (.mk k s0 s1 s2 s3 rs lo hi neg)]
def looksL : List Re → List Re → List Re
  | [], ls => ls
  | p :: l, ls => looksL l (looksR p ls)
end
mutual
def nodesR : Re → Nat
  | .mk _ _ _ _ _ rs _ _ _ => nodesL rs + 1
def nodesL : List Re → Nat
  | [] => 0
  | p :: l => nodesR p + nodesL l
end
theorem looksL_append (a b : List Re) : ∀ ls, looksL (a ++ b) ls = looksL b (looksL a ls) := by
  induction a with
  | nil => intro ls; rfl
  | cons p a ih => intro ls; simp only [List.cons_append, looksL]; exact ih _
theorem nodesL_append (a b : List Re) : nodesL (a ++ b) = nodesL a + nodesL b := by
  induction a with
  | nil => simp [nodesL]
  | cons p a ih => simp only [List.cons_append, nodesL, ih]; omega
theorem looksL_take (rs : List Re) (j : Nat) (h : j < rs.length) (ls : List Re) : looksL (rs.take (j + 1)) ls = looksR rs[j] (looksL (rs.take j) ls) := by
  rw [List.take_succ_eq_append_getElem h, looksL_append]; rfl
theorem nodesL_take (rs : List Re) (j : Nat) (h : j < rs.length) : nodesL (rs.take (j + 1)) = nodesL (rs.take j) + nodesR rs[j] := by
  rw [List.take_succ_eq_append_getElem h, nodesL_append]; simp [nodesL]
theorem nodesL_take_le (rs : List Re) (j : Nat) : nodesL (rs.take j) ≤ nodesL rs := by
  conv => rhs; rw [← List.take_append_drop j rs]
  rw [nodesL_append]; omega

theorem deep_up : ∀ (k : Nat) (r : Re), deepR k r ≤ k → deepR (k + 1) r ≤ k + 1 := by
  intro k
  induction k with
  | zero => intro r h; simp [deepR] at h
  | succ k ih =>
    intro r h
    obtain ⟨kd, s0, s1, s2, s3, rs, lo, hi, neg⟩ := r
    have hp := deep_part h
    show (rs.map (deepR (k + 1))).foldl max 0 + 1 ≤ k + 2
    have := foldl_max_le (B := k + 1) (rs.map (deepR (k + 1))) 0 (by omega) (by intro x hx; obtain ⟨p, hp', rfl⟩ := List.mem_map.1 hx; exact ih p (hp p hp'))
    omega
theorem deep40_part {kd s0 s1 s2 s3 lo hi : Int} {neg : Bool} {rs : List Re} (h : deepR 40 (.mk kd s0 s1 s2 s3 rs lo hi neg) ≤ 40) : ∀ p ∈ rs, deepR 40 p ≤ 40 := fun p hp => deep_up 39 p (deep_part h p hp)
theorem deep_bare (k : Nat) (r : Re) : deepR k (bareR r) = deepR k r := by
  obtain ⟨kd, s0, s1, s2, s3, rs, lo, hi, neg⟩ := r
  cases k <;> rfl

theorem looks_deep (r : Re) : ∀ ls, deepR 40 r ≤ 40 → (∀ x ∈ ls, deepR 40 x ≤ 40) → ∀ x ∈ looksR r ls, deepR 40 x ≤ 40 := by
  induction r using Re.ind with
  | h k s0 s1 s2 s3 rs lo hi neg ih =>
    intro ls hd hls
    have hL : ∀ (l : List Re), (∀ p ∈ l, p ∈ rs) → ∀ ls, (∀ x ∈ ls, deepR 40 x ≤ 40) → ∀ x ∈ looksL l ls, deepR 40 x ≤ 40 := by
      intro l
      induction l with
      | nil => intro _ ls h; exact h
      | cons p l ihl =>
        intro hm ls h
        exact ihl (fun q hq => hm q (by simp [hq])) _ (ih p (hm p (by simp)) ls (deep40_part hd p (hm p (by simp))) h)
    have h1 := hL rs (fun p hp => hp) ls hls
    simp only [looksR]
    split
    · exact h1
    · split
      · exact h1
      · intro x hx
        rcases List.mem_append.1 hx with hx | hx
        · exact h1 x hx
        · rw [List.mem_singleton] at hx; subst hx
          rw [deep_bare]; exact hd
theorem looksL_deep : ∀ (l : List Re) (ls : List Re), (∀ p ∈ l, deepR 40 p ≤ 40) → (∀ x ∈ ls, deepR 40 x ≤ 40) → ∀ x ∈ looksL l ls, deepR 40 x ≤ 40 := by
  intro l
  induction l with
  | nil => intro ls _ h; exact h
  | cons p l ih => intro ls hl h; exact ih _ (fun q hq => hl q (by simp [hq])) (looks_deep p ls (hl p (by simp)) h)
theorem looks_len (r : Re) : ∀ ls, (looksR r ls).length ≤ ls.length + nodesR r := by
  induction r using Re.ind with
  | h k s0 s1 s2 s3 rs lo hi neg ih =>
    intro ls
    have hL : ∀ (l : List Re), (∀ p ∈ l, p ∈ rs) → ∀ ls, (looksL l ls).length ≤ ls.length + nodesL l := by
      intro l
      induction l with
      | nil => intro _ ls; simp [looksL]
      | cons p l ihl =>
        intro hm ls
        have h1 := ihl (fun q hq => hm q (by simp [hq])) (looksR p ls)
        have h2 := ih p (hm p (by simp)) ls
        simp only [looksL, nodesL]; omega
    have h1 := hL rs (fun p hp => hp) ls
    simp only [looksR, nodesR]
    split
    · omega
    · split
      · omega
      · rw [List.length_append, List.length_singleton]; omega
theorem looksL_len : ∀ (l : List Re) (ls : List Re), (looksL l ls).length ≤ ls.length + nodesL l := by
  intro l
  induction l with
  | nil => intro ls; simp [looksL]
  | cons p l ih =>
    intro ls
    have h1 := ih (looksR p ls)
    have h2 := looks_len p ls
    simp only [looksL, nodesL]; omega

theorem alt2 {A B : Prop} (a : A) (b : B) : AltReq A B := ⟨⟨a, b⟩⟩

theorem small_bare {r : Re} (h : Small r) : Small (bareR r) := by
  cases h with
  | mk k s0 s1 s2 s3 rs lo hi neg h hp => exact .mk k s0 s1 s2 s3 rs lo hi false h hp

end Go.Proofs.Ytblpobeokfkggaa.looks
