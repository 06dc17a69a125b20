/- A plain pattern's text, in plain Lean. Conditions: none. -/
import Derived.Test.YtjdfpdlcmkadnaaGreatDoorPrDig
import Derived.Test.YtjdfpdlcmkadnaaGreatDoorTreePlain

namespace Go.Proofs.YtjdfpdlcmkadnaaGreatDoor.pt
open Go Go.Ev Go.Proofs Go.Proofs.YtjdfpdlcmkadnaaGreatDoor.tree Go.Proofs.YtjdfpdlcmkadnaaGreatDoor.bd Go.Proofs.YtjdfpdlcmkadnaaGreatDoor.tabs

def par (t : List UInt8) : List UInt8 := [40] ++ t ++ [41]
def lookT (k : Int) (neg : Bool) : List UInt8 := (if k = 9 then [40, 63] ++ [60] else [40, 63]) ++ (if neg = true then [33] else [61])
def hiT (hi : Int) : List UInt8 := if 0 ≤ hi then numT hi.toNat else []
def hd : List (List UInt8) → List UInt8
  | [] => []
  | a :: _ => a
/-- A node's text, its parts' texts given. -/
def topT (k s0 s1 s2 s3 : Int) (ts : List (List UInt8)) (lo hi : Int) (neg : Bool) : List UInt8 :=
  if k = 1 then [40, 41] else if k = 2 then classT (hasR s0 s1 s2 s3) else if k = 3 then jn [] (ts.map par) else if k = 4 then jn [124] (ts.map par) else if k = 5 then jn [38] (ts.map par)
  else if k = 6 then [126] ++ jn [] (ts.map par) else if k = 7 then jn [] (ts.map par) ++ [123] ++ numT lo.toNat ++ [44] ++ hiT hi ++ [125]
  else if k = 8 ∨ k = 9 then lookT k neg ++ hd ts ++ [41] else if k = 10 then [94] else [36]
mutual
def textR : Re → List UInt8
  | .mk k s0 s1 s2 s3 rs lo hi neg => topT k s0 s1 s2 s3 (textL rs) lo hi neg
def textL : List Re → List (List UInt8)
  | [] => []
  | p :: l => textR p :: textL l
end
theorem textL_eq (l : List Re) : textL l = l.map textR := by
  induction l with
  | nil => rfl
  | cons p l ih => simp only [textL, List.map_cons, ih]
theorem textR_eq (k s0 s1 s2 s3 : Int) (rs : List Re) (lo hi : Int) (neg : Bool) : textR (.mk k s0 s1 s2 s3 rs lo hi neg) = topT k s0 s1 s2 s3 (rs.map textR) lo hi neg := by
  simp only [textR, textL_eq]

/-- A plain node is as it should be. -/
inductive Good : Re → Prop
  | mk (k s0 s1 s2 s3 : Int) (rs : List Re) (lo hi : Int) (neg : Bool) (hk : 1 ≤ k ∧ k ≤ 11) (h1 : k = 6 ∨ k = 7 ∨ k = 8 ∨ k = 9 → rs.length = 1) (h7 : k = 7 → 0 ≤ lo ∧ lo ≤ 20 ∧ -1 ≤ hi ∧ hi ≤ 20)
      (hp : ∀ p ∈ rs, Good p) : Good (.mk k s0 s1 s2 s3 rs lo hi neg)
theorem Good.leaf {k : Int} (h : k = 1 ∨ k = 2) : Good (leafR k) := .mk _ _ _ _ _ _ _ _ _ (by omega) (by omega) (by omega) (by simp)
theorem good_plain (r : Re) : allR r = true → Good (plainR r) := by
  induction r using Re.ind with
  | h k s0 s1 s2 s3 rs lo hi neg ih =>
    intro h
    simp only [allR, Bool.and_eq_true, decide_eq_true_eq, allL_eq, List.all_eq_true] at h
    obtain ⟨⟨g1, g2, -, -, g5, -⟩, h2⟩ := h
    rw [plainR_eq]
    have hp : ∀ p ∈ rs.map plainR, Good p := by
      intro p hp
      obtain ⟨q, hq, rfl⟩ := List.mem_map.1 hp
      exact ih q hq (h2 q hq)
    have hl : (rs.map plainR).length = rs.length := List.length_map _
    generalize rs.map plainR = ps at hp hl
    by_cases k0 : k = 0
    · subst k0; rw [topR_0]; exact Good.leaf (by omega)
    by_cases k5 : k = 3 ∨ k = 4 ∨ k = 5
    · match ps, hp with
      | [], _ =>
        rw [topR_nil k5]
        split
        · exact Good.leaf (by omega)
        · split
          · exact Good.leaf (by omega)
          · exact .mk _ _ _ _ _ _ _ _ _ (by omega) (by simp) (by omega) (by intro p hp; simp at hp; subst hp; exact Good.leaf (by omega))
      | [p], hp => rw [topR_one k5]; exact hp p (by simp)
      | p :: q :: ps, hp =>
        rw [topR_self k0 (.inr (by simp))]
        exact .mk _ _ _ _ _ _ _ _ _ (by omega) (by omega) (by omega) hp
    · rw [topR_self k0 (.inl k5)]
      refine .mk _ _ _ _ _ _ _ _ _ (by omega) (fun h => ?_) (fun h => ?_) hp
      · have : partsK k = 1 := by unfold partsK; rw [if_neg k5, if_pos h]
        omega
      · have := g5 h; omega

mutual
def nodesR : Re → Nat
  | .mk _ _ _ _ _ rs _ _ _ => 1 + nodesL rs
def nodesL : List Re → Nat
  | [] => 0
  | p :: l => nodesR p + nodesL l
end
theorem nodesR_pos (r : Re) : 1 ≤ nodesR r := by cases r; simp only [nodesR]; omega
theorem nodesL_eq (l : List Re) : nodesL l = (l.map nodesR).sum := by
  induction l with
  | nil => rfl
  | cons p l ih => simp only [nodesL, List.map_cons, List.sum_cons, ih]
theorem nodesL_len (l : List Re) : l.length ≤ nodesL l := by
  induction l with
  | nil => simp
  | cons p l ih => have := nodesR_pos p; simp only [nodesL, List.length_cons]; omega
theorem nodesL_mem {l : List Re} {p : Re} (h : p ∈ l) : nodesR p ≤ nodesL l := by
  induction l with
  | nil => simp at h
  | cons q l ih =>
    simp only [nodesL]
    rcases List.mem_cons.1 h with rfl | h
    · omega
    · have := ih h; omega
theorem loopC_nodes {f : Re → Nat} (hf : ∀ p, f p ≤ 2000 → nodesR p ≤ f p) : ∀ (l : List Re) (n : Nat), loopC f l n ≤ 2000 → n + nodesL l ≤ loopC f l n := by
  intro l
  induction l with
  | nil => intro n h; simp [loopC, nodesL]
  | cons p l ih =>
    intro n h
    simp only [loopC, nodesL] at h ⊢
    split at h
    · omega
    · rename_i hc
      rw [if_neg hc]
      have h1 := ih _ h
      have h2 := hf p (by omega)
      omega
theorem nodes_of : ∀ (k : Nat) (r : Re), cR k r ≤ 2000 → nodesR r ≤ cR k r := by
  intro k
  induction k with
  | zero => intro r h; simp [cR] at h
  | succ k ih =>
    intro r h
    obtain ⟨kd, s0, s1, s2, s3, rs, lo, hi, neg⟩ := r
    have := loopC_nodes ih rs 1 h
    simpa only [nodesR, cR, Re.parts] using this
theorem nodes_plain (r : Re) : nodesR (plainR r) ≤ 2 * nodesR r := by
  induction r using Re.ind with
  | h k s0 s1 s2 s3 rs lo hi neg ih =>
    rw [plainR_eq]
    have hs : nodesL (rs.map plainR) ≤ 2 * nodesL rs := by
      clear hi
      induction rs with
      | nil => simp [nodesL]
      | cons p l ih2 =>
        have h1 := ih p (by simp)
        have h2 := ih2 fun q hq => ih q (by simp [hq])
        simp only [List.map_cons, nodesL]; omega
    have e : nodesR (.mk k s0 s1 s2 s3 rs lo hi neg) = 1 + nodesL rs := rfl
    have hlf : ∀ k, nodesR (leafR k) = 1 := fun k => rfl
    have h6 : nodesR (.mk 6 0 0 0 0 [leafR 2] 0 0 false) = 2 := rfl
    rw [e]
    generalize rs.map plainR = ps at hs
    by_cases k0 : k = 0
    · subst k0; rw [topR_0, hlf]; omega
    by_cases k5 : k = 3 ∨ k = 4 ∨ k = 5
    · match ps, hs with
      | [], _ =>
        rw [topR_nil k5]
        split
        · rw [hlf]; omega
        · split
          · rw [hlf]; omega
          · rw [h6]; omega
      | [p], hs => rw [topR_one k5]; simp only [nodesL] at hs; omega
      | p :: q :: ps, hs =>
        rw [topR_self k0 (.inr (by simp))]
        simp only [nodesR]; omega
    · rw [topR_self k0 (.inl k5)]
      simp only [nodesR]; omega

theorem jn_snoc (sep a : List UInt8) (l : List (List UInt8)) : jn sep (l ++ [a]) = if l = [] then a else jn sep l ++ sep ++ a := by
  cases l with
  | nil => simp [jn]
  | cons b l =>
    rw [if_neg (by simp), List.cons_append, jn_cons, jn_cons]
    simp [jnT, List.map_append, List.flatten_append]
theorem jn_len (sep : List UInt8) (hs : sep.length ≤ 1) (l : List (List UInt8)) : (jn sep l).length ≤ l.length + totL l := by
  cases l with
  | nil => simp [jn]
  | cons a l =>
    rw [jn_cons, List.length_append, jnT_len]
    have : l.length * sep.length ≤ l.length * 1 := Nat.mul_le_mul_left _ hs
    simp only [totL, List.map_cons, List.sum_cons, List.length_cons] at this ⊢
    omega
theorem par_len (t : List UInt8) : (par t).length = t.length + 2 := by simp [par]
theorem lookT_len (k : Int) (neg : Bool) : (lookT k neg).length ≤ 4 := by unfold lookT; split <;> split <;> simp
theorem hiT_len (hi : Int) : (hiT hi).length ≤ 2 := by
  have := numT_len hi.toNat
  unfold hiT; split
  · omega
  · simp
theorem text_len (r : Re) : (textR r).length + 3 ≤ 2400 * nodesR r := by
  induction r using Re.ind with
  | h k s0 s1 s2 s3 rs lo hi neg ih =>
    have hs : rs.length + totL ((rs.map textR).map par) ≤ 2400 * nodesL rs := by
      clear hi
      induction rs with
      | nil => simp [totL]
      | cons p l ih2 =>
        have h1 := ih p (by simp)
        have h2 := ih2 fun q hq => ih q (by simp [hq])
        have h3 := par_len (textR p)
        simp only [List.map_cons, nodesL, totL, List.sum_cons, List.length_cons] at h2 ⊢
        rw [h3]; omega
    have hh : (hd (rs.map textR)).length ≤ 2400 * nodesL rs := by
      cases rs with
      | nil => simp [hd]
      | cons p l =>
        have h1 := ih p (by simp)
        simp only [List.map_cons, hd, nodesL]; omega
    have hj : ∀ sep : List UInt8, sep.length ≤ 1 → (jn sep ((rs.map textR).map par)).length ≤ 2400 * nodesL rs := fun sep h => by
      have := jn_len sep h ((rs.map textR).map par)
      simp only [List.length_map] at this
      omega
    have e : nodesR (.mk k s0 s1 s2 s3 rs lo hi neg) = 1 + nodesL rs := rfl
    rw [e, textR_eq]
    have h0 := hj [] (by simp)
    have h1 := hj [124] (by simp)
    have h2 := hj [38] (by simp)
    have h3 := numT_len lo.toNat
    have h4 := hiT_len hi
    have h5 := lookT_len k neg
    have h6 := classT_len (hasR s0 s1 s2 s3)
    unfold topT
    generalize (rs.map textR).map par = js at h0 h1 h2 hs ⊢
    split
    · simp only [List.length_cons, List.length_nil]; omega
    split
    · omega
    split
    · omega
    split
    · omega
    split
    · omega
    split
    · simp only [List.length_append, List.length_cons, List.length_nil]; omega
    split
    · simp only [List.length_append, List.length_cons, List.length_nil]; omega
    split
    · simp only [List.length_append, List.length_cons, List.length_nil]; omega
    split
    · simp only [List.length_cons, List.length_nil]; omega
    · simp only [List.length_cons, List.length_nil]; omega
end Go.Proofs.YtjdfpdlcmkadnaaGreatDoor.pt
