/- A plain pattern's text, as the document writes it: cut off where it is too long. Conditions: none. -/
import Derived.Test.YtjdfpdlcmkadnaaGreatDoorPrPlain

namespace Go.Proofs.YtjdfpdlcmkadnaaGreatDoor.pt
open Go Go.Ev Go.Proofs Go.Proofs.YtjdfpdlcmkadnaaGreatDoor.tree Go.Proofs.YtjdfpdlcmkadnaaGreatDoor.bd Go.Proofs.YtjdfpdlcmkadnaaGreatDoor.tabs

def loopT (sep : List UInt8) : List (List UInt8) → List UInt8 → Nat → List UInt8 × Bool
  | [], out, _ => (out, false)
  | t :: l, out, j => if 30000 < ((if 0 < j then out ++ sep else out) ++ par t).length then ((if 0 < j then out ++ sep else out) ++ par t, true) else loopT sep l ((if 0 < j then out ++ sep else out) ++ par t) (j + 1)
def sepK (k : Int) : List UInt8 := if k = 4 then [124] else if k = 5 then [38] else []
def preK (k : Int) : List UInt8 := if k = 6 then [126] else []
def endT (k lo hi : Int) (o : List UInt8) : List UInt8 := if k = 7 then (if 0 ≤ hi then o ++ ([123] ++ numT lo.toNat ++ [44]) ++ numT hi.toNat else o ++ ([123] ++ numT lo.toNat ++ [44])) ++ [125] else o
def cutT (k lo hi : Int) (r : List UInt8 × Bool) : List UInt8 := if r.2 = true then r.1 else endT k lo hi r.1
def topD (k s0 s1 s2 s3 : Int) (ts : List (List UInt8)) (lo hi : Int) (neg : Bool) : List UInt8 :=
  if k = 1 then [40, 41] else if k = 2 then classT (hasR s0 s1 s2 s3) else if k = 3 ∨ k = 4 ∨ k = 5 ∨ k = 6 ∨ k = 7 then cutT k lo hi (loopT (sepK k) ts (preK k) 0)
  else if k = 8 ∨ k = 9 then lookT k neg ++ hd ts ++ [41] else if k = 10 then [94] else [36]
mutual
def refT : Re → List UInt8
  | .mk k s0 s1 s2 s3 rs lo hi neg => topD k s0 s1 s2 s3 (refL rs) lo hi neg
def refL : List Re → List (List UInt8)
  | [] => []
  | p :: l => refT p :: refL l
end
theorem refL_eq (l : List Re) : refL l = l.map refT := by
  induction l with
  | nil => rfl
  | cons p l ih => simp only [refL, List.map_cons, ih]
theorem refT_eq (k s0 s1 s2 s3 : Int) (rs : List Re) (lo hi : Int) (neg : Bool) : refT (.mk k s0 s1 s2 s3 rs lo hi neg) = topD k s0 s1 s2 s3 (rs.map refT) lo hi neg := by
  simp only [refT, refL_eq]

/-- The same, or both too long. -/
def Near (t u : List UInt8) : Prop := t = u ∨ (30000 < t.length ∧ t.length ≤ u.length)
def restT (sep : List UInt8) (j : Nat) (l : List (List UInt8)) : List UInt8 := if 0 < j then jnT sep (l.map par) else jn sep (l.map par)
theorem restT_cons (sep : List UInt8) (j : Nat) (t : List UInt8) (l : List (List UInt8)) : restT sep j (t :: l) = (if 0 < j then sep else []) ++ par t ++ restT sep (j + 1) l := by
  unfold restT
  rw [if_pos (Nat.succ_pos j)]
  split
  · simp [jnT]
  · rw [List.map_cons, jn_cons]; simp
theorem loop_near (sep : List UInt8) : ∀ (l : List Re) (out : List UInt8) (j : Nat), (∀ p ∈ l, Near (refT p) (textR p)) →
    ((loopT sep (l.map refT) out j).2 = true → 30000 < (loopT sep (l.map refT) out j).1.length ∧ (loopT sep (l.map refT) out j).1.length ≤ (out ++ restT sep j (l.map textR)).length) ∧
      ((loopT sep (l.map refT) out j).2 = false → (loopT sep (l.map refT) out j).1 = out ++ restT sep j (l.map textR)) := by
  intro l
  induction l with
  | nil =>
    intro out j _
    have e : restT sep j (([] : List Re).map textR) = [] := by unfold restT; split <;> rfl
    rw [e]
    exact ⟨fun h => by simp [loopT] at h, fun _ => by simp [loopT]⟩
  | cons p l ih =>
    intro out j hp
    have h1 := hp p (by simp)
    have ih := fun out => ih out (j + 1) fun q hq => hp q (by simp [hq])
    simp only [List.map_cons, loopT, restT_cons]
    have eo : (if 0 < j then out ++ sep else out) = out ++ (if 0 < j then sep else []) := by split <;> simp
    rw [eo]
    generalize (if 0 < j then sep else []) = sp
    rcases h1 with e | ⟨h1, h2⟩
    · rw [e]
      split
      · rename_i hc
        refine ⟨fun _ => ⟨hc, ?_⟩, fun h => by cases h⟩
        simp only [List.length_append] at hc ⊢; omega
      · obtain ⟨i1, i2⟩ := ih (out ++ sp ++ par (textR p))
        have ea : out ++ (sp ++ par (textR p) ++ restT sep (j + 1) (List.map textR l)) = out ++ sp ++ par (textR p) ++ restT sep (j + 1) (List.map textR l) := by simp only [List.append_assoc]
        rw [ea]
        exact ⟨i1, i2⟩
    · have p1 := par_len (refT p)
      have p2 := par_len (textR p)
      rw [if_pos (by simp only [List.length_append]; omega)]
      refine ⟨fun _ => ⟨?_, ?_⟩, fun h => by cases h⟩
      · simp only [List.length_append]; omega
      · simp only [List.length_append]; omega
theorem near (r : Re) : Near (refT r) (textR r) := by
  induction r using Re.ind with
  | h k s0 s1 s2 s3 rs lo hi neg ih =>
    obtain ⟨g1, g2⟩ := loop_near (sepK k) rs (preK k) 0 ih
    rw [refT_eq, textR_eq]
    have er : restT (sepK k) 0 (rs.map textR) = jn (sepK k) ((rs.map textR).map par) := if_neg (Nat.lt_irrefl 0)
    rw [er] at g1 g2
    have hh : Near (lookT k neg ++ hd (rs.map refT) ++ [41]) (lookT k neg ++ hd (rs.map textR) ++ [41]) := by
      cases rs with
      | nil => exact .inl rfl
      | cons p l =>
        simp only [List.map_cons, hd]
        rcases ih p (by simp) with e | ⟨h1, h2⟩
        · exact .inl (by rw [e])
        · exact .inr ⟨by simp only [List.length_append]; omega, by simp only [List.length_append]; omega⟩
    have hcut : ∀ u, preK k ++ jn (sepK k) ((rs.map textR).map par) = u → Near (cutT k lo hi (loopT (sepK k) (rs.map refT) (preK k) 0)) (endT k lo hi u) := by
      intro u hu
      rw [hu] at g1 g2
      unfold cutT
      split
      · rename_i hc
        obtain ⟨a, b⟩ := g1 hc
        refine .inr ⟨a, Nat.le_trans b ?_⟩
        unfold endT
        split
        · split <;> (simp only [List.length_append]; omega)
        · exact Nat.le_refl _
      · rename_i hc
        rw [g2 (by simpa using hc)]
        exact .inl rfl
    unfold topD topT
    by_cases k1 : k = 1
    · rw [if_pos k1, if_pos k1]; exact .inl rfl
    rw [if_neg k1, if_neg k1]
    by_cases k2 : k = 2
    · rw [if_pos k2, if_pos k2]; exact .inl rfl
    rw [if_neg k2, if_neg k2]
    by_cases k3 : k = 3
    · subst k3; exact hcut _ rfl
    rw [if_neg k3]
    by_cases k4 : k = 4
    · subst k4; exact hcut _ rfl
    rw [if_neg k4]
    by_cases k5 : k = 5
    · subst k5; exact hcut _ rfl
    rw [if_neg k5]
    by_cases k6 : k = 6
    · subst k6; exact hcut _ rfl
    rw [if_neg k6]
    by_cases k7 : k = 7
    · subst k7
      have e : endT 7 lo hi (preK 7 ++ jn (sepK 7) ((rs.map textR).map par)) = jn [] ((rs.map textR).map par) ++ [123] ++ numT lo.toNat ++ [44] ++ hiT hi ++ [125] := by
        unfold endT hiT
        rw [if_pos rfl]
        show (if 0 ≤ hi then jn [] ((rs.map textR).map par) ++ ([123] ++ numT lo.toNat ++ [44]) ++ numT hi.toNat else jn [] ((rs.map textR).map par) ++ ([123] ++ numT lo.toNat ++ [44])) ++ [125] = _
        split <;> simp
      have := hcut _ rfl
      rw [e] at this
      exact this
    rw [if_neg k7, if_neg (by omega)]
    by_cases k8 : k = 8 ∨ k = 9
    · rw [if_pos k8, if_pos k8]; exact hh
    rw [if_neg k8, if_neg k8]
    exact .inl rfl
end Go.Proofs.YtjdfpdlcmkadnaaGreatDoor.pt
