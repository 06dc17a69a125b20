/- Patterns made plain, by the program and by the document. Conditions: none. -/
import Derived.Test.YtjdfpdlcmkadnaaGreatDoorTreeOwn

namespace Go.Proofs.YtjdfpdlcmkadnaaGreatDoor.tree
open Go Go.Ev Go.Proofs

/-- A node, its parts plain already. -/
def topR (k s0 s1 s2 s3 : Int) (ps : List Re) (lo hi : Int) (neg : Bool) : Re :=
  if k = 0 then leafR 2 else if k = 3 ∨ k = 4 ∨ k = 5 then (match ps with
    | [] => if k = 3 then leafR 1 else if k = 4 then leafR 2 else .mk 6 0 0 0 0 [leafR 2] 0 0 false
    | [p] => p
    | ps => .mk k s0 s1 s2 s3 ps lo hi neg)
  else .mk k s0 s1 s2 s3 ps lo hi neg
mutual
def plainR : Re → Re
  | .mk k s0 s1 s2 s3 rs lo hi neg => topR k s0 s1 s2 s3 (plainL rs) lo hi neg
def plainL : List Re → List Re
  | [] => []
  | p :: l => plainR p :: plainL l
end
theorem plainL_eq (l : List Re) : plainL l = l.map plainR := by
  induction l with
  | nil => rfl
  | cons p l ih => simp only [plainL, List.map_cons, ih]
theorem plainR_eq (k s0 s1 s2 s3 : Int) (rs : List Re) (lo hi : Int) (neg : Bool) : plainR (.mk k s0 s1 s2 s3 rs lo hi neg) = topR k s0 s1 s2 s3 (rs.map plainR) lo hi neg := by
  simp only [plainR, plainL_eq]
theorem topR_0 {s0 s1 s2 s3 : Int} {ps : List Re} {lo hi : Int} {neg : Bool} : topR 0 s0 s1 s2 s3 ps lo hi neg = leafR 2 := by unfold topR; rw [if_pos rfl]
theorem topR_self {k s0 s1 s2 s3 : Int} {ps : List Re} {lo hi : Int} {neg : Bool} (h0 : k ≠ 0) (h : ¬ (k = 3 ∨ k = 4 ∨ k = 5) ∨ 2 ≤ ps.length) : topR k s0 s1 s2 s3 ps lo hi neg = .mk k s0 s1 s2 s3 ps lo hi neg := by
  unfold topR
  rw [if_neg h0]
  split
  · rename_i hk
    have h2 : 2 ≤ ps.length := h.elim (fun h => absurd hk h) id
    match ps, h2 with
    | _ :: _ :: _, _ => rfl
  · rfl
theorem topR_one {k s0 s1 s2 s3 : Int} {p : Re} {lo hi : Int} {neg : Bool} (h : k = 3 ∨ k = 4 ∨ k = 5) : topR k s0 s1 s2 s3 [p] lo hi neg = p := by
  unfold topR
  rw [if_neg (by omega), if_pos h]
theorem topR_nil {k s0 s1 s2 s3 : Int} {lo hi : Int} {neg : Bool} (h : k = 3 ∨ k = 4 ∨ k = 5) : topR k s0 s1 s2 s3 [] lo hi neg = if k = 3 then leafR 1 else if k = 4 then leafR 2 else .mk 6 0 0 0 0 [leafR 2] 0 0 false := by
  unfold topR
  rw [if_neg (by omega), if_pos h]

/-- Not of nothing, in memory of one's own. -/
theorem not_nothing {m0 m : Mem} {S : List Nat} {w0 w : World} {g : Nat} {L2 : Ev.Own} (hL : Ev.Loc m0 S w0 m ((g, .cells (toArr (reC 2 0 0 0 0 (.slice none 0 0) 0 0 false)) 28 (0, 0)) :: L2) w) :
    ∃ m', Ev.Loc m0 S w0 m' L2 w ∧ Mem.Le m m' ∧ RepRe m' (reC 6 0 0 0 0 (.slice (some ⟨g, 0, none⟩) 1 1) 0 0 false) (.mk 6 0 0 0 0 [leafR 2] 0 0 false) := by
  obtain ⟨m', h1, h2, h3⟩ := rows_freeze (L := L2) (blk := [reC 2 0 0 0 0 (.slice none 0 0) 0 0 false]) (l := [leafR 2]) (R := RepRe m) (n := 1) (cap := 1) (size := 9) (by simpa using hL) rfl (Nat.le_refl _) (by decide) (by intro r hr; simp at hr; subst hr; rfl) fun i x hx => by
    cases i with
    | zero => cases hx; exact ⟨_, rfl, leaf_rep m 2 (by simp [inI])⟩
    | succ i => cases hx
  exact ⟨m', h1, h2, RepRe.shut (h3.le (Mem.Le.refl m') fun cs x _ hx => hx.le h2) (by simp [inI, inU])⟩

end Go.Proofs.YtjdfpdlcmkadnaaGreatDoor.tree
