/- Patterns in memory of one's own: cloned, and turned round in place. Conditions: none. -/
import Derived.Test.YtblpobeokfkggaaTreeFn
import Derived.Test.YtblpobeokfkggaaEv

namespace Go.Proofs.Ytblpobeokfkggaa.tree
open Go Go.Ev Go.Proofs

/-- These cells, with these blocks of one's own, are this pattern, all the way down. -/
inductive OwnT : Re → List Value → Ev.Own → Prop
  | mk (k s0 s1 s2 s3 lo hi : Int) (neg : Bool) (g : Nat) (rs : List Re) (blk : List (List Value)) (Ls : List Ev.Own)
      (h1 : blk.length = rs.length) (h2 : Ls.length = rs.length) (h3 : rs.length ≤ maxLen)
      (hr : inI k ∧ inU s0 ∧ inU s1 ∧ inU s2 ∧ inU s3 ∧ inI lo ∧ inI hi)
      (hs : ∀ (i : Nat) (r : Re) (cs : List Value) (L : Ev.Own), rs[i]? = some r → blk[i]? = some cs → Ls[i]? = some L → OwnT r cs L) :
      OwnT (.mk k s0 s1 s2 s3 rs lo hi neg) (reC k s0 s1 s2 s3 (.slice (some ⟨g, 0, none⟩) rs.length rs.length) lo hi neg) ((g, .cells (toArr blk.flatten) 53 (0, 0)) :: Ls.flatten)

theorem OwnT.len {r : Re} {cs : List Value} {L : Ev.Own} (h : OwnT r cs L) : cs.length = 9 := by cases h; rfl
theorem OwnT.form {r : Re} {cs : List Value} {L : Ev.Own} (h : OwnT r cs L) : ∃ k s0 s1 s2 s3 g n lo hi neg, cs = reC k s0 s1 s2 s3 (.slice (some ⟨g, 0, none⟩) n n) lo hi neg := by
  cases h; exact ⟨_, _, _, _, _, _, _, _, _, _, rfl⟩

theorem rows9 {rs : List Re} {blk : List (List Value)} {Ls : List Ev.Own} (h1 : blk.length = rs.length) (h2 : Ls.length = rs.length)
    (hs : ∀ (i : Nat) (r : Re) (cs : List Value) (L : Ev.Own), rs[i]? = some r → blk[i]? = some cs → Ls[i]? = some L → OwnT r cs L) : ∀ r ∈ blk, r.length = 9 := by
  intro r hr
  obtain ⟨i, hi, rfl⟩ := List.getElem_of_mem hr
  exact (hs i _ _ _ (List.getElem?_eq_getElem (by omega)) (List.getElem?_eq_getElem hi) (List.getElem?_eq_getElem (by omega))).len

section
variable {m0 m : Mem} {S : List Nat} {w0 w : World}

/-- Handed over, all of it. -/
theorem OwnT.freeze {r : Re} : ∀ {cs : List Value} {L L2 : Ev.Own} {m : Mem}, OwnT r cs L → Ev.Loc m0 S w0 m (L ++ L2) w → ∃ m', Ev.Loc m0 S w0 m' L2 w ∧ Mem.Le m m' ∧ RepRe m' cs r := by
  induction r using Re.ind with
  | h k s0 s1 s2 s3 rs lo hi neg ih =>
    intro cs L L2 m h hL
    cases h with
    | mk _ _ _ _ _ _ _ _ g _ blk Ls h1 h2 h3 hr hs =>
      have h9 := rows9 h1 h2 hs
      have hL : Ev.Loc m0 S w0 m (Ls.flatten ++ ((g, .cells (toArr blk.flatten) 53 (0, 0)) :: L2)) w := hL.perm (List.perm_middle.symm)
      have key : ∀ (j : Nat) (m : Mem), j ≤ rs.length → Ev.Loc m0 S w0 m ((Ls.drop (rs.length - j)).flatten ++ ((g, .cells (toArr blk.flatten) 53 (0, 0)) :: L2)) w →
          ∃ m', Ev.Loc m0 S w0 m' ((g, .cells (toArr blk.flatten) 53 (0, 0)) :: L2) w ∧ Mem.Le m m' ∧ ∀ (i : Nat) (x : Re), rs.length - j ≤ i → rs[i]? = some x → ∃ cs, blk[i]? = some cs ∧ RepRe m' cs x := by
        intro j
        induction j with
        | zero =>
          intro m hj hL
          rw [Nat.sub_zero, ← h2, List.drop_length] at hL
          exact ⟨m, hL, Mem.Le.refl m, fun i x hi hx => absurd (List.getElem?_eq_some_iff.1 hx).1 (by omega)⟩
        | succ j ihj =>
          intro m hj hL
          have hlt : rs.length - (j + 1) < Ls.length := by omega
          rw [List.drop_eq_getElem_cons hlt, List.flatten_cons, List.append_assoc, show rs.length - (j + 1) + 1 = rs.length - j by omega] at hL
          have hx0 := List.getElem?_eq_getElem (l := rs) (i := rs.length - (j + 1)) (by omega)
          have hb0 := List.getElem?_eq_getElem (l := blk) (i := rs.length - (j + 1)) (by omega)
          obtain ⟨m1, hL1, hm1, hrep⟩ := ih _ (List.getElem_mem _) (hs _ _ _ _ hx0 hb0 (List.getElem?_eq_getElem hlt)) hL
          obtain ⟨m2, hL2, hm2, hall⟩ := ihj m1 (by omega) hL1
          refine ⟨m2, hL2, hm1.trans hm2, fun i x hi hx => ?_⟩
          by_cases e : i = rs.length - (j + 1)
          · subst e
            rw [hx0] at hx; cases hx
            exact ⟨_, hb0, hrep.le hm2⟩
          · exact hall i x (by omega) hx
      obtain ⟨m1, hL1, hm1, hall⟩ := key rs.length m (Nat.le_refl _) (by rw [Nat.sub_self, List.drop_zero]; exact hL)
      obtain ⟨m2, hL2, hm2, hsl⟩ := rows_freeze (L := L2) (R := RepRe m1) hL1 rfl (Nat.le_refl _) h3 h9 fun i x hx => hall i x (by omega) hx
      exact ⟨m2, hL2, hm1.trans hm2, RepRe.shut (hsl.le (Mem.Le.refl m2) fun cs x _ hx => hx.le hm2) hr⟩
end

theorem flat_pick {Ls : List Ev.Own} {j : Nat} {L1 : Ev.Own} (h : Ls[j]? = some L1) : Ls.flatten.Perm (L1 ++ (Ls.eraseIdx j).flatten) := by
  induction Ls generalizing j with
  | nil => simp at h
  | cons L Ls ih =>
    cases j with
    | zero => simp at h; subst h; exact List.Perm.refl _
    | succ j =>
      simp only [List.getElem?_cons_succ] at h
      simp only [List.flatten_cons, List.eraseIdx_cons_succ]
      exact ((List.Perm.append_left L (ih h)).trans (by rw [← List.append_assoc, ← List.append_assoc]; exact List.Perm.append_right _ List.perm_append_comm))
theorem flat_put {Ls : List Ev.Own} {j : Nat} {L1 L2 : Ev.Own} (h : Ls[j]? = some L1) : (Ls.set j L2).flatten.Perm (L2 ++ (Ls.eraseIdx j).flatten) := by
  have hj : j < Ls.length := (List.getElem?_eq_some_iff.1 h).1
  have := flat_pick (Ls := Ls.set j L2) (j := j) (L1 := L2) (List.getElem?_set_self hj)
  rw [List.eraseIdx_set_eq] at this
  exact this

end Go.Proofs.Ytblpobeokfkggaa.tree
