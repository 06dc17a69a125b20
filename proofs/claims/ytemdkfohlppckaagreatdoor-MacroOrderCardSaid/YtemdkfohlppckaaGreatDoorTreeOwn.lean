/- Patterns in memory of one's own: cloned, and turned round in place. Conditions: none. -/
import Derived.Test.YtemdkfohlppckaaGreatDoorTreeFn
import Derived.Test.YtemdkfohlppckaaGreatDoorEv

namespace Go.Proofs.YtemdkfohlppckaaGreatDoor.tree
open Go Go.Ev Go.Proofs

/-- These cells, with these blocks of one's own, are this pattern, all the way down. -/
inductive OwnT : Re → List Value → Ev.Own → Prop
  | mk (k s0 s1 s2 s3 lo hi : Int) (neg : Bool) (g : Nat) (rs : List Re) (blk : List (List Value)) (Ls : List Ev.Own)
      (h1 : blk.length = rs.length) (h2 : Ls.length = rs.length) (h3 : rs.length ≤ maxLen)
      (hr : inI k ∧ inU s0 ∧ inU s1 ∧ inU s2 ∧ inU s3 ∧ inI lo ∧ inI hi)
      (hs : ∀ (i : Nat) (r : Re) (cs : List Value) (L : Ev.Own), rs[i]? = some r → blk[i]? = some cs → Ls[i]? = some L → OwnT r cs L) :
      OwnT (.mk k s0 s1 s2 s3 rs lo hi neg) (reC k s0 s1 s2 s3 (.slice (some ⟨g, 0, none⟩) rs.length rs.length) lo hi neg) ((g, .cells (toArr blk.flatten) 36 (0, 0)) :: Ls.flatten)

theorem OwnT.len {r : Re} {cs : List Value} {L : Ev.Own} (h : OwnT r cs L) : cs.length = 9 := by cases h; rfl
theorem OwnT.form {r : Re} {cs : List Value} {L : Ev.Own} (h : OwnT r cs L) : ∃ k s0 s1 s2 s3 g n lo hi neg, cs = reC k s0 s1 s2 s3 (.slice (some ⟨g, 0, none⟩) n n) lo hi neg := by
  cases h; exact ⟨_, _, _, _, _, _, _, _, _, _, rfl⟩

theorem rows9 {rs : List Re} {blk : List (List Value)} {Ls : List Ev.Own} (h1 : blk.length = rs.length) (h2 : Ls.length = rs.length)
    (hs : ∀ (i : Nat) (r : Re) (cs : List Value) (L : Ev.Own), rs[i]? = some r → blk[i]? = some cs → Ls[i]? = some L → OwnT r cs L) : ∀ r ∈ blk, r.length = 9 := by
  intro r hr
  obtain ⟨i, hi, rfl⟩ := List.getElem_of_mem hr
  exact (hs i _ _ _ (List.getElem?_eq_getElem (by omega)) (List.getElem?_eq_getElem hi) (List.getElem?_eq_getElem (by omega))).len

section
variable {m0 m : Mem} {S : List Nat} {w0 w : World}

/-- Handed over, all of it. -/
theorem OwnT.freeze {r : Re} : ∀ {cs : List Value} {L L2 : Ev.Own} {m : Mem}, OwnT r cs L → Ev.Loc m0 S w0 m (L ++ L2) w → ∃ m', Ev.Loc m0 S w0 m' L2 w ∧ Mem.Le m m' ∧ RepRe m' cs r := by
  induction r using Re.ind with
  | h k s0 s1 s2 s3 rs lo hi neg ih =>
    intro cs L L2 m h hL
    cases h with
    | mk _ _ _ _ _ _ _ _ g _ blk Ls h1 h2 h3 hr hs =>
      have h9 := rows9 h1 h2 hs
      have hL : Ev.Loc m0 S w0 m (Ls.flatten ++ ((g, .cells (toArr blk.flatten) 36 (0, 0)) :: L2)) w := hL.perm (List.perm_middle.symm)
      have key : ∀ (j : Nat) (m : Mem), j ≤ rs.length → Ev.Loc m0 S w0 m ((Ls.drop (rs.length - j)).flatten ++ ((g, .cells (toArr blk.flatten) 36 (0, 0)) :: L2)) w →
          ∃ m', Ev.Loc m0 S w0 m' ((g, .cells (toArr blk.flatten) 36 (0, 0)) :: L2) w ∧ Mem.Le m m' ∧ ∀ (i : Nat) (x : Re), rs.length - j ≤ i → rs[i]? = some x → ∃ cs, blk[i]? = some cs ∧ RepRe m' cs x := by
        intro j
        induction j with
        | zero =>
          intro m hj hL
          rw [Nat.sub_zero, ← h2, List.drop_length] at hL
          exact ⟨m, hL, Mem.Le.refl m, fun i x hi hx => absurd (List.getElem?_eq_some_iff.1 hx).1 (by omega)⟩
        | succ j ihj =>
          intro m hj hL
          have hlt : rs.length - (j + 1) < Ls.length := by omega
          rw [List.drop_eq_getElem_cons hlt, List.flatten_cons, List.append_assoc, show rs.length - (j + 1) + 1 = rs.length - j by omega] at hL
          have hx0 := List.getElem?_eq_getElem (l := rs) (i := rs.length - (j + 1)) (by omega)
          have hb0 := List.getElem?_eq_getElem (l := blk) (i := rs.length - (j + 1)) (by omega)
          obtain ⟨m1, hL1, hm1, hrep⟩ := ih _ (List.getElem_mem _) (hs _ _ _ _ hx0 hb0 (List.getElem?_eq_getElem hlt)) hL
          obtain ⟨m2, hL2, hm2, hall⟩ := ihj m1 (by omega) hL1
          refine ⟨m2, hL2, hm1.trans hm2, fun i x hi hx => ?_⟩
          by_cases e : i = rs.length - (j + 1)
          · subst e
            rw [hx0] at hx; cases hx
            exact ⟨_, hb0, hrep.le hm2⟩
          · exact hall i x (by omega) hx
      obtain ⟨m1, hL1, hm1, hall⟩ := key rs.length m (Nat.le_refl _) (by rw [Nat.sub_self, List.drop_zero]; exact hL)
      obtain ⟨m2, hL2, hm2, hsl⟩ := rows_freeze (L := L2) (R := RepRe m1) hL1 rfl (Nat.le_refl _) h3 h9 fun i x hx => hall i x (by omega) hx
      exact ⟨m2, hL2, hm1.trans hm2, RepRe.shut (hsl.le (Mem.Le.refl m2) fun cs x _ hx => hx.le hm2) hr⟩
end

theorem flat_pick {Ls : List Ev.Own} {j : Nat} {L1 : Ev.Own} (h : Ls[j]? = some L1) : Ls.flatten.Perm (L1 ++ (Ls.eraseIdx j).flatten) := by
  induction Ls generalizing j with
  | nil => simp at h
  | cons L Ls ih =>
    cases j with
    | zero => simp at h; subst h; exact List.Perm.refl _
    | succ j =>
      simp only [List.getElem?_cons_succ] at h
      simp only [List.flatten_cons, List.eraseIdx_cons_succ]
      exact ((List.Perm.append_left L (ih h)).trans (by rw [← List.append_assoc, ← List.append_assoc]; exact List.Perm.append_right _ List.perm_append_comm))
theorem flat_put {Ls : List Ev.Own} {j : Nat} {L1 L2 : Ev.Own} (h : Ls[j]? = some L1) : (Ls.set j L2).flatten.Perm (L2 ++ (Ls.eraseIdx j).flatten) := by
  have hj : j < Ls.length := (List.getElem?_eq_some_iff.1 h).1
  have := flat_pick (Ls := Ls.set j L2) (j := j) (L1 := L2) (List.getElem?_set_self hj)
  rw [List.eraseIdx_set_eq] at this
  exact this

set_option maxHeartbeats 1000000 in
theorem cloneT_fn (r : Re) : ∀ (m : Mem) (cs : List Value), RepRe m cs r → Small r → Ev.Fn Tryz.prog 47 [.agg (toArr cs)] m [] fun _ L' u => ∃ cs', u = .agg (toArr cs') ∧ OwnT r cs' L' := by
  induction r using Re.ind with
  | h kd s0 s1 s2 s3 rs lo hi neg ih =>
    intro m cs h hsm
    obtain ⟨A, n, c, rfl, hs, hrng⟩ := h.open
    obtain ⟨hn, hc, hm⟩ := hs.lens
    have hmx : maxLen = 9223372036854775807 := rfl
    have he := hs.elem
    have hsub : rs.length ≤ 2000 ∧ ∀ p ∈ rs, Small p := by cases hsm; exact ⟨by assumption, by assumption⟩
    refine Fn.enter (N := 27) hX Tryz.func47 rfl rfl (by show _ ≤ _; simp) (fun w0 hL => ?_)
    conv => whnf
    refine NewReq.mk hL ?_
    clear hL
    intro b1 w hL
    conv => whnf
    refine NewReq.mk hL ?_
    clear hL
    intro b2 w hL
    conv => whnf
    conv => whnf
    repeat ((first | refine zT ?_ | refine zF ?_ | refine zL hX hL ?_ | refine zB hX hL ?_ | (refine zS hX hL ?_; clear hL; intro w hL) | refine zI ?_ | refine zG hX ?_ | refine zO ?_); conv => whnf)
    refine RunReq.make hX rfl rfl rfl rfl n n rfl rfl (Nat.le_refl _) (by omega) rfl hL ?_
    clear hL
    intro g w hL
    rw [zeros_rows] at hL
    conv => whnf
    repeat ((first | refine zT ?_ | refine zF ?_ | refine zL hX hL ?_ | refine zB hX hL ?_ | (refine zS hX hL ?_; clear hL; intro w hL) | refine zI ?_ | refine zG hX ?_ | refine zO ?_); conv => whnf)
    refine LoopReq.inv hX (fun j : Nat => [(13, .int .i64 j)]) [1, 2, 3, 11, 12]
      (fun j w => j ≤ n ∧ ∃ m1 blk Ls, Mem.Le m m1 ∧ List.length blk = n ∧ List.length Ls = j ∧ (∀ r ∈ blk, r.length = 9) ∧ (∀ (i : Nat) (r : Re) (cs : List Value) (L : Ev.Own), rs[i]? = some r → blk[i]? = some cs → Ls[i]? = some L → OwnT r cs L) ∧
        Ev.Loc m [] w0 m1 ((g, .cells (toArr (List.flatten blk)) 36 (0, 0)) :: (b2, .cells (toArr (reC 0 0 0 0 0 (.slice none 0 0) 0 0 false)) 36 (0, 0)) :: (b1, .cells (toArr (reC kd s0 s1 s2 s3 (.slice A n c) lo hi neg)) 36 (0, 0)) :: List.flatten Ls) w) (fun j => n - j) 0
      ⟨by omega, m, List.replicate n (reC 0 0 0 0 0 (.slice none 0 0) 0 0 false), [], Mem.Le.refl m, by simp, rfl, by intro r hr; rw [(List.mem_replicate.1 hr).2]; rfl, fun i r cs L _ _ h => by simp at h, hL⟩ ⟨rfl, trivial⟩ ?_
    clear hL
    rintro j w f ⟨hj, m1, blk, Ls, hm1, hbl, hLs, hrows, hdone, hL⟩
    conv => whnf
    repeat ((first | refine zT ?_ | refine zF ?_ | refine zL hX hL ?_ | refine zB hX hL ?_ | (refine zS hX hL ?_; clear hL; intro w hL) | refine zI ?_ | refine zG hX ?_ | refine zO ?_); conv => whnf)
    refine BrReq.dec (fun hlt => ?_) (fun hlt => ?_)
    · have hlt' : j < rs.length := by omega
      obtain ⟨a, cs', rfl, hl9, hcells, hrep⟩ := he j _ (List.getElem?_eq_getElem hlt')
      obtain ⟨k1, u0, u1, u2, u3, A1, n1, c1, lo1, hi1, neg1, rfl⟩ := hrep.form
      conv => whnf
      repeat ((first | refine Idx2Req.mk j a rfl (by omega) rfl ?_ | refine LdReq.agg hX rfl rfl hL hl9 (hcells.le hm1) ?_ | refine zT ?_ | refine zF ?_ | refine zL hX hL ?_ | refine zB hX hL ?_ | (refine zS hX hL ?_; clear hL; intro w hL) | refine zI ?_ | refine zG hX ?_ | refine zO ?_); conv => whnf)
      refine NewReq.mk hL ?_
      clear hL
      intro b5 w hL
      conv => whnf
      conv => whnf
      repeat ((first | refine zT ?_ | refine zF ?_ | refine zL hX hL ?_ | refine zB hX hL ?_ | (refine zS hX hL ?_; clear hL; intro w hL) | refine zI ?_ | refine zG hX ?_ | refine zO ?_); conv => whnf)
      refine CallReq.mk (L1 := []) (ih _ (List.getElem_mem hlt') m1 _ (hrep.le hm1) (hsub.2 _ (List.getElem_mem hlt'))) hL ?_
      clear hL
      rintro v m2 L1 w hL hm2 ⟨cs3, rfl, ho⟩
      obtain ⟨k3, v0, v1, v2, v3, g3, n3, lo3, hi3, neg3, rfl⟩ := ho.form
      replace hL : Ev.Loc m [] w0 m2 ((b5, .cells (toArr (reC k1 u0 u1 u2 u3 (.slice A1 n1 c1) lo1 hi1 neg1)) 36 (0, 0)) :: (g, .cells (toArr (List.flatten blk)) 36 (0, 0)) :: (b2, .cells (toArr (reC 0 0 0 0 0 (.slice none 0 0) 0 0 false)) 36 (0, 0)) :: (b1, .cells (toArr (reC kd s0 s1 s2 s3 (.slice (some a) n c) lo hi neg)) 36 (0, 0)) :: (Ls ++ [L1]).flatten) w := by
        refine hL.perm ?_
        rw [List.flatten_append, List.flatten_cons, List.flatten_nil, List.append_nil]
        exact List.perm_append_comm
      conv => whnf
      repeat ((first | refine Idx2Req.mk j _ rfl (by omega) rfl ?_ | refine zT ?_ | refine zF ?_ | refine zL hX hL ?_ | refine zB hX hL ?_ | (refine zS hX hL ?_; clear hL; intro w hL) | refine zI ?_ | refine zG hX ?_ | refine zO ?_); conv => whnf)
      refine rows_store hX rfl 1 hL rfl hrows (by omega) rfl rfl ?_
      clear hL
      intro w hL
      have hL : Ev.Loc m [] w0 m2 (_ :: _ :: _ :: _ :: (Ls ++ [L1]).flatten) w := hL
      have hrows' : ∀ r ∈ blk.set j (reC k3 v0 v1 v2 v3 (.slice (some ⟨g3, 0, none⟩) n3 n3) lo3 hi3 neg3), r.length = 9 := by
        intro r hr
        rcases List.mem_or_eq_of_mem_set hr with h | rfl
        · exact hrows _ h
        · rfl
      have hdone' : ∀ (i : Nat) (r : Re) (cs : List Value) (L : Ev.Own), rs[i]? = some r → (blk.set j (reC k3 v0 v1 v2 v3 (.slice (some ⟨g3, 0, none⟩) n3 n3) lo3 hi3 neg3))[i]? = some cs → (Ls ++ [L1])[i]? = some L → OwnT r cs L := by
        intro i x cs L hx hcs hl
        by_cases e : i = j
        · subst e
          rw [List.getElem?_eq_getElem hlt'] at hx; cases hx
          rw [List.getElem?_set_self (by omega)] at hcs; cases hcs
          rw [List.getElem?_append_right (by omega), hLs, Nat.sub_self] at hl
          simp at hl; subst hl
          exact ho
        · rw [List.getElem?_set_ne (Ne.symm e)] at hcs
          have hil : i < (Ls ++ [L1]).length := (List.getElem?_eq_some_iff.1 hl).1
          rw [List.length_append, List.length_singleton] at hil
          rw [List.getElem?_append_left (by omega)] at hl
          exact hdone i x cs L hx hcs hl
      conv => whnf
      repeat ((first | refine zT ?_ | refine zF ?_ | refine zL hX hL ?_ | refine zB hX hL ?_ | (refine zS hX hL ?_; clear hL; intro w hL) | refine zI ?_ | refine zG hX ?_ | refine zO ?_); conv => whnf)
      refine ⟨j + 1, ⟨by omega, m2, _, Ls ++ [L1], hm1.trans hm2, by rw [List.length_set]; exact hbl, by rw [List.length_append, hLs]; rfl, hrows', hdone', hL.drop⟩, by first | omega | (simp only; omega) | (simp only [List.length_cons, List.length_append]; omega), ?_, ?_⟩
      · repeat (first | exact trivial | (refine And.intro (by (conv => lhs; whnf) <;> (conv => rhs; whnf) <;> (first | rfl)) ?_))
      · repeat (first | exact trivial | (refine And.intro (by (conv => lhs; whnf) <;> (conv => rhs; whnf) <;> (first | rfl)) ?_))
    conv => whnf
    repeat ((first | refine zT ?_ | refine zF ?_ | refine zL hX hL ?_ | refine zB hX hL ?_ | (refine zS hX hL ?_; clear hL; intro w hL) | refine zI ?_ | refine zG hX ?_ | refine zO ?_); conv => whnf)
    subst hn
    have hjn : j = rs.length := by omega
    refine RetReq.mk (L := (g, .cells (toArr (List.flatten blk)) 36 (0, 0)) :: Ls.flatten) (hL.sublist ?_) ⟨_, rfl, ?_⟩
    · exact List.Sublist.cons_cons _ (List.Sublist.cons _ (List.Sublist.cons _ (List.Sublist.refl _)))
    · exact .mk kd s0 s1 s2 s3 lo hi neg g rs blk Ls hbl (by omega) (by omega) hrng hdone

end Go.Proofs.YtemdkfohlppckaaGreatDoor.tree
