/- The parser's or and and. Conditions: none. -/
import Derived.Test.YtemdkfohlppckaaGreatDoorPaWalk

namespace Go.Proofs.YtemdkfohlppckaaGreatDoor.pa
open Go Go.Ev Go.Proofs Go.Proofs.YtemdkfohlppckaaGreatDoor.lx Go.Proofs.YtemdkfohlppckaaGreatDoor.tree

theorem kind_ne {s : PS} (h : kindP s ≠ 0) : s.l ≠ [] ∧ s.e = 0 := by
  unfold kindP at h
  by_cases he : s.e = 0
  · rw [if_neg (by simp [he])] at h
    refine ⟨fun hl => ?_, he⟩
    rw [hl] at h; exact h rfl
  · rw [if_pos he] at h; exact absurd rfl h

def zRe : List Value := reC 0 0 0 0 0 (.slice none 0 0) 0 0 false

set_option maxHeartbeats 2000000 in
theorem alt_ok {fin : Nat} {defs : List (List UInt8 × Re)} {k : Nat} (hK : Known fin defs (k + 1)) (hk : k + 1 ≤ 100000000) : ∀ s r s', P fin defs (k + 1) .alt s = some (r, s') → Bnd s → Ctr 20 [] fin defs s r s' := by
  intro s r s' hP hB m b sl dv hs hd
  rw [P] at hP
  obtain ⟨y, h1, h2⟩ := Option.bind_eq_some_iff.1 hP
  have ih := hK k (by omega) .both s y.1 y.2 h1 hB m b sl dv hs hd
  have kp := P_keeps fin defs k _ _ y h1
  refine Fn.enter (N := 19) hX Tryz.func20 rfl rfl (by show _ ≤ _; simp) (fun w0 hL => ?_)
  conv => whnf
  generalize keys [(b, poO sl fin dv s)] = S0 at hL ⊢
  refine NewReq.mk hL ?_
  clear hL
  intro b2 w hL
  conv => whnf
  replace hL : Ev.Loc m S0 w0 m ([(b, poO sl fin dv s)] ++ [(b2, .cells (toArr zRe) 36 (0, 0))]) w := hL.perm (List.perm_append_comm (l₁ := [_]) (l₂ := [_]))
  conv => whnf
  repeat ((first | refine zT ?_ | refine zF ?_ | refine zL hX hL ?_ | refine zB hX hL ?_ | (refine zS hX hL ?_; clear hL; intro w hL) | refine zI ?_ | refine zG hX ?_ | refine zO ?_); conv => whnf)
  refine CallReq.mk ih hL ?_
  clear hL
  rintro u m1 L' w hL hm1 ⟨cs, sl1, rfl, hr1, hs1, rfl⟩
  obtain ⟨k1, u0, u1, u2, u3, A1, n1, c1, lo1, hi1, neg1, rfl⟩ := hr1.form
  conv => whnf
  repeat ((first | refine zT ?_ | refine zF ?_ | refine zL hX hL ?_ | refine zB hX hL ?_ | (refine zS hX hL ?_; clear hL; intro w hL) | refine zI ?_ | refine zG hX ?_ | refine zO ?_); conv => whnf)
  refine NewReq.mk hL ?_
  clear hL
  intro g w hL
  conv => whnf
  replace hL : Ev.Loc m S0 w0 m1 ([(g, .cells (toArr (reC k1 u0 u1 u2 u3 (.slice A1 n1 c1) lo1 hi1 neg1)) 36 (0, 0))] ++ [(b, poO sl1 fin dv y.2), (b2, .cells (toArr zRe) 36 (0, 0))]) w := hL
  conv => whnf
  repeat ((first | refine zT ?_ | refine zF ?_ | refine zL hX hL ?_ | refine zB hX hL ?_ | (refine zS hX hL ?_; clear hL; intro w hL) | refine zI ?_ | refine zG hX ?_ | refine zO ?_); conv => whnf)
  refine LoopReq.inv hX (fun t : Nat × Option Addr × Nat × Nat => [(3, .slice t.2.1 t.2.2.1 t.2.2.2)]) [0, 2]
    (fun t w => ∃ acc s1 sl1 m1 Lx, Mem.Le m m1 ∧ Rows m1 (.slice t.2.1 t.2.2.1 t.2.2.2) acc Lx ∧ Sl m1 9 isW sl1 (PS.l s1) ∧ P fin defs t.1 (.altL acc) s1 = some (r, s') ∧ t.1 ≤ k ∧ t.1 + List.length acc ≤ 100000000 ∧ Bnd s1 ∧ Ev.Loc m S0 w0 m1 (Lx ++ [(b, poO sl1 fin dv s1), (b2, .cells (toArr zRe) 36 (0, 0))]) w) (fun t => t.1) (k, some ⟨g, 0, none⟩, 1, 1)
    ⟨[y.1], y.2, sl1, m1, _, hm1, Rows.one hr1, hs1, h2, Nat.le_refl _, by simp only [List.length_singleton]; omega, hB.keeps kp, hL⟩ ⟨rfl, trivial⟩ ?_
  clear hL
  rintro ⟨j, A, n, c⟩ w e ⟨acc, s1, sl2, m2, Lx, hm2, hrow, hs2, hp, hj, hja, hB1, hL⟩
  simp only at hrow hp hj hja
  cases j with
  | zero => simp [P] at hp
  | succ j =>
  rw [P] at hp
  replace hL := hL.back
  conv => whnf
  repeat ((first | refine zT ?_ | refine zF ?_ | refine zL hX hL ?_ | refine zB hX hL ?_ | (refine zS hX hL ?_; clear hL; intro w hL) | refine zI ?_ | refine zG hX ?_ | refine zO ?_); conv => whnf)
  refine CallReq.sc (kind_fn m2 b sl2 dv fin s1 hs2) hL ?_
  clear hL
  intro w hL
  by_cases hk4 : kindP s1 = 4
  · rw [if_pos hk4] at hp
    obtain ⟨y2, g1, g2⟩ := Option.bind_eq_some_iff.1 hp
    conv => whnf
    repeat ((first | refine BrReq.yes hk4 ?_ | refine zT ?_ | refine zF ?_ | refine zL hX hL ?_ | refine zB hX hL ?_ | (refine zS hX hL ?_; clear hL; intro w hL) | refine zI ?_ | refine zG hX ?_ | refine zO ?_); conv => whnf)
    replace hL : Ev.Loc m S0 w0 m2 ([(b, poO sl2 fin dv s1)] ++ ([(b2, .cells (toArr zRe) 36 (0, 0))] ++ Lx)) w := hL
    refine CallReq.mk (next_fn m2 b sl2 dv fin s1 hs2 (kind_ne (by rw [hk4]; decide)).1) hL ?_
    clear hL
    rintro u m3 L' w hL - ⟨rfl, sl3, hs3, rfl, rfl⟩
    have hB2 := hB1.keeps (keeps_next s1)
    have ih2 := hK j (by omega) .both (nextP s1) y2.1 y2.2 g1 hB2 m3 b sl3 dv hs3 (defs_le hd hm2)
    have kp2 := P_keeps fin defs j _ _ y2 g1
    conv => whnf
    repeat ((first | refine zT ?_ | refine zF ?_ | refine zL hX hL ?_ | refine zB hX hL ?_ | (refine zS hX hL ?_; clear hL; intro w hL) | refine zI ?_ | refine zG hX ?_ | refine zO ?_); conv => whnf)
    refine CallReq.mk ih2 hL ?_
    clear hL
    rintro u m4 L' w hL hm4 ⟨cs4, sl4, rfl, hr4, hs4, rfl⟩
    obtain ⟨k5, w0', w1', w2', w3', A5, n5, c5, lo5, hi5, neg5, rfl⟩ := hr4.form
    conv => whnf
    repeat ((first | refine zT ?_ | refine zF ?_ | refine zL hX hL ?_ | refine zB hX hL ?_ | (refine zS hX hL ?_; clear hL; intro w hL) | refine zI ?_ | refine zG hX ?_ | refine zO ?_); conv => whnf)
    refine NewReq.mk hL ?_
    clear hL
    intro gq w hL
    conv => whnf
    replace hL : Ev.Loc m S0 w0 m4 ((gq, .cells (toArr (reC k5 w0' w1' w2' w3' (.slice A5 n5 c5) lo5 hi5 neg5)) 36 (0, 0)) :: ([(b, poO sl4 fin dv y2.2), (b2, .cells (toArr zRe) 36 (0, 0))] ++ Lx)) w := hL
    conv => whnf
    repeat ((first | refine zT ?_ | refine zF ?_ | refine zL hX hL ?_ | refine zB hX hL ?_ | (refine zS hX hL ?_; clear hL; intro w hL) | refine zI ?_ | refine zG hX ?_ | refine zO ?_); conv => whnf)
    refine Rows.push (hrow.le hm4) hr4 rfl (by omega) (hL.perm (List.Perm.cons _ List.perm_append_comm)) ?_
    clear hL
    intro A6 n6 c6 L6 w hrow6 hL
    conv => whnf
    repeat ((first | refine zT ?_ | refine zF ?_ | refine zL hX hL ?_ | refine zB hX hL ?_ | (refine zS hX hL ?_; clear hL; intro w hL) | refine zI ?_ | refine zG hX ?_ | refine zO ?_); conv => whnf)
    refine ⟨(j, A6, n6, c6), ⟨acc ++ [y2.1], y2.2, sl4, m4, L6, hm2.trans hm4, hrow6, hs4, g2, by simp only; omega, by simp only [List.length_append, List.length_singleton]; omega, hB2.keeps kp2, hL⟩, by first | omega | (simp only; omega) | (simp only [List.length_cons, List.length_append]; omega), ?_, ?_⟩
    · repeat (first | exact trivial | (refine And.intro (by (conv => lhs; whnf) <;> (conv => rhs; whnf) <;> (first | rfl)) ?_))
    · repeat (first | exact trivial | (refine And.intro (by (conv => lhs; whnf) <;> (conv => rhs; whnf) <;> (first | rfl)) ?_))
  · rw [if_neg hk4] at hp
    cases hp
    obtain ⟨m3, hL3, hm3, hsl⟩ := hrow.freeze (hL.back (L1 := [_, _]))
    clear hL
    have hL := hL3
    clear hL3
    conv => whnf
    repeat ((first | refine BrReq.no hk4 ?_ | refine zT ?_ | refine zF ?_ | refine zL hX hL ?_ | refine zB hX hL ?_ | (refine zS hX hL ?_; clear hL; intro w hL) | refine zI ?_ | refine zG hX ?_ | refine zO ?_); conv => whnf)
    refine CallReq.pure (joined_fn m3 4 (by simp [inI]) _ acc hsl) hL ?_
    clear hL
    rintro u m4 w hL hm4 ⟨rfl, cs4, rfl, hr4⟩
    obtain ⟨k5, w0', w1', w2', w3', A5, n5, c5, lo5, hi5, neg5, rfl⟩ := hr4.form
    conv => whnf
    repeat ((first | refine zT ?_ | refine zF ?_ | refine zL hX hL ?_ | refine zB hX hL ?_ | (refine zS hX hL ?_; clear hL; intro w hL) | refine zI ?_ | refine zG hX ?_ | refine zO ?_); conv => whnf)
    exact RetReq.mk (hL.one 0 rfl) ⟨_, sl2, rfl, hr4, hs2.le hm3 (fun _ _ _ h => h), rfl⟩

set_option maxHeartbeats 2000000 in
theorem both_ok {fin : Nat} {defs : List (List UInt8 × Re)} {k : Nat} (hK : Known fin defs (k + 1)) (hk : k + 1 ≤ 100000000) : ∀ s r s', P fin defs (k + 1) .both s = some (r, s') → Bnd s → Ctr 41 [] fin defs s r s' := by
  intro s r s' hP hB m b sl dv hs hd
  rw [P] at hP
  obtain ⟨y, h1, h2⟩ := Option.bind_eq_some_iff.1 hP
  have ih := hK k (by omega) .cat s y.1 y.2 h1 hB m b sl dv hs hd
  have kp := P_keeps fin defs k _ _ y h1
  refine Fn.enter (N := 19) hX Tryz.func41 rfl rfl (by show _ ≤ _; simp) (fun w0 hL => ?_)
  conv => whnf
  generalize keys [(b, poO sl fin dv s)] = S0 at hL ⊢
  refine NewReq.mk hL ?_
  clear hL
  intro b2 w hL
  conv => whnf
  replace hL : Ev.Loc m S0 w0 m ([(b, poO sl fin dv s)] ++ [(b2, .cells (toArr zRe) 36 (0, 0))]) w := hL.perm (List.perm_append_comm (l₁ := [_]) (l₂ := [_]))
  conv => whnf
  repeat ((first | refine zT ?_ | refine zF ?_ | refine zL hX hL ?_ | refine zB hX hL ?_ | (refine zS hX hL ?_; clear hL; intro w hL) | refine zI ?_ | refine zG hX ?_ | refine zO ?_); conv => whnf)
  refine CallReq.mk ih hL ?_
  clear hL
  rintro u m1 L' w hL hm1 ⟨cs, sl1, rfl, hr1, hs1, rfl⟩
  obtain ⟨k1, u0, u1, u2, u3, A1, n1, c1, lo1, hi1, neg1, rfl⟩ := hr1.form
  conv => whnf
  repeat ((first | refine zT ?_ | refine zF ?_ | refine zL hX hL ?_ | refine zB hX hL ?_ | (refine zS hX hL ?_; clear hL; intro w hL) | refine zI ?_ | refine zG hX ?_ | refine zO ?_); conv => whnf)
  refine NewReq.mk hL ?_
  clear hL
  intro g w hL
  conv => whnf
  replace hL : Ev.Loc m S0 w0 m1 ([(g, .cells (toArr (reC k1 u0 u1 u2 u3 (.slice A1 n1 c1) lo1 hi1 neg1)) 36 (0, 0))] ++ [(b, poO sl1 fin dv y.2), (b2, .cells (toArr zRe) 36 (0, 0))]) w := hL
  conv => whnf
  repeat ((first | refine zT ?_ | refine zF ?_ | refine zL hX hL ?_ | refine zB hX hL ?_ | (refine zS hX hL ?_; clear hL; intro w hL) | refine zI ?_ | refine zG hX ?_ | refine zO ?_); conv => whnf)
  refine LoopReq.inv hX (fun t : Nat × Option Addr × Nat × Nat => [(3, .slice t.2.1 t.2.2.1 t.2.2.2)]) [0, 2]
    (fun t w => ∃ acc s1 sl1 m1 Lx, Mem.Le m m1 ∧ Rows m1 (.slice t.2.1 t.2.2.1 t.2.2.2) acc Lx ∧ Sl m1 9 isW sl1 (PS.l s1) ∧ P fin defs t.1 (.bothL acc) s1 = some (r, s') ∧ t.1 ≤ k ∧ t.1 + List.length acc ≤ 100000000 ∧ Bnd s1 ∧ Ev.Loc m S0 w0 m1 (Lx ++ [(b, poO sl1 fin dv s1), (b2, .cells (toArr zRe) 36 (0, 0))]) w) (fun t => t.1) (k, some ⟨g, 0, none⟩, 1, 1)
    ⟨[y.1], y.2, sl1, m1, _, hm1, Rows.one hr1, hs1, h2, Nat.le_refl _, by simp only [List.length_singleton]; omega, hB.keeps kp, hL⟩ ⟨rfl, trivial⟩ ?_
  clear hL
  rintro ⟨j, A, n, c⟩ w e ⟨acc, s1, sl2, m2, Lx, hm2, hrow, hs2, hp, hj, hja, hB1, hL⟩
  simp only at hrow hp hj hja
  cases j with
  | zero => simp [P] at hp
  | succ j =>
  rw [P] at hp
  replace hL := hL.back
  conv => whnf
  repeat ((first | refine zT ?_ | refine zF ?_ | refine zL hX hL ?_ | refine zB hX hL ?_ | (refine zS hX hL ?_; clear hL; intro w hL) | refine zI ?_ | refine zG hX ?_ | refine zO ?_); conv => whnf)
  refine CallReq.sc (kind_fn m2 b sl2 dv fin s1 hs2) hL ?_
  clear hL
  intro w hL
  by_cases hk4 : kindP s1 = 5
  · rw [if_pos hk4] at hp
    obtain ⟨y2, g1, g2⟩ := Option.bind_eq_some_iff.1 hp
    conv => whnf
    repeat ((first | refine BrReq.yes hk4 ?_ | refine zT ?_ | refine zF ?_ | refine zL hX hL ?_ | refine zB hX hL ?_ | (refine zS hX hL ?_; clear hL; intro w hL) | refine zI ?_ | refine zG hX ?_ | refine zO ?_); conv => whnf)
    replace hL : Ev.Loc m S0 w0 m2 ([(b, poO sl2 fin dv s1)] ++ ([(b2, .cells (toArr zRe) 36 (0, 0))] ++ Lx)) w := hL
    refine CallReq.mk (next_fn m2 b sl2 dv fin s1 hs2 (kind_ne (by rw [hk4]; decide)).1) hL ?_
    clear hL
    rintro u m3 L' w hL - ⟨rfl, sl3, hs3, rfl, rfl⟩
    have hB2 := hB1.keeps (keeps_next s1)
    have ih2 := hK j (by omega) .cat (nextP s1) y2.1 y2.2 g1 hB2 m3 b sl3 dv hs3 (defs_le hd hm2)
    have kp2 := P_keeps fin defs j _ _ y2 g1
    conv => whnf
    repeat ((first | refine zT ?_ | refine zF ?_ | refine zL hX hL ?_ | refine zB hX hL ?_ | (refine zS hX hL ?_; clear hL; intro w hL) | refine zI ?_ | refine zG hX ?_ | refine zO ?_); conv => whnf)
    refine CallReq.mk ih2 hL ?_
    clear hL
    rintro u m4 L' w hL hm4 ⟨cs4, sl4, rfl, hr4, hs4, rfl⟩
    obtain ⟨k5, w0', w1', w2', w3', A5, n5, c5, lo5, hi5, neg5, rfl⟩ := hr4.form
    conv => whnf
    repeat ((first | refine zT ?_ | refine zF ?_ | refine zL hX hL ?_ | refine zB hX hL ?_ | (refine zS hX hL ?_; clear hL; intro w hL) | refine zI ?_ | refine zG hX ?_ | refine zO ?_); conv => whnf)
    refine NewReq.mk hL ?_
    clear hL
    intro gq w hL
    conv => whnf
    replace hL : Ev.Loc m S0 w0 m4 ((gq, .cells (toArr (reC k5 w0' w1' w2' w3' (.slice A5 n5 c5) lo5 hi5 neg5)) 36 (0, 0)) :: ([(b, poO sl4 fin dv y2.2), (b2, .cells (toArr zRe) 36 (0, 0))] ++ Lx)) w := hL
    conv => whnf
    repeat ((first | refine zT ?_ | refine zF ?_ | refine zL hX hL ?_ | refine zB hX hL ?_ | (refine zS hX hL ?_; clear hL; intro w hL) | refine zI ?_ | refine zG hX ?_ | refine zO ?_); conv => whnf)
    refine Rows.push (hrow.le hm4) hr4 rfl (by omega) (hL.perm (List.Perm.cons _ List.perm_append_comm)) ?_
    clear hL
    intro A6 n6 c6 L6 w hrow6 hL
    conv => whnf
    repeat ((first | refine zT ?_ | refine zF ?_ | refine zL hX hL ?_ | refine zB hX hL ?_ | (refine zS hX hL ?_; clear hL; intro w hL) | refine zI ?_ | refine zG hX ?_ | refine zO ?_); conv => whnf)
    refine ⟨(j, A6, n6, c6), ⟨acc ++ [y2.1], y2.2, sl4, m4, L6, hm2.trans hm4, hrow6, hs4, g2, by simp only; omega, by simp only [List.length_append, List.length_singleton]; omega, hB2.keeps kp2, hL⟩, by first | omega | (simp only; omega) | (simp only [List.length_cons, List.length_append]; omega), ?_, ?_⟩
    · repeat (first | exact trivial | (refine And.intro (by (conv => lhs; whnf) <;> (conv => rhs; whnf) <;> (first | rfl)) ?_))
    · repeat (first | exact trivial | (refine And.intro (by (conv => lhs; whnf) <;> (conv => rhs; whnf) <;> (first | rfl)) ?_))
  · rw [if_neg hk4] at hp
    cases hp
    obtain ⟨m3, hL3, hm3, hsl⟩ := hrow.freeze (hL.back (L1 := [_, _]))
    clear hL
    have hL := hL3
    clear hL3
    conv => whnf
    repeat ((first | refine BrReq.no hk4 ?_ | refine zT ?_ | refine zF ?_ | refine zL hX hL ?_ | refine zB hX hL ?_ | (refine zS hX hL ?_; clear hL; intro w hL) | refine zI ?_ | refine zG hX ?_ | refine zO ?_); conv => whnf)
    refine CallReq.pure (joined_fn m3 5 (by simp [inI]) _ acc hsl) hL ?_
    clear hL
    rintro u m4 w hL hm4 ⟨rfl, cs4, rfl, hr4⟩
    obtain ⟨k5, w0', w1', w2', w3', A5, n5, c5, lo5, hi5, neg5, rfl⟩ := hr4.form
    conv => whnf
    repeat ((first | refine zT ?_ | refine zF ?_ | refine zL hX hL ?_ | refine zB hX hL ?_ | (refine zS hX hL ?_; clear hL; intro w hL) | refine zI ?_ | refine zG hX ?_ | refine zO ?_); conv => whnf)
    exact RetReq.mk (hL.one 0 rfl) ⟨_, sl2, rfl, hr4, hs2.le hm3 (fun _ _ _ h => h), rfl⟩

set_option maxHeartbeats 2000000 in
theorem cat_ok {fin : Nat} {defs : List (List UInt8 × Re)} {k : Nat} (hK : Known fin defs (k + 1)) (hk : k + 1 ≤ 100000000) : ∀ s r s', P fin defs (k + 1) .cat s = some (r, s') → Bnd s → Ctr 69 [] fin defs s r s' := by
  intro s r s' hP hB m b sl dv hs hd
  rw [P] at hP
  refine Fn.enter (N := 34) hX Tryz.func69 rfl rfl (by show _ ≤ _; simp) (fun w0 hL => ?_)
  conv => whnf
  generalize keys [(b, poO sl fin dv s)] = S0 at hL ⊢
  refine NewReq.mk hL ?_
  clear hL
  intro b2 w hL
  conv => whnf
  replace hL : Ev.Loc m S0 w0 m ((b, poO sl fin dv s) :: [(b2, .cells (toArr zRe) 36 (0, 0))]) w := hL.perm (List.perm_append_comm (l₁ := [_]) (l₂ := [_]))
  conv => whnf
  repeat ((first | refine zT ?_ | refine zF ?_ | refine zL hX hL ?_ | refine zB hX hL ?_ | (refine zS hX hL ?_; clear hL; intro w hL) | refine zI ?_ | refine zG hX ?_ | refine zO ?_); conv => whnf)
  refine CallReq.sc (kind_fn m b sl dv fin s hs) hL ?_
  clear hL
  intro w hL
  replace hL : Ev.Loc m S0 w0 m ([] ++ [(b, poO sl fin dv s), (b2, .cells (toArr zRe) 36 (0, 0))]) w := hL
  conv => whnf
  repeat ((first | refine zT ?_ | refine zF ?_ | refine zL hX hL ?_ | refine zB hX hL ?_ | (refine zS hX hL ?_; clear hL; intro w hL) | refine zI ?_ | refine zG hX ?_ | refine zO ?_); conv => whnf)
  refine LoopReq.inv hX (fun t : Nat × Int × Option Addr × Nat × Nat => [(3, .slice t.2.2.1 t.2.2.2.1 t.2.2.2.2), (4, .int .i64 t.2.1)]) [0, 2]
    (fun t w => ∃ acc s1 sl1 m1 Lx, Mem.Le m m1 ∧ Rows m1 (.slice t.2.2.1 t.2.2.2.1 t.2.2.2.2) acc Lx ∧ Sl m1 9 isW sl1 (PS.l s1) ∧ P fin defs t.1 (.catL acc) s1 = some (r, s') ∧ t.1 ≤ k ∧ t.1 + List.length acc ≤ 100000000 ∧ Bnd s1 ∧ t.2.1 = kindP s1 ∧ Ev.Loc m S0 w0 m1 (Lx ++ [(b, poO sl1 fin dv s1), (b2, .cells (toArr zRe) 36 (0, 0))]) w) (fun t => t.1) (k, kindP s, none, 0, 0)
    ⟨[], s, sl, m, _, Mem.Le.refl m, Rows.nil m, hs, hP, Nat.le_refl _, by simp only [List.length_nil]; omega, hB, rfl, hL⟩ ⟨rfl, rfl, trivial⟩ ?_
  clear hL
  rintro ⟨j, kd, A, n, c⟩ w e ⟨acc, s1, sl2, m2, Lx, hm2, hrow, hs2, hp, hj, hja, hB1, hkd, hL⟩
  simp only at hrow hp hj hja hkd
  subst hkd
  cases j with
  | zero => simp [P] at hp
  | succ j =>
  rw [P] at hp
  replace hL := hL.back
  by_cases hgo : kindP s1 ≠ 0 ∧ kindP s1 ≠ 4 ∧ kindP s1 ≠ 5 ∧ kindP s1 ≠ 3
  · rw [if_pos hgo] at hp
    obtain ⟨y2, q1, q2⟩ := Option.bind_eq_some_iff.1 hp
    obtain ⟨n0, n4, n5, n3⟩ := hgo
    have ih2 := hK j (by omega) .no s1 y2.1 y2.2 q1 hB1 m2 b sl2 dv hs2 (defs_le hd hm2)
    have kp2 := P_keeps fin defs j _ _ y2 q1
    conv => whnf
    repeat ((first | refine BrReq.yes (fun h => n0 h) ?_ | refine BrReq.yes (fun h => n4 h) ?_ | refine BrReq.yes (fun h => n5 h) ?_ | refine BrReq.yes (fun h => n3 h) ?_ | refine zT ?_ | refine zF ?_ | refine zL hX hL ?_ | refine zB hX hL ?_ | (refine zS hX hL ?_; clear hL; intro w hL) | refine zI ?_ | refine zG hX ?_ | refine zO ?_); conv => whnf)
    replace hL : Ev.Loc m S0 w0 m2 ([(b, poO sl2 fin dv s1)] ++ ([(b2, .cells (toArr zRe) 36 (0, 0))] ++ Lx)) w := hL
    refine CallReq.mk ih2 hL ?_
    clear hL
    rintro u m4 L' w hL hm4 ⟨cs4, sl4, rfl, hr4, hs4, rfl⟩
    obtain ⟨k5, w0', w1', w2', w3', A5, n5, c5, lo5, hi5, neg5, rfl⟩ := hr4.form
    conv => whnf
    repeat ((first | refine zT ?_ | refine zF ?_ | refine zL hX hL ?_ | refine zB hX hL ?_ | (refine zS hX hL ?_; clear hL; intro w hL) | refine zI ?_ | refine zG hX ?_ | refine zO ?_); conv => whnf)
    refine NewReq.mk hL ?_
    clear hL
    intro gq w hL
    conv => whnf
    replace hL : Ev.Loc m S0 w0 m4 ((gq, .cells (toArr (reC k5 w0' w1' w2' w3' (.slice A5 n5 c5) lo5 hi5 neg5)) 36 (0, 0)) :: ([(b, poO sl4 fin dv y2.2), (b2, .cells (toArr zRe) 36 (0, 0))] ++ Lx)) w := hL
    conv => whnf
    repeat ((first | refine zT ?_ | refine zF ?_ | refine zL hX hL ?_ | refine zB hX hL ?_ | (refine zS hX hL ?_; clear hL; intro w hL) | refine zI ?_ | refine zG hX ?_ | refine zO ?_); conv => whnf)
    refine Rows.push (hrow.le hm4) hr4 rfl (by omega) (hL.perm (List.Perm.cons _ List.perm_append_comm)) ?_
    clear hL
    intro A6 n6 c6 L6 w hrow6 hL
    replace hL := hL.back
    conv => whnf
    repeat ((first | refine zT ?_ | refine zF ?_ | refine zL hX hL ?_ | refine zB hX hL ?_ | (refine zS hX hL ?_; clear hL; intro w hL) | refine zI ?_ | refine zG hX ?_ | refine zO ?_); conv => whnf)
    refine CallReq.sc (kind_fn m4 b sl4 dv fin y2.2 hs4) hL ?_
    clear hL
    intro w hL
    replace hL : Ev.Loc m S0 w0 m4 ([(b, poO sl4 fin dv y2.2), (b2, .cells (toArr zRe) 36 (0, 0))] ++ L6) w := hL
    have hL := hL.back
    conv => whnf
    repeat ((first | refine zT ?_ | refine zF ?_ | refine zL hX hL ?_ | refine zB hX hL ?_ | (refine zS hX hL ?_; clear hL; intro w hL) | refine zI ?_ | refine zG hX ?_ | refine zO ?_); conv => whnf)
    refine ⟨(j, kindP y2.2, A6, n6, c6), ⟨acc ++ [y2.1], y2.2, sl4, m4, L6, hm2.trans hm4, hrow6, hs4, q2, by simp only; omega, by simp only [List.length_append, List.length_singleton]; omega, hB1.keeps kp2, rfl, hL⟩, by first | omega | (simp only; omega) | (simp only [List.length_cons, List.length_append]; omega), ?_, ?_⟩
    · repeat (first | exact trivial | (refine And.intro (by (conv => lhs; whnf) <;> (conv => rhs; whnf) <;> (first | rfl)) ?_))
    · repeat (first | exact trivial | (refine And.intro (by (conv => lhs; whnf) <;> (conv => rhs; whnf) <;> (first | rfl)) ?_))
  · rw [if_neg hgo] at hp
    cases hp
    obtain ⟨A', n', c', ea, hn'⟩ := hrow.slice
    cases ea
    obtain ⟨m3, hL3, hm3, hsl⟩ := hrow.freeze (hL.back (L1 := [_, _]))
    clear hL
    have hL := hL3
    clear hL3
    by_cases n0 : kindP s' ≠ 0
    · by_cases n4 : kindP s' ≠ 4
      · by_cases n5 : kindP s' ≠ 5
        · have kk : kindP s' = 3 := by omega
          by_cases hacc : acc = []
          · subst hacc
            rw [if_pos rfl]
            simp only [List.length_nil] at hn'
            conv => whnf
            repeat ((first | refine BrReq.yes (fun h => n0 h) ?_ | refine BrReq.yes (fun h => n4 h) ?_ | refine BrReq.yes (fun h => n5 h) ?_ | refine BrReq.no (fun h => h kk) ?_ | (refine BrReq.yes (by simp only; omega) ?_) | refine zT ?_ | refine zF ?_ | refine zL hX hL ?_ | refine zB hX hL ?_ | (refine zS hX hL ?_; clear hL; intro w hL) | refine zI ?_ | refine zG hX ?_ | refine zO ?_); conv => whnf)
            exact RetReq.mk (hL.one 0 rfl) ⟨reC 1 0 0 0 0 (.slice none 0 0) 0 0 false, sl2, rfl, leaf_rep m3 1 (by simp [inI]), hs2.le hm3 (fun _ _ _ h => h), rfl⟩
          · rw [if_neg hacc]
            have hpos := List.length_pos_iff.2 hacc
            conv => whnf
            repeat ((first | refine BrReq.yes (fun h => n0 h) ?_ | refine BrReq.yes (fun h => n4 h) ?_ | refine BrReq.yes (fun h => n5 h) ?_ | refine BrReq.no (fun h => h kk) ?_ | (refine BrReq.no (by simp only; omega) ?_) | refine zT ?_ | refine zF ?_ | refine zL hX hL ?_ | refine zB hX hL ?_ | (refine zS hX hL ?_; clear hL; intro w hL) | refine zI ?_ | refine zG hX ?_ | refine zO ?_); conv => whnf)
            refine CallReq.pure (joined_fn m3 3 (by simp [inI]) _ acc hsl) hL ?_
            clear hL
            rintro u m4 w hL hm4 ⟨rfl, cs4, rfl, hr4⟩
            obtain ⟨k5, w0', w1', w2', w3', A5, n5', c5, lo5, hi5, neg5, rfl⟩ := hr4.form
            conv => whnf
            repeat ((first | refine zT ?_ | refine zF ?_ | refine zL hX hL ?_ | refine zB hX hL ?_ | (refine zS hX hL ?_; clear hL; intro w hL) | refine zI ?_ | refine zG hX ?_ | refine zO ?_); conv => whnf)
            exact RetReq.mk (hL.one 0 rfl) ⟨_, sl2, rfl, hr4, hs2.le hm3 (fun _ _ _ h => h), rfl⟩
        · have kk : kindP s' = 5 := by omega
          clear n5
          by_cases hacc : acc = []
          · subst hacc
            rw [if_pos rfl]
            simp only [List.length_nil] at hn'
            conv => whnf
            repeat ((first | refine BrReq.yes (fun h => n0 h) ?_ | refine BrReq.yes (fun h => n4 h) ?_ | refine BrReq.yes (fun h => n5 h) ?_ | refine BrReq.no (fun h => h kk) ?_ | (refine BrReq.yes (by simp only; omega) ?_) | refine zT ?_ | refine zF ?_ | refine zL hX hL ?_ | refine zB hX hL ?_ | (refine zS hX hL ?_; clear hL; intro w hL) | refine zI ?_ | refine zG hX ?_ | refine zO ?_); conv => whnf)
            exact RetReq.mk (hL.one 0 rfl) ⟨reC 1 0 0 0 0 (.slice none 0 0) 0 0 false, sl2, rfl, leaf_rep m3 1 (by simp [inI]), hs2.le hm3 (fun _ _ _ h => h), rfl⟩
          · rw [if_neg hacc]
            have hpos := List.length_pos_iff.2 hacc
            conv => whnf
            repeat ((first | refine BrReq.yes (fun h => n0 h) ?_ | refine BrReq.yes (fun h => n4 h) ?_ | refine BrReq.yes (fun h => n5 h) ?_ | refine BrReq.no (fun h => h kk) ?_ | (refine BrReq.no (by simp only; omega) ?_) | refine zT ?_ | refine zF ?_ | refine zL hX hL ?_ | refine zB hX hL ?_ | (refine zS hX hL ?_; clear hL; intro w hL) | refine zI ?_ | refine zG hX ?_ | refine zO ?_); conv => whnf)
            refine CallReq.pure (joined_fn m3 3 (by simp [inI]) _ acc hsl) hL ?_
            clear hL
            rintro u m4 w hL hm4 ⟨rfl, cs4, rfl, hr4⟩
            obtain ⟨k5, w0', w1', w2', w3', A5, n5', c5, lo5, hi5, neg5, rfl⟩ := hr4.form
            conv => whnf
            repeat ((first | refine zT ?_ | refine zF ?_ | refine zL hX hL ?_ | refine zB hX hL ?_ | (refine zS hX hL ?_; clear hL; intro w hL) | refine zI ?_ | refine zG hX ?_ | refine zO ?_); conv => whnf)
            exact RetReq.mk (hL.one 0 rfl) ⟨_, sl2, rfl, hr4, hs2.le hm3 (fun _ _ _ h => h), rfl⟩
      · have kk : kindP s' = 4 := by omega
        clear n4
        by_cases hacc : acc = []
        · subst hacc
          rw [if_pos rfl]
          simp only [List.length_nil] at hn'
          conv => whnf
          repeat ((first | refine BrReq.yes (fun h => n0 h) ?_ | refine BrReq.yes (fun h => n4 h) ?_ | refine BrReq.yes (fun h => n5 h) ?_ | refine BrReq.no (fun h => h kk) ?_ | (refine BrReq.yes (by simp only; omega) ?_) | refine zT ?_ | refine zF ?_ | refine zL hX hL ?_ | refine zB hX hL ?_ | (refine zS hX hL ?_; clear hL; intro w hL) | refine zI ?_ | refine zG hX ?_ | refine zO ?_); conv => whnf)
          exact RetReq.mk (hL.one 0 rfl) ⟨reC 1 0 0 0 0 (.slice none 0 0) 0 0 false, sl2, rfl, leaf_rep m3 1 (by simp [inI]), hs2.le hm3 (fun _ _ _ h => h), rfl⟩
        · rw [if_neg hacc]
          have hpos := List.length_pos_iff.2 hacc
          conv => whnf
          repeat ((first | refine BrReq.yes (fun h => n0 h) ?_ | refine BrReq.yes (fun h => n4 h) ?_ | refine BrReq.yes (fun h => n5 h) ?_ | refine BrReq.no (fun h => h kk) ?_ | (refine BrReq.no (by simp only; omega) ?_) | refine zT ?_ | refine zF ?_ | refine zL hX hL ?_ | refine zB hX hL ?_ | (refine zS hX hL ?_; clear hL; intro w hL) | refine zI ?_ | refine zG hX ?_ | refine zO ?_); conv => whnf)
          refine CallReq.pure (joined_fn m3 3 (by simp [inI]) _ acc hsl) hL ?_
          clear hL
          rintro u m4 w hL hm4 ⟨rfl, cs4, rfl, hr4⟩
          obtain ⟨k5, w0', w1', w2', w3', A5, n5', c5, lo5, hi5, neg5, rfl⟩ := hr4.form
          conv => whnf
          repeat ((first | refine zT ?_ | refine zF ?_ | refine zL hX hL ?_ | refine zB hX hL ?_ | (refine zS hX hL ?_; clear hL; intro w hL) | refine zI ?_ | refine zG hX ?_ | refine zO ?_); conv => whnf)
          exact RetReq.mk (hL.one 0 rfl) ⟨_, sl2, rfl, hr4, hs2.le hm3 (fun _ _ _ h => h), rfl⟩
    · have kk : kindP s' = 0 := by omega
      clear n0
      by_cases hacc : acc = []
      · subst hacc
        rw [if_pos rfl]
        simp only [List.length_nil] at hn'
        conv => whnf
        repeat ((first | refine BrReq.yes (fun h => n0 h) ?_ | refine BrReq.yes (fun h => n4 h) ?_ | refine BrReq.yes (fun h => n5 h) ?_ | refine BrReq.no (fun h => h kk) ?_ | (refine BrReq.yes (by simp only; omega) ?_) | refine zT ?_ | refine zF ?_ | refine zL hX hL ?_ | refine zB hX hL ?_ | (refine zS hX hL ?_; clear hL; intro w hL) | refine zI ?_ | refine zG hX ?_ | refine zO ?_); conv => whnf)
        exact RetReq.mk (hL.one 0 rfl) ⟨reC 1 0 0 0 0 (.slice none 0 0) 0 0 false, sl2, rfl, leaf_rep m3 1 (by simp [inI]), hs2.le hm3 (fun _ _ _ h => h), rfl⟩
      · rw [if_neg hacc]
        have hpos := List.length_pos_iff.2 hacc
        conv => whnf
        repeat ((first | refine BrReq.yes (fun h => n0 h) ?_ | refine BrReq.yes (fun h => n4 h) ?_ | refine BrReq.yes (fun h => n5 h) ?_ | refine BrReq.no (fun h => h kk) ?_ | (refine BrReq.no (by simp only; omega) ?_) | refine zT ?_ | refine zF ?_ | refine zL hX hL ?_ | refine zB hX hL ?_ | (refine zS hX hL ?_; clear hL; intro w hL) | refine zI ?_ | refine zG hX ?_ | refine zO ?_); conv => whnf)
        refine CallReq.pure (joined_fn m3 3 (by simp [inI]) _ acc hsl) hL ?_
        clear hL
        rintro u m4 w hL hm4 ⟨rfl, cs4, rfl, hr4⟩
        obtain ⟨k5, w0', w1', w2', w3', A5, n5', c5, lo5, hi5, neg5, rfl⟩ := hr4.form
        conv => whnf
        repeat ((first | refine zT ?_ | refine zF ?_ | refine zL hX hL ?_ | refine zB hX hL ?_ | (refine zS hX hL ?_; clear hL; intro w hL) | refine zI ?_ | refine zG hX ?_ | refine zO ?_); conv => whnf)
        exact RetReq.mk (hL.one 0 rfl) ⟨_, sl2, rfl, hr4, hs2.le hm3 (fun _ _ _ h => h), rfl⟩
end Go.Proofs.YtemdkfohlppckaaGreatDoor.pa
