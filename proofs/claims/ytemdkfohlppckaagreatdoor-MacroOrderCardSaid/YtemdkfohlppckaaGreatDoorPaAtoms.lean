/- The parser's not, post, inner and atom. Conditions: none. -/
import Derived.Test.YtemdkfohlppckaaGreatDoorPaAlts

namespace Go.Proofs.YtemdkfohlppckaaGreatDoor.pa
open Go Go.Ev Go.Proofs Go.Proofs.YtemdkfohlppckaaGreatDoor.lx Go.Proofs.YtemdkfohlppckaaGreatDoor.tree

theorem kind_head {s : PS} (h : kindP s ≠ 0) : s.l = headW s :: (nextP s).l ∧ (headW s).2.kind = kindP s := by
  obtain ⟨hne, he⟩ := kind_ne h
  obtain ⟨l, dp, at_, e⟩ := s
  simp only at hne he
  cases l with
  | nil => exact absurd rfl hne
  | cons x l =>
    refine ⟨rfl, ?_⟩
    unfold kindP
    rw [if_neg (by simp [he])]; rfl
theorem one_sl {m0 m : Mem} {S : List Nat} {w0 w : World} {L2 : Ev.Own} {g : Nat} {cs : List Value} {x : Re} (hx : RepRe m cs x) (hL : Ev.Loc m0 S w0 m ((g, .cells (toArr cs) 36 (0, 0)) :: L2) w) :
    ∃ m', Ev.Loc m0 S w0 m' L2 w ∧ Mem.Le m m' ∧ Sl m' 9 (RepRe m') (.slice (some ⟨g, 0, none⟩) 1 1) [x] := Rows.freeze (Rows.one (g := g) hx) (L2 := L2) hL
theorem zeros {k lo hi : Int} (hk : inI k) (h1 : inI lo) (h2 : inI hi) : inI k ∧ inU 0 ∧ inU 0 ∧ inU 0 ∧ inU 0 ∧ inI lo ∧ inI hi := ⟨hk, by simp [inU], by simp [inU], by simp [inU], by simp [inU], h1, h2⟩

set_option maxHeartbeats 2000000 in
theorem no_ok {fin : Nat} {defs : List (List UInt8 × Re)} {k : Nat} (hK : Known fin defs (k + 1)) : ∀ s r s', P fin defs (k + 1) .no s = some (r, s') → Bnd s → Ctr 86 [] fin defs s r s' := by
  intro s r s' hP hB m b sl dv hs hd
  rw [P] at hP
  refine Fn.enter (N := 26) hX Tryz.func86 rfl rfl (by show _ ≤ _; simp) (fun w0 hL => ?_)
  conv => whnf
  generalize keys [(b, poO sl fin dv s)] = S0 at hL ⊢
  refine NewReq.mk hL ?_
  clear hL
  intro b2 w hL
  conv => whnf
  replace hL : Ev.Loc m S0 w0 m ((b, poO sl fin dv s) :: [(b2, .cells (toArr zRe) 36 (0, 0))]) w := hL.perm (List.perm_append_comm (l₁ := [_]) (l₂ := [_]))
  conv => whnf
  repeat ((first | refine zT ?_ | refine zF ?_ | refine zL hX hL ?_ | refine zB hX hL ?_ | (refine zS hX hL ?_; clear hL; intro w hL) | refine zI ?_ | refine zG hX ?_ | refine zO ?_); conv => whnf)
  refine CallReq.sc (kind_fn m b sl dv fin s hs) hL ?_
  clear hL
  intro w hL
  replace hL : Ev.Loc m S0 w0 m ([(b, poO sl fin dv s)] ++ [(b2, .cells (toArr zRe) 36 (0, 0))]) w := hL
  by_cases h6 : kindP s = 6
  · rw [if_pos h6] at hP
    obtain ⟨y, h1, h2⟩ := Option.bind_eq_some_iff.1 hP
    cases h2
    have hne := (kind_ne (s := s) (by rw [h6]; decide)).1
    obtain ⟨hB1, hdp⟩ := hB.enter hne (headW s).1
    have kp := P_keeps fin defs k _ _ y h1
    have kp2 := (keeps_in kp).2
    conv => whnf
    repeat ((first | refine BrReq.no (fun h => h h6) ?_ | refine zT ?_ | refine zF ?_ | refine zL hX hL ?_ | refine zB hX hL ?_ | (refine zS hX hL ?_; clear hL; intro w hL) | refine zI ?_ | refine zG hX ?_ | refine zO ?_); conv => whnf)
    refine CallReq.mk (next_fn m b sl dv fin s hs hne) hL ?_
    clear hL
    rintro u m1 L' w hL - ⟨rfl, sl1, hs1, rfl, rfl⟩
    replace hL : Ev.Loc m1 S0 w0 m1 ((b, poO sl1 fin dv (nextP s)) :: [(b2, .cells (toArr zRe) 36 (0, 0))]) w := hL
    conv => whnf
    repeat ((first | refine zT ?_ | refine zF ?_ | refine zL hX hL ?_ | refine zB hX hL ?_ | (refine zS hX hL ?_; clear hL; intro w hL) | refine zI ?_ | refine zG hX ?_ | refine zO ?_); conv => whnf)
    refine CallReq.sc (enter_fn m1 b sl1 dv fin (nextP s) (headW s).1 (by omega)) hL ?_
    clear hL
    intro w hL
    replace hL : Ev.Loc m1 S0 w0 m1 ([(b, poO sl1 fin dv (enterP (headW s).1 (nextP s)))] ++ [(b2, .cells (toArr zRe) 36 (0, 0))]) w := hL
    have ih := hK k (by omega) .no _ y.1 y.2 h1 hB1 m1 b sl1 dv (by rw [(enter_deep _ _).2]; exact hs1) hd
    conv => whnf
    repeat ((first | refine zT ?_ | refine zF ?_ | refine zL hX hL ?_ | refine zB hX hL ?_ | (refine zS hX hL ?_; clear hL; intro w hL) | refine zI ?_ | refine zG hX ?_ | refine zO ?_); conv => whnf)
    refine CallReq.mk ih hL ?_
    clear hL
    rintro u m4 L' w hL hm4 ⟨cs4, sl4, rfl, hr4, hs4, rfl⟩
    obtain ⟨k5, w0', w1', w2', w3', A5, n5, c5, lo5, hi5, neg5, rfl⟩ := hr4.form
    conv => whnf
    repeat ((first | refine zT ?_ | refine zF ?_ | refine zL hX hL ?_ | refine zB hX hL ?_ | (refine zS hX hL ?_; clear hL; intro w hL) | refine zI ?_ | refine zG hX ?_ | refine zO ?_); conv => whnf)
    refine NewReq.mk hL ?_
    clear hL
    intro gq w hL
    conv => whnf
    obtain ⟨m5, hL5, hm5, hsl⟩ := one_sl hr4 hL
    clear hL
    have hL := hL5
    clear hL5
    conv => whnf
    repeat ((first | refine zT ?_ | refine zF ?_ | refine zL hX hL ?_ | refine zB hX hL ?_ | (refine zS hX hL ?_; clear hL; intro w hL) | refine zI ?_ | refine zG hX ?_ | refine zO ?_); conv => whnf)
    refine NewReq.mk hL ?_
    clear hL
    intro b3 w hL
    conv => whnf
    replace hL : Ev.Loc m1 S0 w0 m5 [(b3, .cells (toArr zRe) 36 (0, 0)), (b, .cells (toArr [sl4, .int .i64 fin, dv, .int .i64 (y.2.deep : Nat), .int .i64 y.2.at_, .int .i64 y.2.e]) 61 (0, 0)), (b2, .cells (toArr zRe) 36 (0, 0))] w := hL
    have hdp1 : y.2.deep ≤ 2000000 := by rw [kp2]; omega
    conv => whnf
    repeat ((first | refine zT ?_ | refine zF ?_ | refine zL hX hL ?_ | refine zB hX hL ?_ | (refine zS hX hL ?_; clear hL; intro w hL) | refine zI ?_ | refine zG hX ?_ | refine zO ?_); conv => whnf)
    have e1 : ((y.2.deep : Nat) : Int) - 1 = ((y.2.deep - 1 : Nat) : Int) := by omega
    rw [e1] at hL
    exact RetReq.mk (hL.one 1 rfl) ⟨reC 6 0 0 0 0 (.slice (some ⟨gq, 0, none⟩) 1 1) 0 0 false, sl4, rfl, RepRe.shut hsl (zeros (by simp [inI]) (by simp [inI]) (by simp [inI])), hs4.le hm5 (fun _ _ _ h => h), rfl⟩
  · rw [if_neg h6] at hP
    have ih := hK k (by omega) .post s r s' hP hB m b sl dv hs hd
    conv => whnf
    repeat ((first | refine BrReq.yes (fun h => h6 h) ?_ | refine zT ?_ | refine zF ?_ | refine zL hX hL ?_ | refine zB hX hL ?_ | (refine zS hX hL ?_; clear hL; intro w hL) | refine zI ?_ | refine zG hX ?_ | refine zO ?_); conv => whnf)
    refine CallReq.mk ih hL ?_
    clear hL
    rintro u m4 L' w hL hm4 ⟨cs4, sl4, rfl, hr4, hs4, rfl⟩
    obtain ⟨k5, w0', w1', w2', w3', A5, n5, c5, lo5, hi5, neg5, rfl⟩ := hr4.form
    conv => whnf
    repeat ((first | refine zT ?_ | refine zF ?_ | refine zL hX hL ?_ | refine zB hX hL ?_ | (refine zS hX hL ?_; clear hL; intro w hL) | refine zI ?_ | refine zG hX ?_ | refine zO ?_); conv => whnf)
    exact RetReq.mk (hL.one 0 rfl) ⟨_, sl4, rfl, hr4, hs4, rfl⟩

set_option maxHeartbeats 2000000 in
theorem inner_ok {fin : Nat} {defs : List (List UInt8 × Re)} {k : Nat} (hK : Known fin defs (k + 1)) : ∀ n s r s', P fin defs (k + 1) (.inner n) s = some (r, s') → BndT (.inner n) s → Ctr 105 [.int .i64 n] fin defs s r s' := by
  intro n s r s' hP hB m b sl dv hs hd
  replace hB : Bnd { s with deep := s.deep + 1 } := hB
  have hB1 : Bnd (enterP n s) := by
    have h0 := enter_deep n s
    exact ⟨by rw [h0.1, h0.2]; exact hB.1, fun x hx => by rw [h0.2] at hx; exact hB.2 x hx⟩
  have hdp : s.deep ≤ 1000000 := by have := hB.1; simp only at this; omega
  rw [P] at hP
  obtain ⟨y, h1, h2⟩ := Option.bind_eq_some_iff.1 hP
  have kp := P_keeps fin defs k _ _ y h1
  have kp2 := (keeps_in kp).2
  have ih := fun m sl hs hd => hK k (by omega) .alt _ y.1 y.2 h1 hB1 m b sl dv hs hd
  refine Fn.enter (N := 29) hX Tryz.func105 rfl rfl (by show _ ≤ _; simp) (fun w0 hL => ?_)
  conv => whnf
  generalize keys [(b, poO sl fin dv s)] = S0 at hL ⊢
  refine NewReq.mk hL ?_
  clear hL
  intro b4 w hL
  conv => whnf
  replace hL : Ev.Loc m S0 w0 m ((b, poO sl fin dv s) :: [(b4, .cells (toArr zRe) 36 (0, 0))]) w := hL.perm (List.perm_append_comm (l₁ := [_]) (l₂ := [_]))
  conv => whnf
  repeat ((first | refine zT ?_ | refine zF ?_ | refine zL hX hL ?_ | refine zB hX hL ?_ | (refine zS hX hL ?_; clear hL; intro w hL) | refine zI ?_ | refine zG hX ?_ | refine zO ?_); conv => whnf)
  refine CallReq.sc (enter_fn m b sl dv fin s n (by omega)) hL ?_
  clear hL
  intro w hL
  replace hL : Ev.Loc m S0 w0 m ([(b, poO sl fin dv (enterP n s))] ++ [(b4, .cells (toArr zRe) 36 (0, 0))]) w := hL
  conv => whnf
  repeat ((first | refine zT ?_ | refine zF ?_ | refine zL hX hL ?_ | refine zB hX hL ?_ | (refine zS hX hL ?_; clear hL; intro w hL) | refine zI ?_ | refine zG hX ?_ | refine zO ?_); conv => whnf)
  refine CallReq.mk (ih m sl (by rw [(enter_deep _ _).2]; exact hs) hd) hL ?_
  clear hL
  rintro u m4 L' w hL hm4 ⟨cs4, sl4, rfl, hr4, hs4, rfl⟩
  obtain ⟨k5, w0', w1', w2', w3', A5, n5, c5, lo5, hi5, neg5, rfl⟩ := hr4.form
  conv => whnf
  repeat ((first | refine zT ?_ | refine zF ?_ | refine zL hX hL ?_ | refine zB hX hL ?_ | (refine zS hX hL ?_; clear hL; intro w hL) | refine zI ?_ | refine zG hX ?_ | refine zO ?_); conv => whnf)
  refine NewReq.mk hL ?_
  clear hL
  intro b5 w hL
  conv => whnf
  replace hL : Ev.Loc m S0 w0 m4 [(b5, .cells (toArr zRe) 36 (0, 0)), (b, .cells (toArr [sl4, .int .i64 fin, dv, .int .i64 (y.2.deep : Nat), .int .i64 y.2.at_, .int .i64 y.2.e]) 61 (0, 0)), (b4, .cells (toArr zRe) 36 (0, 0))] w := hL
  have hdp1 : y.2.deep ≤ 2000000 := by rw [kp2]; omega
  conv => whnf
  repeat ((first | refine zT ?_ | refine zF ?_ | refine zL hX hL ?_ | refine zB hX hL ?_ | (refine zS hX hL ?_; clear hL; intro w hL) | refine zI ?_ | refine zG hX ?_ | refine zO ?_); conv => whnf)
  have e1 : ((y.2.deep : Nat) : Int) - 1 = ((y.2.deep - 1 : Nat) : Int) := by omega
  rw [e1] at hL
  replace hL : Ev.Loc m S0 w0 m4 ([(b5, .cells (toArr (reC k5 w0' w1' w2' w3' (.slice A5 n5 c5) lo5 hi5 neg5)) 36 (0, 0))] ++ [(b, poO sl4 fin dv (closeP y.2)), (b4, .cells (toArr zRe) 36 (0, 0))]) w := hL
  have hL := hL.back
  replace hL : Ev.Loc m S0 w0 m4 ((b, poO sl4 fin dv (closeP y.2)) :: [(b4, .cells (toArr zRe) 36 (0, 0)), (b5, .cells (toArr (reC k5 w0' w1' w2' w3' (.slice A5 n5 c5) lo5 hi5 neg5)) 36 (0, 0))]) w := hL
  have hs5 : Sl m4 9 isW sl4 (closeP y.2).l := hs4
  generalize closeP y.2 = z at h2 hL hs5
  refine CallReq.sc (kind_fn m4 b sl4 dv fin z hs5) hL ?_
  clear hL
  intro w hL
  by_cases h3 : kindP z = 3
  · rw [if_neg (fun h => h h3)] at h2
    cases h2
    conv => whnf
    repeat ((first | refine BrReq.no (fun h => h h3) ?_ | refine zT ?_ | refine zF ?_ | refine zL hX hL ?_ | refine zB hX hL ?_ | (refine zS hX hL ?_; clear hL; intro w hL) | refine zI ?_ | refine zG hX ?_ | refine zO ?_); conv => whnf)
    replace hL : Ev.Loc m S0 w0 m4 ([(b, poO sl4 fin dv z)] ++ [(b4, .cells (toArr zRe) 36 (0, 0)), (b5, .cells (toArr (reC k5 w0' w1' w2' w3' (.slice A5 n5 c5) lo5 hi5 neg5)) 36 (0, 0))]) w := hL
    refine CallReq.mk (next_fn m4 b sl4 dv fin z hs5 (kind_ne (s := z) (by rw [h3]; decide)).1) hL ?_
    clear hL
    rintro u m1 L' w hL - ⟨rfl, sl1, hs1, rfl, rfl⟩
    replace hL : Ev.Loc m S0 w0 m1 [(b, poO sl1 fin dv (nextP z)), (b4, .cells (toArr zRe) 36 (0, 0)), (b5, .cells (toArr (reC k5 w0' w1' w2' w3' (.slice A5 n5 c5) lo5 hi5 neg5)) 36 (0, 0))] w := hL
    conv => whnf
    repeat ((first | refine zT ?_ | refine zF ?_ | refine zL hX hL ?_ | refine zB hX hL ?_ | (refine zS hX hL ?_; clear hL; intro w hL) | refine zI ?_ | refine zG hX ?_ | refine zO ?_); conv => whnf)
    exact RetReq.mk (hL.one 0 rfl) ⟨_, sl1, rfl, hr4, hs1, rfl⟩
  · rw [if_pos (fun h => h3 h)] at h2
    cases h2
    conv => whnf
    repeat ((first | refine BrReq.yes (fun h => h3 h) ?_ | refine zT ?_ | refine zF ?_ | refine zL hX hL ?_ | refine zB hX hL ?_ | (refine zS hX hL ?_; clear hL; intro w hL) | refine zI ?_ | refine zG hX ?_ | refine zO ?_); conv => whnf)
    refine CallReq.sc (here_fn m4 b sl4 dv fin z hs5) hL ?_
    clear hL
    intro w hL
    conv => whnf
    repeat ((first | refine zT ?_ | refine zF ?_ | refine zL hX hL ?_ | refine zB hX hL ?_ | (refine zS hX hL ?_; clear hL; intro w hL) | refine zI ?_ | refine zG hX ?_ | refine zO ?_); conv => whnf)
    refine CallReq.sc (fail_fn m4 b sl4 dv fin z 2 (hereP fin z : Nat)) hL ?_
    clear hL
    intro w hL
    conv => whnf
    repeat ((first | refine zT ?_ | refine zF ?_ | refine zL hX hL ?_ | refine zB hX hL ?_ | (refine zS hX hL ?_; clear hL; intro w hL) | refine zI ?_ | refine zG hX ?_ | refine zO ?_); conv => whnf)
    have hfl : (failP 2 (hereP fin z : Nat) z).l = z.l := by unfold failP; split <;> rfl
    exact RetReq.mk (hL.one 0 rfl) ⟨_, sl4, rfl, hr4, by rw [hfl]; exact hs5, rfl⟩

set_option maxHeartbeats 4000000 in
theorem post_ok {fin : Nat} {defs : List (List UInt8 × Re)} {k : Nat} (hK : Known fin defs (k + 1)) : ∀ s r s', P fin defs (k + 1) .post s = some (r, s') → Bnd s → Ctr 92 [] fin defs s r s' := by
  intro s r s' hP hB m b sl dv hs hd
  rw [P] at hP
  obtain ⟨y, h1, h2⟩ := Option.bind_eq_some_iff.1 hP
  have kp := P_keeps fin defs k _ _ y h1
  have ih := hK k (by omega) .atom s y.1 y.2 h1 hB m b sl dv hs hd
  refine Fn.enter (N := 40) hX Tryz.func92 rfl rfl (by show _ ≤ _; simp) (fun w0 hL => ?_)
  conv => whnf
  generalize keys [(b, poO sl fin dv s)] = S0 at hL ⊢
  refine NewReq.mk hL ?_
  clear hL
  intro b2 w hL
  conv => whnf
  replace hL : Ev.Loc m S0 w0 m ([(b, poO sl fin dv s)] ++ [(b2, .cells (toArr zRe) 36 (0, 0))]) w := hL.perm (List.perm_append_comm (l₁ := [_]) (l₂ := [_]))
  conv => whnf
  repeat ((first | refine zT ?_ | refine zF ?_ | refine zL hX hL ?_ | refine zB hX hL ?_ | (refine zS hX hL ?_; clear hL; intro w hL) | refine zI ?_ | refine zG hX ?_ | refine zO ?_); conv => whnf)
  refine CallReq.mk ih hL ?_
  clear hL
  rintro u m1 L' w hL hm1 ⟨cs, sl1, rfl, hr1, hs1, rfl⟩
  obtain ⟨k1, u0, u1, u2, u3, A1, n1, c1, lo1, hi1, neg1, rfl⟩ := hr1.form
  conv => whnf
  repeat ((first | refine zT ?_ | refine zF ?_ | refine zL hX hL ?_ | refine zB hX hL ?_ | (refine zS hX hL ?_; clear hL; intro w hL) | refine zI ?_ | refine zG hX ?_ | refine zO ?_); conv => whnf)
  refine NewReq.mk hL ?_
  clear hL
  intro b3 w hL
  conv => whnf
  replace hL : Ev.Loc m S0 w0 m1 ([(b3, .cells (toArr zRe) 36 (0, 0))] ++ [(b, poO sl1 fin dv y.2), (b2, .cells (toArr zRe) 36 (0, 0))]) w := hL
  conv => whnf
  repeat ((first | refine zT ?_ | refine zF ?_ | refine zL hX hL ?_ | refine zB hX hL ?_ | (refine zS hX hL ?_; clear hL; intro w hL) | refine zI ?_ | refine zG hX ?_ | refine zO ?_); conv => whnf)
  have hL := hL.back (L1 := [_]) (L2 := [_, _])
  replace hL : Ev.Loc m S0 w0 m1 [(b, poO sl1 fin dv y.2), (b2, .cells (toArr zRe) 36 (0, 0)), (b3, .cells (toArr (reC k1 u0 u1 u2 u3 (.slice A1 n1 c1) lo1 hi1 neg1)) 36 (0, 0))] w := hL
  refine LoopReq.inv hX (fun _ : Nat => []) [0, 2, 3]
    (fun t w => ∃ r1 cs1 s1 sl1 m1, Mem.Le m m1 ∧ RepRe m1 cs1 r1 ∧ Sl m1 9 isW sl1 (PS.l s1) ∧ P fin defs t (.postL r1) s1 = some (r, s') ∧ t ≤ k ∧ Bnd s1 ∧ Ev.Loc m S0 w0 m1 [(b, poO sl1 fin dv s1), (b2, .cells (toArr zRe) 36 (0, 0)), (b3, .cells (toArr cs1) 36 (0, 0))] w) (fun t => t) k
    ⟨y.1, _, y.2, sl1, m1, hm1, hr1, hs1, h2, Nat.le_refl _, hB.keeps kp, hL⟩ trivial ?_
  clear hL
  rintro j w e ⟨r1, cs1, s1, sl2, m2, hm2, hr2, hs2, hp, hj, hB1, hL⟩
  cases j with
  | zero => simp [P] at hp
  | succ j =>
  rw [P] at hp
  obtain ⟨k1, u0, u1, u2, u3, A1, n1, c1, lo1, hi1, neg1, rfl⟩ := hr2.form
  conv => whnf
  repeat ((first | refine zT ?_ | refine zF ?_ | refine zL hX hL ?_ | refine zB hX hL ?_ | (refine zS hX hL ?_; clear hL; intro w hL) | refine zI ?_ | refine zG hX ?_ | refine zO ?_); conv => whnf)
  refine CallReq.sc (kind_fn m2 b sl2 dv fin s1 hs2) hL ?_
  clear hL
  intro w hL
  by_cases hk : kindP s1 = 7 ∨ kindP s1 = 8 ∨ kindP s1 = 9 ∨ kindP s1 = 10
  · rw [if_pos hk] at hp
    obtain ⟨hhd, hkd⟩ := kind_head (s := s1) (by omega)
    have hne := (kind_ne (s := s1) (by omega)).1
    have hOk := hB1.2 (headW s1) (by rw [hhd]; simp)
    by_cases k7 : kindP s1 = 7
    · have e1 : loT (headW s1).2 = 0 := by unfold loT; rw [hkd, k7]; rfl
      have e2 : hiT (headW s1).2 = -1 := by unfold hiT; rw [hkd, k7]; rfl
      rw [e1, e2] at hp
      conv => whnf
      repeat ((first | refine BrReq.yes k7 ?_ | refine zT ?_ | refine zF ?_ | refine zL hX hL ?_ | refine zB hX hL ?_ | (refine zS hX hL ?_; clear hL; intro w hL) | refine zI ?_ | refine zG hX ?_ | refine zO ?_); conv => whnf)
      refine CallReq.mk (L1 := [_]) (L2 := [_, _]) (next_fn m2 b sl2 dv fin s1 hs2 hne) hL ?_
      clear hL
      rintro u m4 L' w hL - ⟨rfl, sl3, hs3, rfl, rfl⟩
      replace hL : Ev.Loc m S0 w0 m4 [(b, poO sl3 fin dv (nextP s1)), (b2, .cells (toArr zRe) 36 (0, 0)), (b3, .cells (toArr (reC k1 u0 u1 u2 u3 (.slice A1 n1 c1) lo1 hi1 neg1)) 36 (0, 0))] w := hL
      conv => whnf
      repeat ((first | refine zT ?_ | refine zF ?_ | refine zL hX hL ?_ | refine zB hX hL ?_ | (refine zS hX hL ?_; clear hL; intro w hL) | refine zI ?_ | refine zG hX ?_ | refine zO ?_); conv => whnf)
      refine NewReq.mk hL ?_
      clear hL
      intro gq w hL
      conv => whnf
      obtain ⟨m5, hL5, hm5, hsl⟩ := one_sl hr2 hL
      clear hL
      have hL := hL5
      clear hL5
      conv => whnf
      repeat ((first | refine zT ?_ | refine zF ?_ | refine zL hX hL ?_ | refine zB hX hL ?_ | (refine zS hX hL ?_; clear hL; intro w hL) | refine zI ?_ | refine zG hX ?_ | refine zO ?_); conv => whnf)
      replace hL : Ev.Loc m S0 w0 m5 [(b, poO sl3 fin dv (nextP s1)), (b2, .cells (toArr zRe) 36 (0, 0)), (b3, .cells (toArr (reC 7 0 0 0 0 (.slice (some ⟨gq, 0, none⟩) 1 1) 0 (-1) false)) 36 (0, 0))] w := hL
      refine ⟨j, ⟨_, _, nextP s1, sl3, m5, hm2.trans hm5, RepRe.shut hsl (zeros (by simp [inI]) (by simp [inI]) (by simp [inI])), hs3.le hm5 (fun _ _ _ h => h), hp, by omega, hB1.keeps (keeps_next s1), hL⟩, by first | omega | (simp only; omega) | (simp only [List.length_cons, List.length_append]; omega), ?_, ?_⟩
      · repeat (first | exact trivial | (refine And.intro (by (conv => lhs; whnf) <;> (conv => rhs; whnf) <;> (first | rfl)) ?_))
      · repeat (first | exact trivial | (refine And.intro (by (conv => lhs; whnf) <;> (conv => rhs; whnf) <;> (first | rfl)) ?_))
    by_cases k8 : kindP s1 = 8
    · have e1 : loT (headW s1).2 = 1 := by unfold loT; rw [hkd, k8]; rfl
      have e2 : hiT (headW s1).2 = -1 := by unfold hiT; rw [hkd, k8]; rfl
      rw [e1, e2] at hp
      conv => whnf
      repeat ((first | refine BrReq.no k7 ?_ | refine BrReq.yes k8 ?_ | refine zT ?_ | refine zF ?_ | refine zL hX hL ?_ | refine zB hX hL ?_ | (refine zS hX hL ?_; clear hL; intro w hL) | refine zI ?_ | refine zG hX ?_ | refine zO ?_); conv => whnf)
      refine CallReq.mk (L1 := [_]) (L2 := [_, _]) (next_fn m2 b sl2 dv fin s1 hs2 hne) hL ?_
      clear hL
      rintro u m4 L' w hL - ⟨rfl, sl3, hs3, rfl, rfl⟩
      replace hL : Ev.Loc m S0 w0 m4 [(b, poO sl3 fin dv (nextP s1)), (b2, .cells (toArr zRe) 36 (0, 0)), (b3, .cells (toArr (reC k1 u0 u1 u2 u3 (.slice A1 n1 c1) lo1 hi1 neg1)) 36 (0, 0))] w := hL
      conv => whnf
      repeat ((first | refine zT ?_ | refine zF ?_ | refine zL hX hL ?_ | refine zB hX hL ?_ | (refine zS hX hL ?_; clear hL; intro w hL) | refine zI ?_ | refine zG hX ?_ | refine zO ?_); conv => whnf)
      refine NewReq.mk hL ?_
      clear hL
      intro gq w hL
      conv => whnf
      obtain ⟨m5, hL5, hm5, hsl⟩ := one_sl hr2 hL
      clear hL
      have hL := hL5
      clear hL5
      conv => whnf
      repeat ((first | refine zT ?_ | refine zF ?_ | refine zL hX hL ?_ | refine zB hX hL ?_ | (refine zS hX hL ?_; clear hL; intro w hL) | refine zI ?_ | refine zG hX ?_ | refine zO ?_); conv => whnf)
      replace hL : Ev.Loc m S0 w0 m5 [(b, poO sl3 fin dv (nextP s1)), (b2, .cells (toArr zRe) 36 (0, 0)), (b3, .cells (toArr (reC 7 0 0 0 0 (.slice (some ⟨gq, 0, none⟩) 1 1) 1 (-1) false)) 36 (0, 0))] w := hL
      refine ⟨j, ⟨_, _, nextP s1, sl3, m5, hm2.trans hm5, RepRe.shut hsl (zeros (by simp [inI]) (by simp [inI]) (by simp [inI])), hs3.le hm5 (fun _ _ _ h => h), hp, by omega, hB1.keeps (keeps_next s1), hL⟩, by first | omega | (simp only; omega) | (simp only [List.length_cons, List.length_append]; omega), ?_, ?_⟩
      · repeat (first | exact trivial | (refine And.intro (by (conv => lhs; whnf) <;> (conv => rhs; whnf) <;> (first | rfl)) ?_))
      · repeat (first | exact trivial | (refine And.intro (by (conv => lhs; whnf) <;> (conv => rhs; whnf) <;> (first | rfl)) ?_))
    by_cases k9 : kindP s1 = 9
    · have e1 : loT (headW s1).2 = 0 := by unfold loT; rw [hkd, k9]; rfl
      have e2 : hiT (headW s1).2 = 1 := by unfold hiT; rw [hkd, k9]; rfl
      rw [e1, e2] at hp
      conv => whnf
      repeat ((first | refine BrReq.no k7 ?_ | refine BrReq.no k8 ?_ | refine BrReq.yes k9 ?_ | refine zT ?_ | refine zF ?_ | refine zL hX hL ?_ | refine zB hX hL ?_ | (refine zS hX hL ?_; clear hL; intro w hL) | refine zI ?_ | refine zG hX ?_ | refine zO ?_); conv => whnf)
      refine CallReq.mk (L1 := [_]) (L2 := [_, _]) (next_fn m2 b sl2 dv fin s1 hs2 hne) hL ?_
      clear hL
      rintro u m4 L' w hL - ⟨rfl, sl3, hs3, rfl, rfl⟩
      replace hL : Ev.Loc m S0 w0 m4 [(b, poO sl3 fin dv (nextP s1)), (b2, .cells (toArr zRe) 36 (0, 0)), (b3, .cells (toArr (reC k1 u0 u1 u2 u3 (.slice A1 n1 c1) lo1 hi1 neg1)) 36 (0, 0))] w := hL
      conv => whnf
      repeat ((first | refine zT ?_ | refine zF ?_ | refine zL hX hL ?_ | refine zB hX hL ?_ | (refine zS hX hL ?_; clear hL; intro w hL) | refine zI ?_ | refine zG hX ?_ | refine zO ?_); conv => whnf)
      refine NewReq.mk hL ?_
      clear hL
      intro gq w hL
      conv => whnf
      obtain ⟨m5, hL5, hm5, hsl⟩ := one_sl hr2 hL
      clear hL
      have hL := hL5
      clear hL5
      conv => whnf
      repeat ((first | refine zT ?_ | refine zF ?_ | refine zL hX hL ?_ | refine zB hX hL ?_ | (refine zS hX hL ?_; clear hL; intro w hL) | refine zI ?_ | refine zG hX ?_ | refine zO ?_); conv => whnf)
      replace hL : Ev.Loc m S0 w0 m5 [(b, poO sl3 fin dv (nextP s1)), (b2, .cells (toArr zRe) 36 (0, 0)), (b3, .cells (toArr (reC 7 0 0 0 0 (.slice (some ⟨gq, 0, none⟩) 1 1) 0 1 false)) 36 (0, 0))] w := hL
      refine ⟨j, ⟨_, _, nextP s1, sl3, m5, hm2.trans hm5, RepRe.shut hsl (zeros (by simp [inI]) (by simp [inI]) (by simp [inI])), hs3.le hm5 (fun _ _ _ h => h), hp, by omega, hB1.keeps (keeps_next s1), hL⟩, by first | omega | (simp only; omega) | (simp only [List.length_cons, List.length_append]; omega), ?_, ?_⟩
      · repeat (first | exact trivial | (refine And.intro (by (conv => lhs; whnf) <;> (conv => rhs; whnf) <;> (first | rfl)) ?_))
      · repeat (first | exact trivial | (refine And.intro (by (conv => lhs; whnf) <;> (conv => rhs; whnf) <;> (first | rfl)) ?_))
    have k10 : kindP s1 = 10 := by omega
    have e1 : loT (headW s1).2 = (headW s1).2.lo := by unfold loT; rw [hkd, k10]; rfl
    have e2 : hiT (headW s1).2 = (headW s1).2.hi := by unfold hiT; rw [hkd, k10]; rfl
    rw [e1, e2] at hp
    have hs2' := hs2
    obtain ⟨A2, n2, c2, rfl, hn2, hc2, hx2, -⟩ := hs2
    obtain ⟨a, cs, ea, hl9, hcl, hw⟩ := hs2'.elem 0 (headW s1) (by rw [hhd]; rfl)
    unfold isW at hw
    subst hw
    have hn0 : 0 < n2 := by rw [hn2, hhd]; simp
    have hs2 := hs2'
    replace hL : Ev.Loc m S0 w0 m2 [(b, .cells (toArr [.slice A2 n2 c2, .int .i64 fin, dv, .int .i64 (s1.deep : Nat), .int .i64 s1.at_, .int .i64 s1.e]) 61 (0, 0)), (b2, .cells (toArr zRe) 36 (0, 0)), (b3, .cells (toArr (reC k1 u0 u1 u2 u3 (.slice A1 n1 c1) lo1 hi1 neg1)) 36 (0, 0))] w := hL
    conv => whnf
    repeat ((first | refine BrReq.no k7 ?_ | refine BrReq.no k8 ?_ | refine BrReq.no k9 ?_ | refine BrReq.yes k10 ?_ | refine zT ?_ | refine zF ?_ | refine zL hX hL ?_ | refine zB hX hL ?_ | (refine zS hX hL ?_; clear hL; intro w hL) | refine zI ?_ | refine zG hX ?_ | refine zO ?_); conv => whnf)
    refine DrawReq.plan hX (.fst 0 (.fst 1 (.fst 2 (.fst 3 (.fst 4 (.fst 5 (.fst 6 (.fst 7 (.fst 8 (.fst 9 (.fst 10 (.fst 11 (.fst 12 (.fst 13 (.fst 14 (.fst 15 (.done))))))))))))))))) [(b, .cells (toArr [.slice A2 n2 c2, .int .i64 fin, dv, .int .i64 (s1.deep : Nat), .int .i64 s1.at_, .int .i64 s1.e]) 61 (0, 0))] (by kernel_rfl) (by kernel_rfl) hL (fun h => h.one 0 rfl) ?_
    clear hL
    intro w hL
    conv => whnf
    repeat ((first | refine Idx2Req.mk 0 a rfl (by omega) ea ?_ | refine QLdReq.one hX rfl rfl (hcl 7 _ rfl) ?_ | refine QLdReq.one hX rfl rfl (hcl 8 _ rfl) ?_ | refine zQ hX ?_ | refine zR hX ?_ | refine zA ?_ | refine zT ?_ | refine zF ?_ | refine zL hX hL ?_ | refine zB hX hL ?_ | (refine zS hX hL ?_; clear hL; intro w hL) | refine zI ?_ | refine zG hX ?_ | refine zO ?_); conv => whnf)
    generalize hslv : Value.slice A2 n2 c2 = sl2 at *
    refine CallReq.mk (L1 := [_]) (L2 := [_, _]) (next_fn m2 b sl2 dv fin s1 hs2 hne) hL ?_
    clear hL
    rintro u m4 L' w hL - ⟨rfl, sl3, hs3, rfl, rfl⟩
    replace hL : Ev.Loc m S0 w0 m4 [(b, poO sl3 fin dv (nextP s1)), (b2, .cells (toArr zRe) 36 (0, 0)), (b3, .cells (toArr (reC k1 u0 u1 u2 u3 (.slice A1 n1 c1) lo1 hi1 neg1)) 36 (0, 0))] w := hL
    conv => whnf
    repeat ((first | refine zT ?_ | refine zF ?_ | refine zL hX hL ?_ | refine zB hX hL ?_ | (refine zS hX hL ?_; clear hL; intro w hL) | refine zI ?_ | refine zG hX ?_ | refine zO ?_); conv => whnf)
    refine NewReq.mk hL ?_
    clear hL
    intro gq w hL
    conv => whnf
    obtain ⟨m5, hL5, hm5, hsl⟩ := one_sl hr2 hL
    clear hL
    have hL := hL5
    clear hL5
    conv => whnf
    repeat ((first | refine zT ?_ | refine zF ?_ | refine zL hX hL ?_ | refine zB hX hL ?_ | (refine zS hX hL ?_; clear hL; intro w hL) | refine zI ?_ | refine zG hX ?_ | refine zO ?_); conv => whnf)
    replace hL : Ev.Loc m S0 w0 m5 [(b, poO sl3 fin dv (nextP s1)), (b2, .cells (toArr zRe) 36 (0, 0)), (b3, .cells (toArr (reC 7 0 0 0 0 (.slice (some ⟨gq, 0, none⟩) 1 1) (headW s1).2.lo (headW s1).2.hi false)) 36 (0, 0))] w := hL
    refine ⟨j, ⟨_, _, nextP s1, sl3, m5, hm2.trans hm5, RepRe.shut hsl (zeros (by simp [inI]) (hOk.1) (hOk.2.1)), hs3.le hm5 (fun _ _ _ h => h), hp, by omega, hB1.keeps (keeps_next s1), hL⟩, by first | omega | (simp only; omega) | (simp only [List.length_cons, List.length_append]; omega), ?_, ?_⟩
    · repeat (first | exact trivial | (refine And.intro (by (conv => lhs; whnf) <;> (conv => rhs; whnf) <;> (first | rfl)) ?_))
    · repeat (first | exact trivial | (refine And.intro (by (conv => lhs; whnf) <;> (conv => rhs; whnf) <;> (first | rfl)) ?_))
  · rw [if_neg hk] at hp
    cases hp
    conv => whnf
    repeat ((first | refine BrReq.no (by omega) ?_ | refine zT ?_ | refine zF ?_ | refine zL hX hL ?_ | refine zB hX hL ?_ | (refine zS hX hL ?_; clear hL; intro w hL) | refine zI ?_ | refine zG hX ?_ | refine zO ?_); conv => whnf)
    exact RetReq.mk (hL.one 0 rfl) ⟨_, sl2, rfl, hr2, hs2, rfl⟩
end Go.Proofs.YtemdkfohlppckaaGreatDoor.pa
