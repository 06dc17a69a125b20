/- The parser's atom; the parser as a whole. Conditions: none. -/
import Derived.Test.YtemdkfohlppckaaGreatDoorPaAtoms

namespace Go.Proofs.YtemdkfohlppckaaGreatDoor.pa
open Go Go.Ev Go.Proofs Go.Proofs.YtemdkfohlppckaaGreatDoor.lx Go.Proofs.YtemdkfohlppckaaGreatDoor.tree

theorem bytes_rep (m : Mem) (f : Nat → Nat) (h : ∀ q, f q ≤ 18446744073709551615) : RepRe m (reC 2 (f 0 : Nat) (f 1 : Nat) (f 2 : Nat) (f 3 : Nat) (.slice none 0 0) 0 0 false) (bytesR f) := by
  have hu : ∀ q, inU (f q : Nat) := fun q => by have := h q; unfold inU; omega
  exact .mk 2 _ _ _ _ 0 0 false none 0 0 [] (fun _ => []) (by simp [inI]) (hu 0) (hu 1) (hu 2) (hu 3) (by simp [inI]) (by simp [inI]) rfl (Nat.le_refl _) (Nat.zero_le _)
    (fun i hi => absurd hi (Nat.not_lt_zero _)) (fun i r h => by simp at h)

set_option maxHeartbeats 8000000 in
theorem atom_ok {fin : Nat} {defs : List (List UInt8 × Re)} {k : Nat} (hK : Known fin defs (k + 1)) : ∀ s r s', P fin defs (k + 1) .atom s = some (r, s') → Bnd s → Ctr 98 [] fin defs s r s' := by
  intro s r s' hP hB m b sl dv hs hd
  rw [P] at hP
  refine Fn.enter (N := 83) hX Tryz.func98 rfl rfl (by show _ ≤ _; simp) (fun w0 hL => ?_)
  conv => whnf
  generalize keys [(b, poO sl fin dv s)] = S0 at hL ⊢
  refine NewReq.mk hL ?_
  clear hL
  intro b2 w hL
  conv => whnf
  replace hL : Ev.Loc m S0 w0 m ((b, poO sl fin dv s) :: [(b2, .cells (toArr zRe) 36 (0, 0))]) w := hL.perm (List.perm_append_comm (l₁ := [_]) (l₂ := [_]))
  conv => whnf
  repeat ((first | refine zT ?_ | refine zF ?_ | refine zL hX hL ?_ | refine zB hX hL ?_ | (refine zS hX hL ?_; clear hL; intro w hL) | refine zI ?_ | refine zG hX ?_ | refine zO ?_); conv => whnf)
  refine CallReq.sc (kind_fn m b sl dv fin s hs) hL ?_
  clear hL
  intro w hL
  by_cases k0 : kindP s = 0
  · rw [if_pos k0] at hP
    cases hP
    conv => whnf
    repeat ((first | refine BrReq.yes k0 ?_ | refine zT ?_ | refine zF ?_ | refine zL hX hL ?_ | refine zB hX hL ?_ | (refine zS hX hL ?_; clear hL; intro w hL) | refine zI ?_ | refine zG hX ?_ | refine zO ?_); conv => whnf)
    refine CallReq.sc (here_fn m b sl dv fin s hs) hL ?_
    clear hL
    intro w hL
    conv => whnf
    repeat ((first | refine zT ?_ | refine zF ?_ | refine zL hX hL ?_ | refine zB hX hL ?_ | (refine zS hX hL ?_; clear hL; intro w hL) | refine zI ?_ | refine zG hX ?_ | refine zO ?_); conv => whnf)
    refine CallReq.sc (fail_fn m b sl dv fin s 2 (hereP fin s : Nat)) hL ?_
    clear hL
    intro w hL
    conv => whnf
    repeat ((first | refine zT ?_ | refine zF ?_ | refine zL hX hL ?_ | refine zB hX hL ?_ | (refine zS hX hL ?_; clear hL; intro w hL) | refine zI ?_ | refine zG hX ?_ | refine zO ?_); conv => whnf)
    have hfl : (failP 2 (hereP fin s : Nat) s).l = s.l := by unfold failP; split <;> rfl
    exact RetReq.mk (hL.one 0 rfl) ⟨_, sl, rfl, leaf_rep m 0 (by simp [inI]), by rw [hfl]; exact hs, rfl⟩
  rw [if_neg k0] at hP
  obtain ⟨hhd, hkd⟩ := kind_head (s := s) k0
  have hne := (kind_ne (s := s) k0).1
  have hOk := hB.2 (headW s) (by rw [hhd]; simp)
  obtain ⟨A2, n2, c2, rfl, hn2, hc2, hx2, -⟩ := id hs
  obtain ⟨a, cs, ea, hl9, hcl, hw⟩ := hs.elem 0 (headW s) (by rw [hhd]; rfl)
  unfold isW at hw
  subst hw
  have hn0 : 0 < n2 := by rw [hn2, hhd]; simp
  replace hL : Ev.Loc m S0 w0 m [(b, .cells (toArr [.slice A2 n2 c2, .int .i64 fin, dv, .int .i64 (s.deep : Nat), .int .i64 s.at_, .int .i64 s.e]) 61 (0, 0)), (b2, .cells (toArr zRe) 36 (0, 0))] w := hL
  conv => whnf
  repeat ((first | refine BrReq.no k0 ?_ | refine Idx2Req.mk 0 a rfl (by omega) ea ?_ | refine LdReq.agg hX rfl rfl hL rfl hcl ?_ | refine zT ?_ | refine zF ?_ | refine zL hX hL ?_ | refine zB hX hL ?_ | (refine zS hX hL ?_; clear hL; intro w hL) | refine zI ?_ | refine zG hX ?_ | refine zO ?_); conv => whnf)
  refine NewReq.mk hL ?_
  clear hL
  intro b4 w hL
  conv => whnf
  replace hL : Ev.Loc m S0 w0 m ([(b4, .cells (toArr (wC 0 (wK 0))) 57 (0, 0))] ++ [(b, poO (.slice A2 n2 c2) fin dv s), (b2, .cells (toArr zRe) 36 (0, 0))]) w := hL
  have hnx := next_fn m b (.slice A2 n2 c2) dv fin s hs hne
  have hB1 := hB.keeps (keeps_next s)
  have hBi : ∀ n, BndT (.inner n) (nextP s) := fun n => by
    have h1 := hB.1
    have h2 : (nextP s).l.length + 1 = s.l.length := by rw [hhd]; rfl
    have h3 : (nextP s).deep = s.deep := rfl
    exact ⟨by simp only; omega, hB1.2⟩
  generalize hslv : Value.slice A2 n2 c2 = sl at *
  clear hcl hl9 ea hn2 hc2 hx2 hslv
  conv => whnf
  repeat ((first | refine zT ?_ | refine zF ?_ | refine zL hX hL ?_ | refine zB hX hL ?_ | (refine zS hX hL ?_; clear hL; intro w hL) | refine zI ?_ | refine zG hX ?_ | refine zO ?_); conv => whnf)
  by_cases k1 : kindP s = 1
  · rw [if_pos k1] at hP
    cases hP
    conv => whnf
    repeat ((first | refine BrReq.yes k1 ?_ | refine zT ?_ | refine zF ?_ | refine zL hX hL ?_ | refine zB hX hL ?_ | (refine zS hX hL ?_; clear hL; intro w hL) | refine zI ?_ | refine zG hX ?_ | refine zO ?_); conv => whnf)
    replace hL : Ev.Loc m S0 w0 m ([(b, poO sl fin dv s)] ++ [(b2, .cells (toArr zRe) 36 (0, 0)), (b4, .cells (toArr (wC (headW s).1 (headW s).2)) 57 (0, 0))]) w := Loc.back (L1 := [_]) (L2 := [_, _]) hL
    refine CallReq.mk hnx hL ?_
    clear hL
    rintro u m1 L' w hL - ⟨rfl, sl1, hs1, rfl, rfl⟩
    replace hL : Ev.Loc m1 S0 w0 m1 [(b, poO sl1 fin dv (nextP s)), (b2, .cells (toArr zRe) 36 (0, 0)), (b4, .cells (toArr (wC (headW s).1 (headW s).2)) 57 (0, 0))] w := hL
    conv => whnf
    repeat ((first | refine zT ?_ | refine zF ?_ | refine zL hX hL ?_ | refine zB hX hL ?_ | (refine zS hX hL ?_; clear hL; intro w hL) | refine zI ?_ | refine zG hX ?_ | refine zO ?_); conv => whnf)
    exact RetReq.mk (hL.one 0 rfl) ⟨_, sl1, rfl, bytes_rep m1 (headW s).2.set hOk.2.2, hs1, rfl⟩
  rw [if_neg k1] at hP
  by_cases k2 : kindP s = 2
  · rw [if_pos k2] at hP
    conv => whnf
    repeat ((first | refine BrReq.no k1 ?_ | refine BrReq.yes k2 ?_ | refine zT ?_ | refine zF ?_ | refine zL hX hL ?_ | refine zB hX hL ?_ | (refine zS hX hL ?_; clear hL; intro w hL) | refine zI ?_ | refine zG hX ?_ | refine zO ?_); conv => whnf)
    replace hL : Ev.Loc m S0 w0 m ([(b, poO sl fin dv s)] ++ [(b2, .cells (toArr zRe) 36 (0, 0)), (b4, .cells (toArr (wC (headW s).1 (headW s).2)) 57 (0, 0))]) w := Loc.back (L1 := [_]) (L2 := [_, _]) hL
    refine CallReq.mk hnx hL ?_
    clear hL
    rintro u m1 L' w hL - ⟨rfl, sl1, hs1, rfl, rfl⟩
    replace hL : Ev.Loc m1 S0 w0 m1 [(b, poO sl1 fin dv (nextP s)), (b2, .cells (toArr zRe) 36 (0, 0)), (b4, .cells (toArr (wC (headW s).1 (headW s).2)) 57 (0, 0))] w := hL
    conv => whnf
    repeat ((first | refine zT ?_ | refine zF ?_ | refine zL hX hL ?_ | refine zB hX hL ?_ | (refine zS hX hL ?_; clear hL; intro w hL) | refine zI ?_ | refine zG hX ?_ | refine zO ?_); conv => whnf)
    have ih := hK k (by omega) (.inner (headW s).1) (nextP s) r s' hP (hBi _) m1 b sl1 dv hs1 hd
    replace hL : Ev.Loc m1 S0 w0 m1 ([(b, poO sl1 fin dv (nextP s))] ++ [(b2, .cells (toArr zRe) 36 (0, 0)), (b4, .cells (toArr (wC (headW s).1 (headW s).2)) 57 (0, 0))]) w := hL
    refine CallReq.mk ih hL ?_
    clear hL
    rintro u m4 L' w hL hm4 ⟨cs4, sl4, rfl, hr4, hs4, rfl⟩
    obtain ⟨k5, w0', w1', w2', w3', A5, n5, c5, lo5, hi5, neg5, rfl⟩ := hr4.form
    replace hL : Ev.Loc m1 S0 w0 m4 [(b, poO sl4 fin dv s'), (b2, .cells (toArr zRe) 36 (0, 0)), (b4, .cells (toArr (wC (headW s).1 (headW s).2)) 57 (0, 0))] w := hL
    conv => whnf
    repeat ((first | refine zT ?_ | refine zF ?_ | refine zL hX hL ?_ | refine zB hX hL ?_ | (refine zS hX hL ?_; clear hL; intro w hL) | refine zI ?_ | refine zG hX ?_ | refine zO ?_); conv => whnf)
    exact RetReq.mk (hL.one 0 rfl) ⟨_, sl4, rfl, hr4, hs4, rfl⟩
  rw [if_neg k2] at hP
  by_cases kl : kindP s = 12 ∨ kindP s = 13 ∨ kindP s = 14 ∨ kindP s = 15
  · rw [if_pos kl] at hP
    obtain ⟨y, h1, h2⟩ := Option.bind_eq_some_iff.1 hP
    cases h2
    clear hkd k0 k1 k2
    generalize kindP s = q at *
    rcases kl with rfl | rfl | rfl | rfl
    · conv => whnf
      repeat ((first | refine zT ?_ | refine zF ?_ | refine zL hX hL ?_ | refine zB hX hL ?_ | (refine zS hX hL ?_; clear hL; intro w hL) | refine zI ?_ | refine zG hX ?_ | refine zO ?_); conv => whnf)
      replace hL : Ev.Loc m S0 w0 m ([(b, poO sl fin dv s)] ++ [(b2, .cells (toArr zRe) 36 (0, 0)), (b4, .cells (toArr (wC (headW s).1 (headW s).2)) 57 (0, 0))]) w := Loc.back (L1 := [_]) (L2 := [_, _]) hL
      refine CallReq.mk hnx hL ?_
      clear hL
      rintro u m1 L' w hL - ⟨rfl, sl1, hs1, rfl, rfl⟩
      replace hL : Ev.Loc m1 S0 w0 m1 [(b, poO sl1 fin dv (nextP s)), (b2, .cells (toArr zRe) 36 (0, 0)), (b4, .cells (toArr (wC (headW s).1 (headW s).2)) 57 (0, 0))] w := hL
      conv => whnf
      repeat ((first | refine zT ?_ | refine zF ?_ | refine zL hX hL ?_ | refine zB hX hL ?_ | (refine zS hX hL ?_; clear hL; intro w hL) | refine zI ?_ | refine zG hX ?_ | refine zO ?_); conv => whnf)
      refine NewReq.mk hL ?_
      clear hL
      intro b5 w hL
      conv => whnf
      replace hL : Ev.Loc m1 S0 w0 m1 [(b5, .cells (toArr zRe) 36 (0, 0)), (b, poO sl1 fin dv (nextP s)), (b2, .cells (toArr zRe) 36 (0, 0)), (b4, .cells (toArr (wC (headW s).1 (headW s).2)) 57 (0, 0))] w := hL
      conv => whnf
      repeat ((first | refine zT ?_ | refine zF ?_ | refine zL hX hL ?_ | refine zB hX hL ?_ | (refine zS hX hL ?_; clear hL; intro w hL) | refine zI ?_ | refine zG hX ?_ | refine zO ?_); conv => whnf)
      have ih := hK k (by omega) (.inner (headW s).1) (nextP s) y.1 y.2 h1 (hBi _) m1 b sl1 dv hs1 hd
      replace hL : Ev.Loc m1 S0 w0 m1 ([(b5, .cells (toArr (reC 8 0 0 0 0 (.slice none 0 0) 0 0 false)) 36 (0, 0))] ++ [(b, poO sl1 fin dv (nextP s)), (b2, .cells (toArr zRe) 36 (0, 0)), (b4, .cells (toArr (wC (headW s).1 (headW s).2)) 57 (0, 0))]) w := hL
      replace hL : Ev.Loc m1 S0 w0 m1 ([(b, poO sl1 fin dv (nextP s))] ++ [(b2, .cells (toArr zRe) 36 (0, 0)), (b4, .cells (toArr (wC (headW s).1 (headW s).2)) 57 (0, 0)), (b5, .cells (toArr (reC 8 0 0 0 0 (.slice none 0 0) 0 0 false)) 36 (0, 0))]) w := Loc.back (L1 := [_]) (L2 := [_, _, _]) hL
      refine CallReq.mk ih hL ?_
      clear hL
      rintro u m4 L' w hL hm4 ⟨cs4, sl4, rfl, hr4, hs4, rfl⟩
      obtain ⟨k5, w0', w1', w2', w3', A5, n5, c5, lo5, hi5, neg5, rfl⟩ := hr4.form
      replace hL : Ev.Loc m1 S0 w0 m4 [(b, poO sl4 fin dv y.2), (b2, .cells (toArr zRe) 36 (0, 0)), (b4, .cells (toArr (wC (headW s).1 (headW s).2)) 57 (0, 0)), (b5, .cells (toArr (reC 8 0 0 0 0 (.slice none 0 0) 0 0 false)) 36 (0, 0))] w := hL
      conv => whnf
      repeat ((first | refine zT ?_ | refine zF ?_ | refine zL hX hL ?_ | refine zB hX hL ?_ | (refine zS hX hL ?_; clear hL; intro w hL) | refine zI ?_ | refine zG hX ?_ | refine zO ?_); conv => whnf)
      refine NewReq.mk hL ?_
      clear hL
      intro gq w hL
      conv => whnf
      obtain ⟨m5, hL5, hm5, hsl⟩ := one_sl hr4 hL
      clear hL
      have hL := hL5
      clear hL5
      conv => whnf
      repeat ((first | refine zT ?_ | refine zF ?_ | refine zL hX hL ?_ | refine zB hX hL ?_ | (refine zS hX hL ?_; clear hL; intro w hL) | refine zI ?_ | refine zG hX ?_ | refine zO ?_); conv => whnf)
      exact RetReq.mk (hL.one 0 rfl) ⟨reC 8 0 0 0 0 (.slice (some ⟨gq, 0, none⟩) 1 1) 0 0 false, sl4, rfl, RepRe.shut hsl (zeros (by simp [inI]) (by simp [inI]) (by simp [inI])), hs4.le hm5 (fun _ _ _ h => h), rfl⟩
    · conv => whnf
      repeat ((first | refine zT ?_ | refine zF ?_ | refine zL hX hL ?_ | refine zB hX hL ?_ | (refine zS hX hL ?_; clear hL; intro w hL) | refine zI ?_ | refine zG hX ?_ | refine zO ?_); conv => whnf)
      replace hL : Ev.Loc m S0 w0 m ([(b, poO sl fin dv s)] ++ [(b2, .cells (toArr zRe) 36 (0, 0)), (b4, .cells (toArr (wC (headW s).1 (headW s).2)) 57 (0, 0))]) w := Loc.back (L1 := [_]) (L2 := [_, _]) hL
      refine CallReq.mk hnx hL ?_
      clear hL
      rintro u m1 L' w hL - ⟨rfl, sl1, hs1, rfl, rfl⟩
      replace hL : Ev.Loc m1 S0 w0 m1 [(b, poO sl1 fin dv (nextP s)), (b2, .cells (toArr zRe) 36 (0, 0)), (b4, .cells (toArr (wC (headW s).1 (headW s).2)) 57 (0, 0))] w := hL
      conv => whnf
      repeat ((first | refine zT ?_ | refine zF ?_ | refine zL hX hL ?_ | refine zB hX hL ?_ | (refine zS hX hL ?_; clear hL; intro w hL) | refine zI ?_ | refine zG hX ?_ | refine zO ?_); conv => whnf)
      refine NewReq.mk hL ?_
      clear hL
      intro b5 w hL
      conv => whnf
      replace hL : Ev.Loc m1 S0 w0 m1 [(b5, .cells (toArr zRe) 36 (0, 0)), (b, poO sl1 fin dv (nextP s)), (b2, .cells (toArr zRe) 36 (0, 0)), (b4, .cells (toArr (wC (headW s).1 (headW s).2)) 57 (0, 0))] w := hL
      conv => whnf
      repeat ((first | refine zT ?_ | refine zF ?_ | refine zL hX hL ?_ | refine zB hX hL ?_ | (refine zS hX hL ?_; clear hL; intro w hL) | refine zI ?_ | refine zG hX ?_ | refine zO ?_); conv => whnf)
      have ih := hK k (by omega) (.inner (headW s).1) (nextP s) y.1 y.2 h1 (hBi _) m1 b sl1 dv hs1 hd
      replace hL : Ev.Loc m1 S0 w0 m1 ([(b5, .cells (toArr (reC 8 0 0 0 0 (.slice none 0 0) 0 0 true)) 36 (0, 0))] ++ [(b, poO sl1 fin dv (nextP s)), (b2, .cells (toArr zRe) 36 (0, 0)), (b4, .cells (toArr (wC (headW s).1 (headW s).2)) 57 (0, 0))]) w := hL
      replace hL : Ev.Loc m1 S0 w0 m1 ([(b, poO sl1 fin dv (nextP s))] ++ [(b2, .cells (toArr zRe) 36 (0, 0)), (b4, .cells (toArr (wC (headW s).1 (headW s).2)) 57 (0, 0)), (b5, .cells (toArr (reC 8 0 0 0 0 (.slice none 0 0) 0 0 true)) 36 (0, 0))]) w := Loc.back (L1 := [_]) (L2 := [_, _, _]) hL
      refine CallReq.mk ih hL ?_
      clear hL
      rintro u m4 L' w hL hm4 ⟨cs4, sl4, rfl, hr4, hs4, rfl⟩
      obtain ⟨k5, w0', w1', w2', w3', A5, n5, c5, lo5, hi5, neg5, rfl⟩ := hr4.form
      replace hL : Ev.Loc m1 S0 w0 m4 [(b, poO sl4 fin dv y.2), (b2, .cells (toArr zRe) 36 (0, 0)), (b4, .cells (toArr (wC (headW s).1 (headW s).2)) 57 (0, 0)), (b5, .cells (toArr (reC 8 0 0 0 0 (.slice none 0 0) 0 0 true)) 36 (0, 0))] w := hL
      conv => whnf
      repeat ((first | refine zT ?_ | refine zF ?_ | refine zL hX hL ?_ | refine zB hX hL ?_ | (refine zS hX hL ?_; clear hL; intro w hL) | refine zI ?_ | refine zG hX ?_ | refine zO ?_); conv => whnf)
      refine NewReq.mk hL ?_
      clear hL
      intro gq w hL
      conv => whnf
      obtain ⟨m5, hL5, hm5, hsl⟩ := one_sl hr4 hL
      clear hL
      have hL := hL5
      clear hL5
      conv => whnf
      repeat ((first | refine zT ?_ | refine zF ?_ | refine zL hX hL ?_ | refine zB hX hL ?_ | (refine zS hX hL ?_; clear hL; intro w hL) | refine zI ?_ | refine zG hX ?_ | refine zO ?_); conv => whnf)
      exact RetReq.mk (hL.one 0 rfl) ⟨reC 8 0 0 0 0 (.slice (some ⟨gq, 0, none⟩) 1 1) 0 0 true, sl4, rfl, RepRe.shut hsl (zeros (by simp [inI]) (by simp [inI]) (by simp [inI])), hs4.le hm5 (fun _ _ _ h => h), rfl⟩
    · conv => whnf
      repeat ((first | refine zT ?_ | refine zF ?_ | refine zL hX hL ?_ | refine zB hX hL ?_ | (refine zS hX hL ?_; clear hL; intro w hL) | refine zI ?_ | refine zG hX ?_ | refine zO ?_); conv => whnf)
      replace hL : Ev.Loc m S0 w0 m ([(b, poO sl fin dv s)] ++ [(b2, .cells (toArr zRe) 36 (0, 0)), (b4, .cells (toArr (wC (headW s).1 (headW s).2)) 57 (0, 0))]) w := Loc.back (L1 := [_]) (L2 := [_, _]) hL
      refine CallReq.mk hnx hL ?_
      clear hL
      rintro u m1 L' w hL - ⟨rfl, sl1, hs1, rfl, rfl⟩
      replace hL : Ev.Loc m1 S0 w0 m1 [(b, poO sl1 fin dv (nextP s)), (b2, .cells (toArr zRe) 36 (0, 0)), (b4, .cells (toArr (wC (headW s).1 (headW s).2)) 57 (0, 0))] w := hL
      conv => whnf
      repeat ((first | refine zT ?_ | refine zF ?_ | refine zL hX hL ?_ | refine zB hX hL ?_ | (refine zS hX hL ?_; clear hL; intro w hL) | refine zI ?_ | refine zG hX ?_ | refine zO ?_); conv => whnf)
      refine NewReq.mk hL ?_
      clear hL
      intro b5 w hL
      conv => whnf
      replace hL : Ev.Loc m1 S0 w0 m1 [(b5, .cells (toArr zRe) 36 (0, 0)), (b, poO sl1 fin dv (nextP s)), (b2, .cells (toArr zRe) 36 (0, 0)), (b4, .cells (toArr (wC (headW s).1 (headW s).2)) 57 (0, 0))] w := hL
      conv => whnf
      repeat ((first | refine zT ?_ | refine zF ?_ | refine zL hX hL ?_ | refine zB hX hL ?_ | (refine zS hX hL ?_; clear hL; intro w hL) | refine zI ?_ | refine zG hX ?_ | refine zO ?_); conv => whnf)
      have ih := hK k (by omega) (.inner (headW s).1) (nextP s) y.1 y.2 h1 (hBi _) m1 b sl1 dv hs1 hd
      replace hL : Ev.Loc m1 S0 w0 m1 ([(b5, .cells (toArr (reC 9 0 0 0 0 (.slice none 0 0) 0 0 false)) 36 (0, 0))] ++ [(b, poO sl1 fin dv (nextP s)), (b2, .cells (toArr zRe) 36 (0, 0)), (b4, .cells (toArr (wC (headW s).1 (headW s).2)) 57 (0, 0))]) w := hL
      replace hL : Ev.Loc m1 S0 w0 m1 ([(b, poO sl1 fin dv (nextP s))] ++ [(b2, .cells (toArr zRe) 36 (0, 0)), (b4, .cells (toArr (wC (headW s).1 (headW s).2)) 57 (0, 0)), (b5, .cells (toArr (reC 9 0 0 0 0 (.slice none 0 0) 0 0 false)) 36 (0, 0))]) w := Loc.back (L1 := [_]) (L2 := [_, _, _]) hL
      refine CallReq.mk ih hL ?_
      clear hL
      rintro u m4 L' w hL hm4 ⟨cs4, sl4, rfl, hr4, hs4, rfl⟩
      obtain ⟨k5, w0', w1', w2', w3', A5, n5, c5, lo5, hi5, neg5, rfl⟩ := hr4.form
      replace hL : Ev.Loc m1 S0 w0 m4 [(b, poO sl4 fin dv y.2), (b2, .cells (toArr zRe) 36 (0, 0)), (b4, .cells (toArr (wC (headW s).1 (headW s).2)) 57 (0, 0)), (b5, .cells (toArr (reC 9 0 0 0 0 (.slice none 0 0) 0 0 false)) 36 (0, 0))] w := hL
      conv => whnf
      repeat ((first | refine zT ?_ | refine zF ?_ | refine zL hX hL ?_ | refine zB hX hL ?_ | (refine zS hX hL ?_; clear hL; intro w hL) | refine zI ?_ | refine zG hX ?_ | refine zO ?_); conv => whnf)
      refine NewReq.mk hL ?_
      clear hL
      intro gq w hL
      conv => whnf
      obtain ⟨m5, hL5, hm5, hsl⟩ := one_sl hr4 hL
      clear hL
      have hL := hL5
      clear hL5
      conv => whnf
      repeat ((first | refine zT ?_ | refine zF ?_ | refine zL hX hL ?_ | refine zB hX hL ?_ | (refine zS hX hL ?_; clear hL; intro w hL) | refine zI ?_ | refine zG hX ?_ | refine zO ?_); conv => whnf)
      exact RetReq.mk (hL.one 0 rfl) ⟨reC 9 0 0 0 0 (.slice (some ⟨gq, 0, none⟩) 1 1) 0 0 false, sl4, rfl, RepRe.shut hsl (zeros (by simp [inI]) (by simp [inI]) (by simp [inI])), hs4.le hm5 (fun _ _ _ h => h), rfl⟩
    · conv => whnf
      repeat ((first | refine zT ?_ | refine zF ?_ | refine zL hX hL ?_ | refine zB hX hL ?_ | (refine zS hX hL ?_; clear hL; intro w hL) | refine zI ?_ | refine zG hX ?_ | refine zO ?_); conv => whnf)
      replace hL : Ev.Loc m S0 w0 m ([(b, poO sl fin dv s)] ++ [(b2, .cells (toArr zRe) 36 (0, 0)), (b4, .cells (toArr (wC (headW s).1 (headW s).2)) 57 (0, 0))]) w := Loc.back (L1 := [_]) (L2 := [_, _]) hL
      refine CallReq.mk hnx hL ?_
      clear hL
      rintro u m1 L' w hL - ⟨rfl, sl1, hs1, rfl, rfl⟩
      replace hL : Ev.Loc m1 S0 w0 m1 [(b, poO sl1 fin dv (nextP s)), (b2, .cells (toArr zRe) 36 (0, 0)), (b4, .cells (toArr (wC (headW s).1 (headW s).2)) 57 (0, 0))] w := hL
      conv => whnf
      repeat ((first | refine zT ?_ | refine zF ?_ | refine zL hX hL ?_ | refine zB hX hL ?_ | (refine zS hX hL ?_; clear hL; intro w hL) | refine zI ?_ | refine zG hX ?_ | refine zO ?_); conv => whnf)
      refine NewReq.mk hL ?_
      clear hL
      intro b5 w hL
      conv => whnf
      replace hL : Ev.Loc m1 S0 w0 m1 [(b5, .cells (toArr zRe) 36 (0, 0)), (b, poO sl1 fin dv (nextP s)), (b2, .cells (toArr zRe) 36 (0, 0)), (b4, .cells (toArr (wC (headW s).1 (headW s).2)) 57 (0, 0))] w := hL
      conv => whnf
      repeat ((first | refine zT ?_ | refine zF ?_ | refine zL hX hL ?_ | refine zB hX hL ?_ | (refine zS hX hL ?_; clear hL; intro w hL) | refine zI ?_ | refine zG hX ?_ | refine zO ?_); conv => whnf)
      have ih := hK k (by omega) (.inner (headW s).1) (nextP s) y.1 y.2 h1 (hBi _) m1 b sl1 dv hs1 hd
      replace hL : Ev.Loc m1 S0 w0 m1 ([(b5, .cells (toArr (reC 9 0 0 0 0 (.slice none 0 0) 0 0 true)) 36 (0, 0))] ++ [(b, poO sl1 fin dv (nextP s)), (b2, .cells (toArr zRe) 36 (0, 0)), (b4, .cells (toArr (wC (headW s).1 (headW s).2)) 57 (0, 0))]) w := hL
      replace hL : Ev.Loc m1 S0 w0 m1 ([(b, poO sl1 fin dv (nextP s))] ++ [(b2, .cells (toArr zRe) 36 (0, 0)), (b4, .cells (toArr (wC (headW s).1 (headW s).2)) 57 (0, 0)), (b5, .cells (toArr (reC 9 0 0 0 0 (.slice none 0 0) 0 0 true)) 36 (0, 0))]) w := Loc.back (L1 := [_]) (L2 := [_, _, _]) hL
      refine CallReq.mk ih hL ?_
      clear hL
      rintro u m4 L' w hL hm4 ⟨cs4, sl4, rfl, hr4, hs4, rfl⟩
      obtain ⟨k5, w0', w1', w2', w3', A5, n5, c5, lo5, hi5, neg5, rfl⟩ := hr4.form
      replace hL : Ev.Loc m1 S0 w0 m4 [(b, poO sl4 fin dv y.2), (b2, .cells (toArr zRe) 36 (0, 0)), (b4, .cells (toArr (wC (headW s).1 (headW s).2)) 57 (0, 0)), (b5, .cells (toArr (reC 9 0 0 0 0 (.slice none 0 0) 0 0 true)) 36 (0, 0))] w := hL
      conv => whnf
      repeat ((first | refine zT ?_ | refine zF ?_ | refine zL hX hL ?_ | refine zB hX hL ?_ | (refine zS hX hL ?_; clear hL; intro w hL) | refine zI ?_ | refine zG hX ?_ | refine zO ?_); conv => whnf)
      refine NewReq.mk hL ?_
      clear hL
      intro gq w hL
      conv => whnf
      obtain ⟨m5, hL5, hm5, hsl⟩ := one_sl hr4 hL
      clear hL
      have hL := hL5
      clear hL5
      conv => whnf
      repeat ((first | refine zT ?_ | refine zF ?_ | refine zL hX hL ?_ | refine zB hX hL ?_ | (refine zS hX hL ?_; clear hL; intro w hL) | refine zI ?_ | refine zG hX ?_ | refine zO ?_); conv => whnf)
      exact RetReq.mk (hL.one 0 rfl) ⟨reC 9 0 0 0 0 (.slice (some ⟨gq, 0, none⟩) 1 1) 0 0 true, sl4, rfl, RepRe.shut hsl (zeros (by simp [inI]) (by simp [inI]) (by simp [inI])), hs4.le hm5 (fun _ _ _ h => h), rfl⟩
  rw [if_neg kl] at hP
  have k12 : kindP s ≠ 12 := fun h => kl (.inl h)
  have k13 : kindP s ≠ 13 := fun h => kl (.inr (.inl h))
  have k14 : kindP s ≠ 14 := fun h => kl (.inr (.inr (.inl h)))
  have k15 : kindP s ≠ 15 := fun h => kl (.inr (.inr (.inr h)))
  by_cases k16 : kindP s = 16
  · rw [if_pos k16] at hP
    cases hP
    conv => whnf
    repeat ((first | refine BrReq.no k1 ?_ | refine BrReq.no k2 ?_ | refine BrReq.no k12 ?_ | refine BrReq.no k13 ?_ | refine BrReq.no k14 ?_ | refine BrReq.no k15 ?_ | refine BrReq.yes k16 ?_ | refine zT ?_ | refine zF ?_ | refine zL hX hL ?_ | refine zB hX hL ?_ | (refine zS hX hL ?_; clear hL; intro w hL) | refine zI ?_ | refine zG hX ?_ | refine zO ?_); conv => whnf)
    replace hL : Ev.Loc m S0 w0 m ([(b, poO sl fin dv s)] ++ [(b2, .cells (toArr zRe) 36 (0, 0)), (b4, .cells (toArr (wC (headW s).1 (headW s).2)) 57 (0, 0))]) w := Loc.back (L1 := [_]) (L2 := [_, _]) hL
    refine CallReq.mk hnx hL ?_
    clear hL
    rintro u m1 L' w hL - ⟨rfl, sl1, hs1, rfl, rfl⟩
    replace hL : Ev.Loc m1 S0 w0 m1 [(b, poO sl1 fin dv (nextP s)), (b2, .cells (toArr zRe) 36 (0, 0)), (b4, .cells (toArr (wC (headW s).1 (headW s).2)) 57 (0, 0))] w := hL
    conv => whnf
    repeat ((first | refine zT ?_ | refine zF ?_ | refine zL hX hL ?_ | refine zB hX hL ?_ | (refine zS hX hL ?_; clear hL; intro w hL) | refine zI ?_ | refine zG hX ?_ | refine zO ?_); conv => whnf)
    exact RetReq.mk (hL.one 0 rfl) ⟨_, sl1, rfl, leaf_rep m1 10 (by simp [inI]), hs1, rfl⟩
  rw [if_neg k16] at hP
  by_cases k17 : kindP s = 17
  · rw [if_pos k17] at hP
    cases hP
    conv => whnf
    repeat ((first | refine BrReq.no k1 ?_ | refine BrReq.no k2 ?_ | refine BrReq.no k12 ?_ | refine BrReq.no k13 ?_ | refine BrReq.no k14 ?_ | refine BrReq.no k15 ?_ | refine BrReq.no k16 ?_ | refine BrReq.yes k17 ?_ | refine zT ?_ | refine zF ?_ | refine zL hX hL ?_ | refine zB hX hL ?_ | (refine zS hX hL ?_; clear hL; intro w hL) | refine zI ?_ | refine zG hX ?_ | refine zO ?_); conv => whnf)
    replace hL : Ev.Loc m S0 w0 m ([(b, poO sl fin dv s)] ++ [(b2, .cells (toArr zRe) 36 (0, 0)), (b4, .cells (toArr (wC (headW s).1 (headW s).2)) 57 (0, 0))]) w := Loc.back (L1 := [_]) (L2 := [_, _]) hL
    refine CallReq.mk hnx hL ?_
    clear hL
    rintro u m1 L' w hL - ⟨rfl, sl1, hs1, rfl, rfl⟩
    replace hL : Ev.Loc m1 S0 w0 m1 [(b, poO sl1 fin dv (nextP s)), (b2, .cells (toArr zRe) 36 (0, 0)), (b4, .cells (toArr (wC (headW s).1 (headW s).2)) 57 (0, 0))] w := hL
    conv => whnf
    repeat ((first | refine zT ?_ | refine zF ?_ | refine zL hX hL ?_ | refine zB hX hL ?_ | (refine zS hX hL ?_; clear hL; intro w hL) | refine zI ?_ | refine zG hX ?_ | refine zO ?_); conv => whnf)
    exact RetReq.mk (hL.one 0 rfl) ⟨_, sl1, rfl, leaf_rep m1 11 (by simp [inI]), hs1, rfl⟩
  rw [if_neg k17] at hP
  by_cases k11 : kindP s = 11
  · rw [if_pos k11] at hP
    conv => whnf
    repeat ((first | refine BrReq.no k1 ?_ | refine BrReq.no k2 ?_ | refine BrReq.no k12 ?_ | refine BrReq.no k13 ?_ | refine BrReq.no k14 ?_ | refine BrReq.no k15 ?_ | refine BrReq.no k16 ?_ | refine BrReq.no k17 ?_ | refine BrReq.yes k11 ?_ | refine zT ?_ | refine zF ?_ | refine zL hX hL ?_ | refine zB hX hL ?_ | (refine zS hX hL ?_; clear hL; intro w hL) | refine zI ?_ | refine zG hX ?_ | refine zO ?_); conv => whnf)
    replace hL : Ev.Loc m S0 w0 m ([(b, poO sl fin dv s)] ++ [(b2, .cells (toArr zRe) 36 (0, 0)), (b4, .cells (toArr (wC (headW s).1 (headW s).2)) 57 (0, 0))]) w := Loc.back (L1 := [_]) (L2 := [_, _]) hL
    refine CallReq.mk hnx hL ?_
    clear hL
    rintro u m1 L' w hL - ⟨rfl, sl1, hs1, rfl, rfl⟩
    replace hL : Ev.Loc m1 S0 w0 m1 [(b, poO sl1 fin dv (nextP s)), (b2, .cells (toArr zRe) 36 (0, 0)), (b4, .cells (toArr (wC (headW s).1 (headW s).2)) 57 (0, 0))] w := hL
    conv => whnf
    repeat ((first | refine zT ?_ | refine zF ?_ | refine zL hX hL ?_ | refine zB hX hL ?_ | (refine zS hX hL ?_; clear hL; intro w hL) | refine zI ?_ | refine zG hX ?_ | refine zO ?_); conv => whnf)
    replace hL : Ev.Loc m1 S0 w0 m1 ([(b, poO sl1 fin dv (nextP s))] ++ [(b2, .cells (toArr zRe) 36 (0, 0)), (b4, .cells (toArr (wC (headW s).1 (headW s).2)) 57 (0, 0))]) w := hL
    refine CallReq.mk (named_fn m1 b sl1 dv fin (nextP s) defs hd (headW s).1 (headW s).2) hL ?_
    clear hL
    rintro u m4 L' w hL - ⟨rfl, cs4, r4, s4, rfl, hr4, rfl, hf⟩
    obtain ⟨k5, w0', w1', w2', w3', A5, n5, c5, lo5, hi5, neg5, rfl⟩ := hr4.form
    replace hL : Ev.Loc m4 S0 w0 m4 [(b, poO sl1 fin dv s4), (b2, .cells (toArr zRe) 36 (0, 0)), (b4, .cells (toArr (wC (headW s).1 (headW s).2)) 57 (0, 0))] w := hL
    conv => whnf
    repeat ((first | refine zT ?_ | refine zF ?_ | refine zL hX hL ?_ | refine zB hX hL ?_ | (refine zS hX hL ?_; clear hL; intro w hL) | refine zI ?_ | refine zG hX ?_ | refine zO ?_); conv => whnf)
    cases hfd : findD (headW s).2.name defs with
    | some r0 =>
      rw [hfd] at hP hf
      obtain ⟨rfl, rfl⟩ := hf
      cases hP
      exact RetReq.mk (hL.one 0 rfl) ⟨_, sl1, rfl, hr4, hs1, rfl⟩
    | none =>
      rw [hfd] at hP hf
      obtain ⟨rfl, rfl⟩ := hf
      cases hP
      have hfl : (failP 5 (headW s).1 (nextP s)).l = (nextP s).l := by unfold failP; split <;> rfl
      exact RetReq.mk (hL.one 0 rfl) ⟨_, sl1, rfl, hr4, by rw [hfl]; exact hs1, rfl⟩
  rw [if_neg k11] at hP
  cases hP
  conv => whnf
  repeat ((first | refine BrReq.no k1 ?_ | refine BrReq.no k2 ?_ | refine BrReq.no k12 ?_ | refine BrReq.no k13 ?_ | refine BrReq.no k14 ?_ | refine BrReq.no k15 ?_ | refine BrReq.no k16 ?_ | refine BrReq.no k17 ?_ | refine BrReq.no k11 ?_ | refine zT ?_ | refine zF ?_ | refine zL hX hL ?_ | refine zB hX hL ?_ | (refine zS hX hL ?_; clear hL; intro w hL) | refine zI ?_ | refine zG hX ?_ | refine zO ?_); conv => whnf)
  replace hL : Ev.Loc m S0 w0 m ((b, poO sl fin dv s) :: [(b2, .cells (toArr zRe) 36 (0, 0)), (b4, .cells (toArr (wC (headW s).1 (headW s).2)) 57 (0, 0))]) w := Loc.back (L1 := [_]) (L2 := [_, _]) hL
  refine CallReq.sc (fail_fn m b sl dv fin s 2 (headW s).1) hL ?_
  clear hL
  intro w hL
  conv => whnf
  repeat ((first | refine zT ?_ | refine zF ?_ | refine zL hX hL ?_ | refine zB hX hL ?_ | (refine zS hX hL ?_; clear hL; intro w hL) | refine zI ?_ | refine zG hX ?_ | refine zO ?_); conv => whnf)
  have hfl : (failP 2 (headW s).1 s).l = s.l := by unfold failP; split <;> rfl
  exact RetReq.mk (hL.one 0 rfl) ⟨_, sl, rfl, leaf_rep m 0 (by simp [inI]), by rw [hfl]; exact hs, rfl⟩

theorem known (fin : Nat) (defs : List (List UInt8 × Re)) : ∀ (k : Nat), k ≤ 100000000 → Known fin defs k := by
  intro k
  induction k with
  | zero => intro _ j hj; omega
  | succ k ih =>
    intro hk j hj t s r s' hP hB
    have hK := ih (by omega)
    by_cases e : j < k
    · exact hK j e t s r s' hP hB
    obtain rfl : j = k := by omega
    cases j with
    | zero => simp [P] at hP
    | succ j =>
      cases t with
      | alt => exact alt_ok hK (by omega) s r s' hP hB
      | altL acc => trivial
      | both => exact both_ok hK (by omega) s r s' hP hB
      | bothL acc => trivial
      | cat => exact cat_ok hK (by omega) s r s' hP hB
      | catL acc => trivial
      | no => exact no_ok hK s r s' hP hB
      | post => exact post_ok hK s r s' hP hB
      | postL r => trivial
      | atom => exact atom_ok hK s r s' hP hB
      | inner n => exact inner_ok hK n s r s' hP hB
end Go.Proofs.YtemdkfohlppckaaGreatDoor.pa
