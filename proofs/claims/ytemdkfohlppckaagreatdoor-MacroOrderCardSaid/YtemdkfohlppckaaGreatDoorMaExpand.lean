/- Macros: Expand, walked. Conditions: the laid variables are what they are. -/
import Derived.Test.YtemdkfohlppckaaGreatDoorMaParse

namespace Go.Proofs.YtemdkfohlppckaaGreatDoor.ma
open Go Go.Ev Go.Proofs Go.Proofs.YtemdkfohlppckaaGreatDoor.lx Go.Proofs.YtemdkfohlppckaaGreatDoor.tree Go.Proofs.YtemdkfohlppckaaGreatDoor.pa

theorem right_of {l : Ms} (hn : l.length ≤ 20) (h1 : (allE (chk1 l) l.length).2.2 = 0) (h2 : (allE (chk2 l) l.length).2.2 = 0) : Right l := by
  refine ((early_zero (l := l) (c := fun _ => false)).1 ?_).1
  unfold early
  rw [if_neg (by omega), orE_zero, orE_zero]
  refine ⟨h1, h2, allE_zero.2 fun i _ => ?_⟩
  unfold chk3
  rfl
/-- What Expand answers. -/
def ExpR (l : Ms) (m' : Mem) (dv : Value) (e : E3) : Prop :=
  ((earlyM l).2.2 ≠ 0 ∧ dv = .slice none 0 0 ∧ e = earlyM l) ∨
  ((earlyM l).2.2 = 0 ∧ e = noE ∧ ∃ f, Sl m' 10 (isDef m') dv (dsOf l (List.range l.length) f) ∧ ∀ i, i < l.length → Means l i (f i)) ∨
  ((earlyM l).2.2 = 0 ∧ dv = .slice none 0 0 ∧ BadE l e)
theorem early_small {l : Ms} (hn : l.length ≤ 20) : earlyM l = orE (allE (chk1 l) l.length) (orE (allE (chk2 l) l.length) (allE (chk3 (cycM l)) l.length)) := by
  unfold earlyM early
  rw [if_neg (by omega)]
theorem orE_l {a b : E3} (h : a.2.2 ≠ 0) : orE a b = a := by unfold orE; rw [if_pos h]
theorem orE_r {a b : E3} (h : a.2.2 = 0) : orE a b = b := by unfold orE; rw [if_neg (fun hn => hn h)]

theorem first_fn (m : Mem) (bx b6 b1 : Nat) (l : Ms) (v dv fv : Value) (hv : Sl m 2 isMac v l) (hb : ∀ x ∈ l, x.1.length ≤ 1000000) (hn20 : l.length ≤ 1000) :
    Ev.Fn Tryz.prog 11 [.pointer (some ⟨b6, 0, none⟩), .pointer (some ⟨b1, 0, none⟩)] m [(bx, exO (.slice none 0 0) dv fv noE), (b6, .cells (toArr [.pointer (some ⟨bx, 0, none⟩)]) 45 (0, 0)), (b1, .cells (toArr [v]) 22 (0, 0))] fun _ L' u =>
      u = .tuple (toArr []) ∧ ∃ lv Lr, L' = (bx, exO lv dv fv (allE (chk1 l) l.length)) :: (b6, .cells (toArr [.pointer (some ⟨bx, 0, none⟩)]) 45 (0, 0)) :: (b1, .cells (toArr [v]) 22 (0, 0)) :: Lr ∧ OwnS 73 3 lv (l.map row0).flatten Lr := by
  obtain ⟨A, n, c, rfl, -⟩ := id hv
  refine Fn.enter (N := 5) hX Tryz.func11 rfl rfl (by show _ ≤ _; simp) (fun w0 hL => ?_)
  conv => whnf
  generalize keys _ = S0 at hL ⊢
  conv => whnf
  repeat ((first | refine zT ?_ | refine zF ?_ | refine zL hX hL ?_ | refine zB hX hL ?_ | (refine zS hX hL ?_; clear hL; intro w hL) | refine zI ?_ | refine zG hX ?_ | refine zO ?_); conv => whnf)
  refine CallReq.mk (L1 := [_]) (names_fn m bx l _ dv fv hv hb hn20) hL ?_
  clear hL
  rintro u m1 L1 w hL hm1 ⟨rfl, lv, Lr, rfl, ho⟩
  conv => whnf
  repeat ((first | refine zT ?_ | refine zF ?_ | refine zL hX hL ?_ | refine zB hX hL ?_ | (refine zS hX hL ?_; clear hL; intro w hL) | refine zI ?_ | refine zG hX ?_ | refine zO ?_); conv => whnf)
  exact RetReq.mk (hL.perm (List.Perm.cons _ (List.perm_append_comm (l₁ := Lr) (l₂ := [_, _])))) ⟨rfl, lv, Lr, rfl, ho⟩

def StE (l : Ms) (m1 : Mem) (lv dv fv : Value) (Lx : Ev.Own) : Nat → Prop
  | 0 => lv = .slice none 0 0 ∧ dv = .slice none 0 0 ∧ fv = .slice none 0 0 ∧ Lx = []
  | 1 => (allE (chk1 l) l.length).2.2 = 0 ∧ OwnS 73 3 lv (l.map row0).flatten Lx
  | 2 => (allE (chk1 l) l.length).2.2 = 0 ∧ (allE (chk2 l) l.length).2.2 = 0 ∧ Sl m1 3 (isLn m1 l) lv (List.range l.length) ∧ Lx = []
  | 3 => (earlyM l).2.2 = 0 ∧ Sl m1 3 (isLn m1 l) lv (List.range l.length) ∧ Lx = []
  | _ => (earlyM l).2.2 = 0 ∧ ∃ f, Sl m1 10 (isDef m1) fv (dsOf l (List.range l.length) f) ∧ ∀ i, i < l.length → Means l i (f i)

set_option maxHeartbeats 4000000 in
theorem Expand_fn (m : Mem) (hQ : LibMem m) (l : Ms) (v : Value) (hv : Sl m 2 isMac v l) (hb : ∀ x ∈ l, x.1.length ≤ 1000000 ∧ x.2.length ≤ 1000000) (hn : l.length ≤ 1000) :
    Fn0 Tryz.prog 7 [v] m fun m' u => ∃ dv a p x, u = .tuple (toArr [dv, .int .i64 a, .int .i64 p, .int .i64 x]) ∧ ExpR l m' dv (a, p, x) := by
  have hmx : maxLen = 9223372036854775807 := rfl
  have hv' := hv
  obtain ⟨A, n, c, rfl, hnl, hcc, hm, -⟩ := id hv
  subst hnl
  refine Fn.enter (N := 51) hX Tryz.func7 rfl rfl (by show _ ≤ _; simp) (fun w0 hL => ?_)
  conv => whnf
  refine NewReq.mk hL ?_
  clear hL
  intro b1 w hL
  conv => whnf
  replace hL : Ev.Loc m [] w0 m [(b1, .cells (toArr [.slice A l.length c]) 22 (0, 0))] w := hL
  by_cases h20 : 20 < l.length
  · conv => whnf
    repeat ((first | refine BrReq.yes (by omega) ?_ | refine zT ?_ | refine zF ?_ | refine zL hX hL ?_ | refine zB hX hL ?_ | (refine zS hX hL ?_; clear hL; intro w hL) | refine zI ?_ | refine zG hX ?_ | refine zO ?_); conv => whnf)
    have he : earlyM l = (20, 0, 4) := by unfold earlyM early; rw [if_pos h20]
    exact RetReq.mk (hL.sublist (List.nil_sublist _)) ⟨rfl, _, 20, 0, 4, rfl, .inl ⟨by rw [he]; decide, rfl, he.symm⟩⟩
  conv => whnf
  repeat ((first | refine BrReq.no (by omega) ?_ | refine zT ?_ | refine zF ?_ | refine zL hX hL ?_ | refine zB hX hL ?_ | (refine zS hX hL ?_; clear hL; intro w hL) | refine zI ?_ | refine zG hX ?_ | refine zO ?_); conv => whnf)
  refine NewReq.mk hL ?_
  clear hL
  intro bx w hL
  conv => whnf
  refine NewReq.mk hL ?_
  clear hL
  intro b6 w hL
  conv => whnf
  replace hL : Ev.Loc m [] w0 m [(b6, .cells (toArr [.pointer none]) 45 (0, 0)), (bx, exO (.slice none 0 0) (.slice none 0 0) (.slice none 0 0) noE), (b1, .cells (toArr [.slice A l.length c]) 22 (0, 0))] w := hL
  conv => whnf
  repeat ((first | refine zT ?_ | refine zF ?_ | refine zL hX hL ?_ | refine zB hX hL ?_ | (refine zS hX hL ?_; clear hL; intro w hL) | refine zI ?_ | refine zG hX ?_ | refine zO ?_); conv => whnf)
  refine NewReq.mk hL ?_
  clear hL
  intro b21 w hL
  conv => whnf
  simp only [spliceL, zerosL, toArr, Value.cells, List.set_cons_zero, List.set_cons_succ, List.take, List.drop, Nat.zero_mul, Nat.one_mul, List.cons_append, List.nil_append, List.append_nil] at hL
  replace hL : Ev.Loc m [] w0 m [(b21, .cells (toArr [.func (.func 11) #[] #[.pointer (some ⟨b6, 0, none⟩), .pointer (some ⟨b1, 0, none⟩)], .func (.func 13) #[.pointer (some ⟨bx, 0, none⟩)] #[], .func (.func 14) #[.pointer (some ⟨bx, 0, none⟩)] #[], .func (.func 15) #[.pointer (some ⟨bx, 0, none⟩)] #[]]) 1 (0, 0)), (b6, .cells (toArr [.pointer (some ⟨bx, 0, none⟩)]) 45 (0, 0)), (bx, exO (.slice none 0 0) (.slice none 0 0) (.slice none 0 0) noE), (b1, .cells (toArr [.slice A l.length c]) 22 (0, 0))] w := hL
  obtain ⟨fC, hfC⟩ : ∃ fC : List Value, fC = [.func (.func 11) #[] #[.pointer (some ⟨b6, 0, none⟩), .pointer (some ⟨b1, 0, none⟩)], .func (.func 13) #[.pointer (some ⟨bx, 0, none⟩)] #[], .func (.func 14) #[.pointer (some ⟨bx, 0, none⟩)] #[], .func (.func 15) #[.pointer (some ⟨bx, 0, none⟩)] #[]] := ⟨_, rfl⟩
  rw [← hfC] at hL
  have q0 : fC[0 + scale 0 1]? = some (.func (.func 11) #[] #[.pointer (some ⟨b6, 0, none⟩), .pointer (some ⟨b1, 0, none⟩)]) := by rw [hfC]; rfl
  have q1 : fC[0 + scale 1 1]? = some (.func (.func 13) #[.pointer (some ⟨bx, 0, none⟩)] #[]) := by rw [hfC]; rfl
  have q2 : fC[0 + scale 2 1]? = some (.func (.func 14) #[.pointer (some ⟨bx, 0, none⟩)] #[]) := by rw [hfC]; rfl
  have q3 : fC[0 + scale 3 1]? = some (.func (.func 15) #[.pointer (some ⟨bx, 0, none⟩)] #[]) := by rw [hfC]; rfl
  clear hfC
  have hL := hL.perm (List.perm_append_comm (l₁ := [_, _]) (l₂ := [_, _]))
  replace hL : Ev.Loc m [] w0 m ([(bx, exO (.slice none 0 0) (.slice none 0 0) (.slice none 0 0) noE), (b6, .cells (toArr [.pointer (some ⟨bx, 0, none⟩)]) 45 (0, 0)), (b1, .cells (toArr [.slice A l.length c]) 22 (0, 0)), (b21, .cells (toArr fC) 1 (0, 0))]) w := by
    refine hL.perm (List.Perm.cons _ ?_)
    exact (List.perm_append_comm (l₁ := [_, _]) (l₂ := [_])).trans (List.Perm.cons _ (List.Perm.refl _)) |>.trans (List.Perm.refl _)
  conv => whnf
  repeat ((first | refine zT ?_ | refine zF ?_ | refine zL hX hL ?_ | refine zB hX hL ?_ | (refine zS hX hL ?_; clear hL; intro w hL) | refine zI ?_ | refine zG hX ?_ | refine zO ?_); conv => whnf)
  refine LoopReq.inv hX (fun j : Nat => [(23, .int .i64 j)]) [6, 21, 22]
    (fun j w => j ≤ 4 ∧ ∃ m1 lv dv fv Lx, Mem.Le m m1 ∧ StE l m1 lv dv fv Lx j ∧ Ev.Loc m [] w0 m1 ((bx, exO lv dv fv noE) :: (b6, .cells (toArr [.pointer (some ⟨bx, 0, none⟩)]) 45 (0, 0)) :: (b1, .cells (toArr [.slice A l.length c]) 22 (0, 0)) :: (b21, .cells (toArr fC) 1 (0, 0)) :: Lx) w) (fun j => 4 - j) 0
    ⟨Nat.zero_le _, m, _, _, _, [], Mem.Le.refl m, ⟨rfl, rfl, rfl, rfl⟩, hL⟩ ⟨rfl, trivial⟩ ?_
  clear hL
  rintro j w f ⟨hj, m1, lv, dv, fv, Lx, hm1, hS, hL⟩
  conv => whnf
  repeat ((first | refine zT ?_ | refine zF ?_ | refine zL hX hL ?_ | refine zB hX hL ?_ | (refine zS hX hL ?_; clear hL; intro w hL) | refine zI ?_ | refine zG hX ?_ | refine zO ?_); conv => whnf)
  refine BrReq.dec (fun hlt => ?_) (fun hlt => ?_)
  · have hon : ∀ k, k < l.length → (onM l k).length ≤ 10000 := fun k _ => Nat.le_trans (List.length_filterMap_le _ _) (out_ok (txM l k)).2
    have htx : ∀ k, k < l.length → (txM l k).length ≤ 1000000 := fun k hk => by
      have : txM l k = l[k].2 := by unfold txM; rw [List.getD_eq_getElem?_getD, List.getElem?_eq_getElem hk]; rfl
      rw [this]; exact (hb _ (List.getElem_mem hk)).2
    have hsmall := early_small (l := l) (by omega)
    obtain rfl | rfl | rfl | rfl : j = 0 ∨ j = 1 ∨ j = 2 ∨ j = 3 := by omega
    · obtain ⟨rfl, rfl, rfl, rfl⟩ := hS
      conv => whnf
      repeat ((first | refine Idx2Req.mk 0 _ rfl (by omega) rfl ?_ | refine LdReq.ownAt hX rfl rfl 3 hL rfl q0 ?_ | refine zT ?_ | refine zF ?_ | refine zL hX hL ?_ | refine zB hX hL ?_ | (refine zS hX hL ?_; clear hL; intro w hL) | refine zI ?_ | refine zG hX ?_ | refine zO ?_); conv => whnf)
      refine CallReq.mk (L1 := [_, _, _]) (first_fn m1 bx b6 b1 l _ _ _ (hv'.le' hm1) (fun x hx => (hb x hx).1) hn) hL ?_
      clear hL
      rintro u m2 L1 w hL hm2 ⟨rfl, lv, Lr, rfl, ho⟩
      replace hL : Ev.Loc m [] w0 m2 ((bx, exO lv (.slice none 0 0) (.slice none 0 0) (allE (chk1 l) l.length)) :: (b6, .cells (toArr [.pointer (some ⟨bx, 0, none⟩)]) 45 (0, 0)) :: (b1, .cells (toArr [.slice A l.length c]) 22 (0, 0)) :: (b21, .cells (toArr fC) 1 (0, 0)) :: Lr) w :=
        hL.perm (List.Perm.cons _ (List.Perm.cons _ (List.Perm.cons _ (List.perm_append_comm (l₁ := Lr) (l₂ := [_])))))
      by_cases hz : (allE (chk1 l) l.length).2.2 = 0
      · conv => whnf
        repeat ((first | refine BrReq.no (fun h => h hz) ?_ | refine zT ?_ | refine zF ?_ | refine zL hX hL ?_ | refine zB hX hL ?_ | (refine zS hX hL ?_; clear hL; intro w hL) | refine zI ?_ | refine zG hX ?_ | refine zO ?_); conv => whnf)
        rw [allE_no (chk1_no l) _ hz] at hL
        refine ⟨1, ⟨by omega, m2, lv, _, _, Lr, hm1.trans hm2, ⟨hz, ho⟩, hL⟩, by first | omega | (simp only; omega) | (simp only [List.length_cons, List.length_append]; omega), ?_, ?_⟩
        · repeat (first | exact trivial | (refine And.intro (by (conv => lhs; whnf) <;> (conv => rhs; whnf) <;> (first | rfl)) ?_))
        · repeat (first | exact trivial | (refine And.intro (by (conv => lhs; whnf) <;> (conv => rhs; whnf) <;> (first | rfl)) ?_))
      · conv => whnf
        repeat ((first | refine BrReq.yes (fun h => hz h) ?_ | refine zT ?_ | refine zF ?_ | refine zL hX hL ?_ | refine zB hX hL ?_ | (refine zS hX hL ?_; clear hL; intro w hL) | refine zI ?_ | refine zG hX ?_ | refine zO ?_); conv => whnf)
        refine DrawReq.plan hX (.fst 0 (.fst 1 (.fst 2 (.fst 3 (.fst 4 (.fst 5 (.fst 6 (.fst 7 (.fst 8 (.fst 9 (.fst 10 (.fst 11 (.fst 12 (.fst 13 (.fst 14 (.fst 15 (.done))))))))))))))))) [(bx, exO lv (.slice none 0 0) (.slice none 0 0) (allE (chk1 l) l.length)), (b6, .cells (toArr [.pointer (some ⟨bx, 0, none⟩)]) 45 (0, 0))] (by kernel_rfl) (by kernel_rfl) hL (fun h => h.sublist (.cons_cons _ (.cons_cons _ (List.nil_sublist _)))) ?_
        clear hL
        intro w hL
        conv => whnf
        repeat ((first | refine zQ hX ?_ | refine zR hX ?_ | refine zA ?_ | refine zT ?_ | refine zF ?_ | refine zL hX hL ?_ | refine zB hX hL ?_ | (refine zS hX hL ?_; clear hL; intro w hL) | refine zI ?_ | refine zG hX ?_ | refine zO ?_); conv => whnf)
        exact RetReq.mk (hL.sublist (List.nil_sublist _)) ⟨rfl, _, _, _, _, rfl, .inl ⟨by rw [hsmall, orE_l hz]; exact hz, rfl, by rw [hsmall, orE_l hz]⟩⟩
    · obtain ⟨h1, ho⟩ := hS
      conv => whnf
      repeat ((first | refine Idx2Req.mk 1 _ rfl (by omega) rfl ?_ | refine LdReq.ownAt hX rfl rfl 3 hL rfl q1 ?_ | refine zT ?_ | refine zF ?_ | refine zL hX hL ?_ | refine zB hX hL ?_ | (refine zS hX hL ?_; clear hL; intro w hL) | refine zI ?_ | refine zG hX ?_ | refine zO ?_); conv => whnf)
      have hL := hL.perm (List.Perm.cons _ (List.perm_append_comm (l₁ := [_, _, _]) (l₂ := Lx)))
      refine CallReq.mk (L1 := _ :: Lx) (L2 := [_, _, _]) (lean_fn m1 (libLe' hm1 hQ) bx l lv dv fv noE Lx Nz.no hn htx ho) hL ?_
      clear hL
      rintro u m2 L1 w hL hm2 ⟨rfl, rfl, hsl⟩
      rw [orE_no] at hL
      replace hL : Ev.Loc m [] w0 m2 [(bx, exO lv dv fv (allE (chk2 l) l.length)), (b6, .cells (toArr [.pointer (some ⟨bx, 0, none⟩)]) 45 (0, 0)), (b1, .cells (toArr [.slice A l.length c]) 22 (0, 0)), (b21, .cells (toArr fC) 1 (0, 0))] w := hL
      by_cases hz : (allE (chk2 l) l.length).2.2 = 0
      · conv => whnf
        repeat ((first | refine BrReq.no (fun h => h hz) ?_ | refine zT ?_ | refine zF ?_ | refine zL hX hL ?_ | refine zB hX hL ?_ | (refine zS hX hL ?_; clear hL; intro w hL) | refine zI ?_ | refine zG hX ?_ | refine zO ?_); conv => whnf)
        rw [allE_no (fun k => chk2_nz l k) _ hz] at hL
        refine ⟨2, ⟨by omega, m2, lv, dv, fv, [], hm1.trans hm2, ⟨h1, hz, hsl, rfl⟩, hL⟩, by first | omega | (simp only; omega) | (simp only [List.length_cons, List.length_append]; omega), ?_, ?_⟩
        · repeat (first | exact trivial | (refine And.intro (by (conv => lhs; whnf) <;> (conv => rhs; whnf) <;> (first | rfl)) ?_))
        · repeat (first | exact trivial | (refine And.intro (by (conv => lhs; whnf) <;> (conv => rhs; whnf) <;> (first | rfl)) ?_))
      · conv => whnf
        repeat ((first | refine BrReq.yes (fun h => hz h) ?_ | refine zT ?_ | refine zF ?_ | refine zL hX hL ?_ | refine zB hX hL ?_ | (refine zS hX hL ?_; clear hL; intro w hL) | refine zI ?_ | refine zG hX ?_ | refine zO ?_); conv => whnf)
        refine DrawReq.plan hX (.fst 0 (.fst 1 (.fst 2 (.fst 3 (.fst 4 (.fst 5 (.fst 6 (.fst 7 (.fst 8 (.fst 9 (.fst 10 (.fst 11 (.fst 12 (.fst 13 (.fst 14 (.fst 15 (.done))))))))))))))))) [(bx, exO lv dv fv (allE (chk2 l) l.length)), (b6, .cells (toArr [.pointer (some ⟨bx, 0, none⟩)]) 45 (0, 0))] (by kernel_rfl) (by kernel_rfl) hL (fun h => h.sublist (.cons_cons _ (.cons_cons _ (List.nil_sublist _)))) ?_
        clear hL
        intro w hL
        conv => whnf
        repeat ((first | refine zQ hX ?_ | refine zR hX ?_ | refine zA ?_ | refine zT ?_ | refine zF ?_ | refine zL hX hL ?_ | refine zB hX hL ?_ | (refine zS hX hL ?_; clear hL; intro w hL) | refine zI ?_ | refine zG hX ?_ | refine zO ?_); conv => whnf)
        exact RetReq.mk (hL.sublist (List.nil_sublist _)) ⟨rfl, _, _, _, _, rfl, .inl ⟨by rw [hsmall, orE_r h1, orE_l hz]; exact hz, rfl, by rw [hsmall, orE_r h1, orE_l hz]⟩⟩
    · obtain ⟨h1, h2, hsl, rfl⟩ := hS
      have hr := right_of (by omega) h1 h2
      conv => whnf
      repeat ((first | refine Idx2Req.mk 2 _ rfl (by omega) rfl ?_ | refine LdReq.ownAt hX rfl rfl 3 hL rfl q2 ?_ | refine zT ?_ | refine zF ?_ | refine zL hX hL ?_ | refine zB hX hL ?_ | (refine zS hX hL ?_; clear hL; intro w hL) | refine zI ?_ | refine zG hX ?_ | refine zO ?_); conv => whnf)
      refine CallReq.sc (cycles_fn m1 bx l lv dv fv noE Nz.no hsl hn hon (cycM l) fun i hi => cycM_iff hr hi) hL ?_
      clear hL
      intro w hL
      rw [orE_no] at hL
      by_cases hz : (allE (chk3 (cycM l)) l.length).2.2 = 0
      · conv => whnf
        repeat ((first | refine BrReq.no (fun h => h hz) ?_ | refine zT ?_ | refine zF ?_ | refine zL hX hL ?_ | refine zB hX hL ?_ | (refine zS hX hL ?_; clear hL; intro w hL) | refine zI ?_ | refine zG hX ?_ | refine zO ?_); conv => whnf)
        rw [allE_no (fun k => chk3_nz (cycM l) k) _ hz] at hL
        refine ⟨3, ⟨by omega, m1, lv, dv, fv, [], hm1, ⟨by rw [hsmall, orE_r h1, orE_r h2]; exact hz, hsl, rfl⟩, hL⟩, by first | omega | (simp only; omega) | (simp only [List.length_cons, List.length_append]; omega), ?_, ?_⟩
        · repeat (first | exact trivial | (refine And.intro (by (conv => lhs; whnf) <;> (conv => rhs; whnf) <;> (first | rfl)) ?_))
        · repeat (first | exact trivial | (refine And.intro (by (conv => lhs; whnf) <;> (conv => rhs; whnf) <;> (first | rfl)) ?_))
      · conv => whnf
        repeat ((first | refine BrReq.yes (fun h => hz h) ?_ | refine zT ?_ | refine zF ?_ | refine zL hX hL ?_ | refine zB hX hL ?_ | (refine zS hX hL ?_; clear hL; intro w hL) | refine zI ?_ | refine zG hX ?_ | refine zO ?_); conv => whnf)
        refine DrawReq.plan hX (.fst 0 (.fst 1 (.fst 2 (.fst 3 (.fst 4 (.fst 5 (.fst 6 (.fst 7 (.fst 8 (.fst 9 (.fst 10 (.fst 11 (.fst 12 (.fst 13 (.fst 14 (.fst 15 (.done))))))))))))))))) [(bx, exO lv dv fv (allE (chk3 (cycM l)) l.length)), (b6, .cells (toArr [.pointer (some ⟨bx, 0, none⟩)]) 45 (0, 0))] (by kernel_rfl) (by kernel_rfl) hL (fun h => h.sublist (.cons_cons _ (.cons_cons _ (List.nil_sublist _)))) ?_
        clear hL
        intro w hL
        conv => whnf
        repeat ((first | refine zQ hX ?_ | refine zR hX ?_ | refine zA ?_ | refine zT ?_ | refine zF ?_ | refine zL hX hL ?_ | refine zB hX hL ?_ | (refine zS hX hL ?_; clear hL; intro w hL) | refine zI ?_ | refine zG hX ?_ | refine zO ?_); conv => whnf)
        exact RetReq.mk (hL.sublist (List.nil_sublist _)) ⟨rfl, _, _, _, _, rfl, .inl ⟨by rw [hsmall, orE_r h1, orE_r h2]; exact hz, rfl, by rw [hsmall, orE_r h1, orE_r h2]⟩⟩
    · obtain ⟨h1, hsl, rfl⟩ := hS
      obtain ⟨hr, hc⟩ := earlyM_zero.1 h1
      conv => whnf
      repeat ((first | refine Idx2Req.mk 3 _ rfl (by omega) rfl ?_ | refine LdReq.ownAt hX rfl rfl 3 hL rfl q3 ?_ | refine zT ?_ | refine zF ?_ | refine zL hX hL ?_ | refine zB hX hL ?_ | (refine zS hX hL ?_; clear hL; intro w hL) | refine zI ?_ | refine zG hX ?_ | refine zO ?_); conv => whnf)
      refine CallReq.mk (L1 := [_]) (L2 := [_, _, _]) (parse_fn m1 (libLe' hm1 hQ) bx l lv dv fv hsl hn htx hr hc) hL ?_
      clear hL
      rintro u m2 L1 w hL hm2 ⟨rfl, dv2, fv2, e, Ly, rfl, hres⟩
      replace hL : Ev.Loc m [] w0 m2 ((bx, exO lv dv2 fv2 e) :: (b6, .cells (toArr [.pointer (some ⟨bx, 0, none⟩)]) 45 (0, 0)) :: (b1, .cells (toArr [.slice A l.length c]) 22 (0, 0)) :: (b21, .cells (toArr fC) 1 (0, 0)) :: Ly) w :=
        hL.perm (List.Perm.cons _ (List.perm_append_comm (l₁ := Ly) (l₂ := [_, _, _])))
      rcases hres with ⟨rfl, f, hfs, hms⟩ | hbad
      · conv => whnf
        repeat ((first | refine zT ?_ | refine zF ?_ | refine zL hX hL ?_ | refine zB hX hL ?_ | (refine zS hX hL ?_; clear hL; intro w hL) | refine zI ?_ | refine zG hX ?_ | refine zO ?_); conv => whnf)
        refine ⟨4, ⟨by omega, m2, lv, dv2, fv2, Ly, hm1.trans hm2, ⟨h1, f, hfs, hms⟩, hL⟩, by first | omega | (simp only; omega) | (simp only [List.length_cons, List.length_append]; omega), ?_, ?_⟩
        · repeat (first | exact trivial | (refine And.intro (by (conv => lhs; whnf) <;> (conv => rhs; whnf) <;> (first | rfl)) ?_))
        · repeat (first | exact trivial | (refine And.intro (by (conv => lhs; whnf) <;> (conv => rhs; whnf) <;> (first | rfl)) ?_))
      · have hz : ¬ e.2.2 = 0 := by have := hbad.1; omega
        conv => whnf
        repeat ((first | refine BrReq.yes (fun h => hz h) ?_ | refine zT ?_ | refine zF ?_ | refine zL hX hL ?_ | refine zB hX hL ?_ | (refine zS hX hL ?_; clear hL; intro w hL) | refine zI ?_ | refine zG hX ?_ | refine zO ?_); conv => whnf)
        refine DrawReq.plan hX (.fst 0 (.fst 1 (.fst 2 (.fst 3 (.fst 4 (.fst 5 (.fst 6 (.fst 7 (.fst 8 (.fst 9 (.fst 10 (.fst 11 (.fst 12 (.fst 13 (.fst 14 (.fst 15 (.done))))))))))))))))) [(bx, exO lv dv2 fv2 e), (b6, .cells (toArr [.pointer (some ⟨bx, 0, none⟩)]) 45 (0, 0))] (by kernel_rfl) (by kernel_rfl) hL (fun h => h.sublist (.cons_cons _ (.cons_cons _ (List.nil_sublist _)))) ?_
        clear hL
        intro w hL
        conv => whnf
        repeat ((first | refine zQ hX ?_ | refine zR hX ?_ | refine zA ?_ | refine zT ?_ | refine zF ?_ | refine zL hX hL ?_ | refine zB hX hL ?_ | (refine zS hX hL ?_; clear hL; intro w hL) | refine zI ?_ | refine zG hX ?_ | refine zO ?_); conv => whnf)
        exact RetReq.mk (hL.sublist (List.nil_sublist _)) ⟨rfl, _, _, _, _, rfl, .inr (.inr ⟨h1, rfl, hbad⟩)⟩
  · have ej : j = 4 := by omega
    subst ej
    obtain ⟨h1, f, hfs, hms⟩ := hS
    have hfs' := hfs
    obtain ⟨A2, n2, c2, rfl, -⟩ := hfs'
    conv => whnf
    repeat ((first | refine zT ?_ | refine zF ?_ | refine zL hX hL ?_ | refine zB hX hL ?_ | (refine zS hX hL ?_; clear hL; intro w hL) | refine zI ?_ | refine zG hX ?_ | refine zO ?_); conv => whnf)
    exact RetReq.mk (hL.sublist (List.nil_sublist _)) ⟨rfl, _, 0, 0, 0, rfl, .inr (.inl ⟨h1, rfl, f, hfs, hms⟩)⟩
end Go.Proofs.YtemdkfohlppckaaGreatDoor.ma
