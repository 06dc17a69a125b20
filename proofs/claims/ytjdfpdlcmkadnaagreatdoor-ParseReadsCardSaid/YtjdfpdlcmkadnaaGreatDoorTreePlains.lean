/- Plain: the program's, and the document's. Conditions: none. -/
import Derived.Test.YtjdfpdlcmkadnaaGreatDoorTreePlain
import Derived.Test.YtjdfpdlcmkadnaaGreatDoorEv

namespace Go.Proofs.YtjdfpdlcmkadnaaGreatDoor.tree
open Go Go.Ev Go.Proofs

set_option maxHeartbeats 4000000 in
theorem refPlain_fn (r : Re) : ∀ (m : Mem) (cs : List Value), RepRe m cs r → Small r → Fn0 Tryz.prog 8 [.agg (toArr cs)] m fun m' u => ∃ cs', u = .agg (toArr cs') ∧ RepRe m' cs' (plainR r) := by
  induction r using Re.ind with
  | h kd s0 s1 s2 s3 rs lo hi neg ih =>
    intro m cs h hsm
    obtain ⟨A, n, c, rfl, hs, hrng⟩ := h.open
    obtain ⟨hn, hc, hm⟩ := hs.lens
    have hmx : maxLen = 9223372036854775807 := rfl
    have he := hs.elem
    have hsub : rs.length ≤ 2000 ∧ ∀ p ∈ rs, Small p := by cases hsm; exact ⟨by assumption, by assumption⟩
    refine Fn.enter (N := 83) hX Tryz.func8 rfl rfl (by show _ ≤ _; simp) (fun w0 hL => ?_)
    conv => whnf
    refine NewReq.mk hL ?_
    clear hL
    intro b1 w hL
    conv => whnf
    refine NewReq.mk hL ?_
    clear hL
    intro b2 w hL
    conv => whnf
    conv => whnf
    repeat ((first | refine BrReq.tt ?_ | refine BrReq.ff ?_ | (refine' zl hX rfl rfl hL ?_ ?_ ?_; rotate_left 4; (repeat first | exact .h | refine .t ?_); exact rfl) | (refine' zm hX rfl rfl hL ?_ ?_ ?_; rotate_left 3; (repeat first | exact .h | refine .t ?_); exact rfl) | (refine' zs hX rfl rfl rfl hL ?_ ?_ ?_; rotate_left 3; (repeat first | exact .h | apply Sets.t); exact rfl; clear hL; intro w hL) | refine ArReq.i64 (by omega) (by omega) ?_ | refine SeqReq.go hX ?_ | refine OptReq.mk rfl ?_); conv => whnf)
    replace hL : Ev.Loc m [] w0 m ([] ++ [(b2, .cells (toArr (reC 0 0 0 0 0 (.slice none 0 0) 0 0 false)) 28 (0, 0)), (b1, .cells (toArr (reC kd s0 s1 s2 s3 (.slice A n c) lo hi neg)) 28 (0, 0))]) w := hL
    refine LoopReq.inv hX (fun s : Nat × Option Addr × Nat × Nat => [(3, .slice s.2.1 s.2.2.1 s.2.2.2), (10, .int .i64 s.1)]) [1, 2, 9]
      (fun s w => s.1 ≤ n ∧ ∃ m1 rows Lx, Mem.Le m m1 ∧ OwnS 28 9 (.slice s.2.1 s.2.2.1 s.2.2.2) (List.flatten rows) Lx ∧ (∀ r ∈ rows, r.length = 9) ∧ List.length rows = s.1 ∧
        (∀ (i : Nat) (x : Re), i < s.1 → rs[i]? = some x → ∃ cs, rows[i]? = some cs ∧ RepRe m1 cs (plainR x)) ∧
        Ev.Loc m [] w0 m1 (Lx ++ [(b2, .cells (toArr (reC 0 0 0 0 0 (.slice none 0 0) 0 0 false)) 28 (0, 0)), (b1, .cells (toArr (reC kd s0 s1 s2 s3 (.slice A n c) lo hi neg)) 28 (0, 0))]) w) (fun s => n - s.1) (0, none, 0, 0)
      ⟨by simp, m, [], [], Mem.Le.refl m, OwnS.nil _ _, fun r hr => by simp at hr, rfl, fun i x hi => absurd hi (by simp), hL⟩ ⟨rfl, rfl, trivial⟩ ?_
    clear hL
    rintro ⟨j, A0, n0, c0⟩ w f ⟨hj, m1, rows, Lx, hm1, ho, h9, hrl, hrep, hL⟩
    simp only at hj ho hrl hrep
    replace hL := hL.back
    replace hL : Ev.Loc m [] w0 m1 ((b2, .cells (toArr (reC 0 0 0 0 0 (.slice none 0 0) 0 0 false)) 28 (0, 0)) :: (b1, .cells (toArr (reC kd s0 s1 s2 s3 (.slice A n c) lo hi neg)) 28 (0, 0)) :: Lx) w := hL
    conv => whnf
    repeat ((first | refine BrReq.tt ?_ | refine BrReq.ff ?_ | (refine' zl hX rfl rfl hL ?_ ?_ ?_; rotate_left 4; (repeat first | exact .h | refine .t ?_); exact rfl) | (refine' zm hX rfl rfl hL ?_ ?_ ?_; rotate_left 3; (repeat first | exact .h | refine .t ?_); exact rfl) | (refine' zs hX rfl rfl rfl hL ?_ ?_ ?_; rotate_left 3; (repeat first | exact .h | apply Sets.t); exact rfl; clear hL; intro w hL) | refine ArReq.i64 (by omega) (by omega) ?_ | refine SeqReq.go hX ?_ | refine OptReq.mk rfl ?_); conv => whnf)
    refine BrReq.dec (fun hlt => ?_) (fun hlt => ?_)
    · have hlt' : j < rs.length := by simp only at hlt; omega
      obtain ⟨a, cs', ea, hl9, hcells, hr1⟩ := he j _ (List.getElem?_eq_getElem hlt')
      have ih1 := ih _ (List.getElem_mem hlt')
      have hsm1 := hsub.2 _ (List.getElem_mem hlt')
      have hxj := List.getElem?_eq_getElem hlt'
      generalize rs[j] = x at hr1 ih1 hsm1 hxj
      obtain ⟨k1, u0, u1, u2, u3, A1, n1, c1, lo1, hi1, neg1, rfl⟩ := hr1.form
      conv => whnf
      repeat ((first | (refine Idx2Req.mk j a rfl (by simp only at hlt ⊢; omega) ea ?_) | refine LdReq.agg hX rfl rfl hL hl9 (hcells.le hm1) ?_ | refine BrReq.tt ?_ | refine BrReq.ff ?_ | (refine' zl hX rfl rfl hL ?_ ?_ ?_; rotate_left 4; (repeat first | exact .h | refine .t ?_); exact rfl) | (refine' zm hX rfl rfl hL ?_ ?_ ?_; rotate_left 3; (repeat first | exact .h | refine .t ?_); exact rfl) | (refine' zs hX rfl rfl rfl hL ?_ ?_ ?_; rotate_left 3; (repeat first | exact .h | apply Sets.t); exact rfl; clear hL; intro w hL) | refine ArReq.i64 (by omega) (by omega) ?_ | refine SeqReq.go hX ?_ | refine OptReq.mk rfl ?_); conv => whnf)
      refine CallReq.pure (ih1 m1 _ (hr1.le hm1) hsm1) hL ?_
      clear hL
      rintro u m2 w hL hm2 ⟨cs2, rfl, hr2⟩
      obtain ⟨k2, v0, v1, v2, v3, A2, n2, c2, lo2, hi2, neg2, rfl⟩ := hr2.form
      conv => whnf
      repeat ((first | refine BrReq.tt ?_ | refine BrReq.ff ?_ | (refine' zl hX rfl rfl hL ?_ ?_ ?_; rotate_left 4; (repeat first | exact .h | refine .t ?_); exact rfl) | (refine' zm hX rfl rfl hL ?_ ?_ ?_; rotate_left 3; (repeat first | exact .h | refine .t ?_); exact rfl) | (refine' zs hX rfl rfl rfl hL ?_ ?_ ?_; rotate_left 3; (repeat first | exact .h | apply Sets.t); exact rfl; clear hL; intro w hL) | refine ArReq.i64 (by omega) (by omega) ?_ | refine SeqReq.go hX ?_ | refine OptReq.mk rfl ?_); conv => whnf)
      refine NewReq.mk hL ?_
      clear hL
      intro g w hL
      conv => whnf
      replace hL : Ev.Loc m [] w0 m2 ((g, .cells (toArr (reC k2 v0 v1 v2 v3 (.slice A2 n2 c2) lo2 hi2 neg2)) 28 (0, 0)) :: ([(b2, .cells (toArr (reC 0 0 0 0 0 (.slice none 0 0) 0 0 false)) 28 (0, 0)), (b1, .cells (toArr (reC kd s0 s1 s2 s3 (.slice A n c) lo hi neg)) 28 (0, 0))] ++ Lx)) w := hL
      conv => whnf
      repeat ((first | refine BrReq.tt ?_ | refine BrReq.ff ?_ | (refine' zl hX rfl rfl hL ?_ ?_ ?_; rotate_left 4; (repeat first | exact .h | refine .t ?_); exact rfl) | (refine' zm hX rfl rfl hL ?_ ?_ ?_; rotate_left 3; (repeat first | exact .h | refine .t ?_); exact rfl) | (refine' zs hX rfl rfl rfl hL ?_ ?_ ?_; rotate_left 3; (repeat first | exact .h | apply Sets.t); exact rfl; clear hL; intro w hL) | refine ArReq.i64 (by omega) (by omega) ?_ | refine SeqReq.go hX ?_ | refine OptReq.mk rfl ?_); conv => whnf)
      refine RunReq.push hX 26 28 rfl rfl rfl rfl rfl ho (L2 := [_, _]) (hL.perm (List.Perm.cons _ List.perm_append_comm)) rfl rfl (by rw [flat_len rows h9, hrl]; show _ + 9 ≤ _; omega) rfl ?_
      clear hL
      intro A3 n3 c3 L3 w hn3 ho3 hL
      replace ho3 : OwnS 28 9 (.slice A3 n3 c3) (List.flatten (rows ++ [reC k2 v0 v1 v2 v3 (.slice A2 n2 c2) lo2 hi2 neg2])) L3 := by
        rw [List.flatten_append, List.flatten_cons, List.flatten_nil, List.append_nil]; exact ho3
      have h9' : ∀ r ∈ rows ++ [reC k2 v0 v1 v2 v3 (.slice A2 n2 c2) lo2 hi2 neg2], r.length = 9 := by
        intro r hr
        rcases List.mem_append.1 hr with h | h
        · exact h9 r h
        · simp at h; subst h; rfl
      have hrep' : ∀ (i : Nat) (x : Re), i < j + 1 → rs[i]? = some x → ∃ cs, (rows ++ [reC k2 v0 v1 v2 v3 (.slice A2 n2 c2) lo2 hi2 neg2])[i]? = some cs ∧ RepRe m2 cs (plainR x) := by
        intro i y hi hy
        by_cases e : i = j
        · subst e
          rw [hxj] at hy; cases hy
          exact ⟨_, by rw [List.getElem?_append_right (by omega), hrl, Nat.sub_self]; rfl, hr2⟩
        · obtain ⟨cs, h1, h2⟩ := hrep i y (by omega) hy
          exact ⟨cs, by rw [List.getElem?_append_left (by omega)]; exact h1, h2.le hm2⟩
      conv => whnf
      repeat ((first | refine BrReq.tt ?_ | refine BrReq.ff ?_ | (refine' zl hX rfl rfl hL ?_ ?_ ?_; rotate_left 4; (repeat first | exact .h | refine .t ?_); exact rfl) | (refine' zm hX rfl rfl hL ?_ ?_ ?_; rotate_left 3; (repeat first | exact .h | refine .t ?_); exact rfl) | (refine' zs hX rfl rfl rfl hL ?_ ?_ ?_; rotate_left 3; (repeat first | exact .h | apply Sets.t); exact rfl; clear hL; intro w hL) | refine ArReq.i64 (by omega) (by omega) ?_ | refine SeqReq.go hX ?_ | refine OptReq.mk rfl ?_); conv => whnf)
      refine ⟨(j + 1, A3, n3, c3), ⟨by simp only at hlt ⊢; omega, m2, _, L3, hm1.trans hm2, ho3, h9', by simp only [List.length_append, List.length_singleton]; omega, hrep', hL⟩, by first | omega | (simp only; omega), ?_, ?_⟩
      · repeat (first | exact trivial | (refine And.intro (by (conv => lhs; whnf) <;> (conv => rhs; whnf) <;> (first | rfl)) ?_))
      · repeat (first | exact trivial | (refine And.intro (by (conv => lhs; whnf) <;> (conv => rhs; whnf) <;> (first | rfl)) ?_))
    have ej : j = rs.length := by simp only at hlt; omega
    subst ej
    obtain ⟨m2, A', c', ev, hL2, hm2, hsl, -⟩ := OwnS.freezeRows (size := 9) (R := RepRe m1) (l := rs.map plainR) (L2 := [_, _]) (by omega) ho (hL.back (L1 := [_, _]) (L2 := Lx)) h9 (by rw [List.length_map]; omega) (fun i x hx => by
      rw [List.getElem?_map, Option.map_eq_some_iff] at hx
      obtain ⟨y, hy, rfl⟩ := hx
      exact hrep i y (List.getElem?_eq_some_iff.1 hy).1 hy)
    have hsl : Sl m2 9 (RepRe m2) (.slice A0 n0 c0) (rs.map plainR) := hsl.le (Mem.Le.refl m2) fun cs x _ hx => hx.le hm2
    clear hL
    have hL := hL2
    clear hL2
    have htop := plainR_eq kd s0 s1 s2 s3 rs lo hi neg
    have hpl : n0 = (rs.map plainR).length := hsl.lens.1
    generalize rs.map plainR = ps at hsl htop hpl
    have hpn : n0 = 0 → ps = [] := fun e => List.eq_nil_of_length_eq_zero (by omega)
    replace hL : Ev.Loc m [] w0 m2 [(b2, .cells (toArr (reC 0 0 0 0 0 (.slice none 0 0) 0 0 false)) 28 (0, 0)), (b1, .cells (toArr (reC kd s0 s1 s2 s3 (.slice A n c) lo hi neg)) 28 (0, 0))] w := hL
    have hkr : inI kd := hrng.1
    by_cases k0 : kd = 0
    · subst k0
      conv => whnf
      repeat ((first | refine BrReq.tt ?_ | refine BrReq.ff ?_ | (refine' zl hX rfl rfl hL ?_ ?_ ?_; rotate_left 4; (repeat first | exact .h | refine .t ?_); exact rfl) | (refine' zm hX rfl rfl hL ?_ ?_ ?_; rotate_left 3; (repeat first | exact .h | refine .t ?_); exact rfl) | (refine' zs hX rfl rfl rfl hL ?_ ?_ ?_; rotate_left 3; (repeat first | exact .h | apply Sets.t); exact rfl; clear hL; intro w hL) | refine ArReq.i64 (by omega) (by omega) ?_ | refine SeqReq.go hX ?_ | refine OptReq.mk rfl ?_); conv => whnf)
      refine RetReq.mk (hL.sublist (List.nil_sublist _)) ⟨rfl, reC 2 0 0 0 0 (.slice none 0 0) 0 0 false, rfl, ?_⟩
      rw [htop, topR_0]
      exact leaf_rep m2 2 (by simp [inI])
    by_cases k5 : kd = 3 ∨ kd = 4 ∨ kd = 5
    · match n0, hpl with
      | 0, _ =>
        have hp0 := hpn rfl
        subst hp0
        rcases k5 with rfl | rfl | rfl
        · conv => whnf
          repeat ((first | refine BrReq.tt ?_ | refine BrReq.ff ?_ | (refine' zl hX rfl rfl hL ?_ ?_ ?_; rotate_left 4; (repeat first | exact .h | refine .t ?_); exact rfl) | (refine' zm hX rfl rfl hL ?_ ?_ ?_; rotate_left 3; (repeat first | exact .h | refine .t ?_); exact rfl) | (refine' zs hX rfl rfl rfl hL ?_ ?_ ?_; rotate_left 3; (repeat first | exact .h | apply Sets.t); exact rfl; clear hL; intro w hL) | refine ArReq.i64 (by omega) (by omega) ?_ | refine SeqReq.go hX ?_ | refine OptReq.mk rfl ?_); conv => whnf)
          refine RetReq.mk (hL.sublist (List.nil_sublist _)) ⟨rfl, reC 1 0 0 0 0 (.slice none 0 0) 0 0 false, rfl, ?_⟩
          rw [htop, topR_nil (by omega)]
          exact leaf_rep m2 1 (by simp [inI])
        · conv => whnf
          repeat ((first | refine BrReq.tt ?_ | refine BrReq.ff ?_ | (refine' zl hX rfl rfl hL ?_ ?_ ?_; rotate_left 4; (repeat first | exact .h | refine .t ?_); exact rfl) | (refine' zm hX rfl rfl hL ?_ ?_ ?_; rotate_left 3; (repeat first | exact .h | refine .t ?_); exact rfl) | (refine' zs hX rfl rfl rfl hL ?_ ?_ ?_; rotate_left 3; (repeat first | exact .h | apply Sets.t); exact rfl; clear hL; intro w hL) | refine ArReq.i64 (by omega) (by omega) ?_ | refine SeqReq.go hX ?_ | refine OptReq.mk rfl ?_); conv => whnf)
          refine RetReq.mk (hL.sublist (List.nil_sublist _)) ⟨rfl, reC 2 0 0 0 0 (.slice none 0 0) 0 0 false, rfl, ?_⟩
          rw [htop, topR_nil (by omega)]
          exact leaf_rep m2 2 (by simp [inI])
        · conv => whnf
          repeat ((first | refine BrReq.tt ?_ | refine BrReq.ff ?_ | (refine' zl hX rfl rfl hL ?_ ?_ ?_; rotate_left 4; (repeat first | exact .h | refine .t ?_); exact rfl) | (refine' zm hX rfl rfl hL ?_ ?_ ?_; rotate_left 3; (repeat first | exact .h | refine .t ?_); exact rfl) | (refine' zs hX rfl rfl rfl hL ?_ ?_ ?_; rotate_left 3; (repeat first | exact .h | apply Sets.t); exact rfl; clear hL; intro w hL) | refine ArReq.i64 (by omega) (by omega) ?_ | refine SeqReq.go hX ?_ | refine OptReq.mk rfl ?_); conv => whnf)
          refine NewReq.mk hL ?_
          clear hL
          intro g9 w hL
          conv => whnf
          replace hL : Ev.Loc m [] w0 m2 ((g9, .cells (toArr (reC 2 0 0 0 0 (.slice none 0 0) 0 0 false)) 28 (0, 0)) :: _ :: _ :: []) w := hL
          conv => whnf
          repeat ((first | refine BrReq.tt ?_ | refine BrReq.ff ?_ | (refine' zl hX rfl rfl hL ?_ ?_ ?_; rotate_left 4; (repeat first | exact .h | refine .t ?_); exact rfl) | (refine' zm hX rfl rfl hL ?_ ?_ ?_; rotate_left 3; (repeat first | exact .h | refine .t ?_); exact rfl) | (refine' zs hX rfl rfl rfl hL ?_ ?_ ?_; rotate_left 3; (repeat first | exact .h | apply Sets.t); exact rfl; clear hL; intro w hL) | refine ArReq.i64 (by omega) (by omega) ?_ | refine SeqReq.go hX ?_ | refine OptReq.mk rfl ?_); conv => whnf)
          replace hL : Ev.Loc m [] w0 m2 ((g9, .cells (toArr (reC 2 0 0 0 0 (.slice none 0 0) 0 0 false)) 28 (0, 0)) :: [_, _]) w := hL
          obtain ⟨m3, hL3, hm3, hrep⟩ := not_nothing hL
          refine RetReq.mk (hL3.sublist (List.nil_sublist _)) ⟨rfl, reC 6 0 0 0 0 (.slice (some ⟨g9, 0, none⟩) 1 1) 0 0 false, rfl, ?_⟩
          rw [htop, topR_nil (by omega)]
          exact hrep
      | 1, hpl =>
        rcases k5 with rfl | rfl | rfl
        · match ps, hpl with
          | [p], _ =>
            obtain ⟨a, cs', ea, hl9, hcells, hrep⟩ := hsl.elem 0 p rfl
            obtain ⟨k1, u0, u1, u2, u3, A1, n1, c1, lo1, hi1, neg1, rfl⟩ := hrep.form
            conv => whnf
            repeat ((first | (refine Idx2Req.mk 0 a rfl (by simp only; omega) ea ?_) | refine LdReq.agg hX rfl rfl hL hl9 hcells ?_ | refine BrReq.tt ?_ | refine BrReq.ff ?_ | (refine' zl hX rfl rfl hL ?_ ?_ ?_; rotate_left 4; (repeat first | exact .h | refine .t ?_); exact rfl) | (refine' zm hX rfl rfl hL ?_ ?_ ?_; rotate_left 3; (repeat first | exact .h | refine .t ?_); exact rfl) | (refine' zs hX rfl rfl rfl hL ?_ ?_ ?_; rotate_left 3; (repeat first | exact .h | apply Sets.t); exact rfl; clear hL; intro w hL) | refine ArReq.i64 (by omega) (by omega) ?_ | refine SeqReq.go hX ?_ | refine OptReq.mk rfl ?_); conv => whnf)
            refine RetReq.mk (hL.sublist (List.nil_sublist _)) ⟨rfl, reC k1 u0 u1 u2 u3 (.slice A1 n1 c1) lo1 hi1 neg1, rfl, ?_⟩
            rw [htop, topR_one (by omega)]
            exact hrep
        · match ps, hpl with
          | [p], _ =>
            obtain ⟨a, cs', ea, hl9, hcells, hrep⟩ := hsl.elem 0 p rfl
            obtain ⟨k1, u0, u1, u2, u3, A1, n1, c1, lo1, hi1, neg1, rfl⟩ := hrep.form
            conv => whnf
            repeat ((first | (refine Idx2Req.mk 0 a rfl (by simp only; omega) ea ?_) | refine LdReq.agg hX rfl rfl hL hl9 hcells ?_ | refine BrReq.tt ?_ | refine BrReq.ff ?_ | (refine' zl hX rfl rfl hL ?_ ?_ ?_; rotate_left 4; (repeat first | exact .h | refine .t ?_); exact rfl) | (refine' zm hX rfl rfl hL ?_ ?_ ?_; rotate_left 3; (repeat first | exact .h | refine .t ?_); exact rfl) | (refine' zs hX rfl rfl rfl hL ?_ ?_ ?_; rotate_left 3; (repeat first | exact .h | apply Sets.t); exact rfl; clear hL; intro w hL) | refine ArReq.i64 (by omega) (by omega) ?_ | refine SeqReq.go hX ?_ | refine OptReq.mk rfl ?_); conv => whnf)
            refine RetReq.mk (hL.sublist (List.nil_sublist _)) ⟨rfl, reC k1 u0 u1 u2 u3 (.slice A1 n1 c1) lo1 hi1 neg1, rfl, ?_⟩
            rw [htop, topR_one (by omega)]
            exact hrep
        · match ps, hpl with
          | [p], _ =>
            obtain ⟨a, cs', ea, hl9, hcells, hrep⟩ := hsl.elem 0 p rfl
            obtain ⟨k1, u0, u1, u2, u3, A1, n1, c1, lo1, hi1, neg1, rfl⟩ := hrep.form
            conv => whnf
            repeat ((first | (refine Idx2Req.mk 0 a rfl (by simp only; omega) ea ?_) | refine LdReq.agg hX rfl rfl hL hl9 hcells ?_ | refine BrReq.tt ?_ | refine BrReq.ff ?_ | (refine' zl hX rfl rfl hL ?_ ?_ ?_; rotate_left 4; (repeat first | exact .h | refine .t ?_); exact rfl) | (refine' zm hX rfl rfl hL ?_ ?_ ?_; rotate_left 3; (repeat first | exact .h | refine .t ?_); exact rfl) | (refine' zs hX rfl rfl rfl hL ?_ ?_ ?_; rotate_left 3; (repeat first | exact .h | apply Sets.t); exact rfl; clear hL; intro w hL) | refine ArReq.i64 (by omega) (by omega) ?_ | refine SeqReq.go hX ?_ | refine OptReq.mk rfl ?_); conv => whnf)
            refine RetReq.mk (hL.sublist (List.nil_sublist _)) ⟨rfl, reC k1 u0 u1 u2 u3 (.slice A1 n1 c1) lo1 hi1 neg1, rfl, ?_⟩
            rw [htop, topR_one (by omega)]
            exact hrep
      | n' + 2, hpl =>
        rcases k5 with rfl | rfl | rfl
        · conv => whnf
          repeat ((first | refine BrReq.tt ?_ | refine BrReq.ff ?_ | (refine' zl hX rfl rfl hL ?_ ?_ ?_; rotate_left 4; (repeat first | exact .h | refine .t ?_); exact rfl) | (refine' zm hX rfl rfl hL ?_ ?_ ?_; rotate_left 3; (repeat first | exact .h | refine .t ?_); exact rfl) | (refine' zs hX rfl rfl rfl hL ?_ ?_ ?_; rotate_left 3; (repeat first | exact .h | apply Sets.t); exact rfl; clear hL; intro w hL) | refine ArReq.i64 (by omega) (by omega) ?_ | refine SeqReq.go hX ?_ | refine OptReq.mk rfl ?_); conv => whnf)
          refine NewReq.mk hL ?_
          clear hL
          intro b6 w hL
          conv => whnf
          conv => whnf
          repeat ((first | refine BrReq.tt ?_ | refine BrReq.ff ?_ | (refine' zl hX rfl rfl hL ?_ ?_ ?_; rotate_left 4; (repeat first | exact .h | refine .t ?_); exact rfl) | (refine' zm hX rfl rfl hL ?_ ?_ ?_; rotate_left 3; (repeat first | exact .h | refine .t ?_); exact rfl) | (refine' zs hX rfl rfl rfl hL ?_ ?_ ?_; rotate_left 3; (repeat first | exact .h | apply Sets.t); exact rfl; clear hL; intro w hL) | refine ArReq.i64 (by omega) (by omega) ?_ | refine SeqReq.go hX ?_ | refine OptReq.mk rfl ?_); conv => whnf)
          refine RetReq.mk (hL.sublist (List.nil_sublist _)) ⟨rfl, reC 3 s0 s1 s2 s3 (.slice A0 (n' + 2) c0) lo hi neg, rfl, ?_⟩
          rw [htop, topR_self (by omega) (.inr (by omega))]
          exact RepRe.shut hsl hrng
        · conv => whnf
          repeat ((first | refine BrReq.tt ?_ | refine BrReq.ff ?_ | (refine' zl hX rfl rfl hL ?_ ?_ ?_; rotate_left 4; (repeat first | exact .h | refine .t ?_); exact rfl) | (refine' zm hX rfl rfl hL ?_ ?_ ?_; rotate_left 3; (repeat first | exact .h | refine .t ?_); exact rfl) | (refine' zs hX rfl rfl rfl hL ?_ ?_ ?_; rotate_left 3; (repeat first | exact .h | apply Sets.t); exact rfl; clear hL; intro w hL) | refine ArReq.i64 (by omega) (by omega) ?_ | refine SeqReq.go hX ?_ | refine OptReq.mk rfl ?_); conv => whnf)
          refine NewReq.mk hL ?_
          clear hL
          intro b6 w hL
          conv => whnf
          conv => whnf
          repeat ((first | refine BrReq.tt ?_ | refine BrReq.ff ?_ | (refine' zl hX rfl rfl hL ?_ ?_ ?_; rotate_left 4; (repeat first | exact .h | refine .t ?_); exact rfl) | (refine' zm hX rfl rfl hL ?_ ?_ ?_; rotate_left 3; (repeat first | exact .h | refine .t ?_); exact rfl) | (refine' zs hX rfl rfl rfl hL ?_ ?_ ?_; rotate_left 3; (repeat first | exact .h | apply Sets.t); exact rfl; clear hL; intro w hL) | refine ArReq.i64 (by omega) (by omega) ?_ | refine SeqReq.go hX ?_ | refine OptReq.mk rfl ?_); conv => whnf)
          refine RetReq.mk (hL.sublist (List.nil_sublist _)) ⟨rfl, reC 4 s0 s1 s2 s3 (.slice A0 (n' + 2) c0) lo hi neg, rfl, ?_⟩
          rw [htop, topR_self (by omega) (.inr (by omega))]
          exact RepRe.shut hsl hrng
        · conv => whnf
          repeat ((first | refine BrReq.tt ?_ | refine BrReq.ff ?_ | (refine' zl hX rfl rfl hL ?_ ?_ ?_; rotate_left 4; (repeat first | exact .h | refine .t ?_); exact rfl) | (refine' zm hX rfl rfl hL ?_ ?_ ?_; rotate_left 3; (repeat first | exact .h | refine .t ?_); exact rfl) | (refine' zs hX rfl rfl rfl hL ?_ ?_ ?_; rotate_left 3; (repeat first | exact .h | apply Sets.t); exact rfl; clear hL; intro w hL) | refine ArReq.i64 (by omega) (by omega) ?_ | refine SeqReq.go hX ?_ | refine OptReq.mk rfl ?_); conv => whnf)
          refine NewReq.mk hL ?_
          clear hL
          intro b6 w hL
          conv => whnf
          conv => whnf
          repeat ((first | refine BrReq.tt ?_ | refine BrReq.ff ?_ | (refine' zl hX rfl rfl hL ?_ ?_ ?_; rotate_left 4; (repeat first | exact .h | refine .t ?_); exact rfl) | (refine' zm hX rfl rfl hL ?_ ?_ ?_; rotate_left 3; (repeat first | exact .h | refine .t ?_); exact rfl) | (refine' zs hX rfl rfl rfl hL ?_ ?_ ?_; rotate_left 3; (repeat first | exact .h | apply Sets.t); exact rfl; clear hL; intro w hL) | refine ArReq.i64 (by omega) (by omega) ?_ | refine SeqReq.go hX ?_ | refine OptReq.mk rfl ?_); conv => whnf)
          refine RetReq.mk (hL.sublist (List.nil_sublist _)) ⟨rfl, reC 5 s0 s1 s2 s3 (.slice A0 (n' + 2) c0) lo hi neg, rfl, ?_⟩
          rw [htop, topR_self (by omega) (.inr (by omega))]
          exact RepRe.shut hsl hrng
    · conv => whnf
      repeat ((first | refine BrReq.no (by omega) ?_ | refine BrReq.tt ?_ | refine BrReq.ff ?_ | (refine' zl hX rfl rfl hL ?_ ?_ ?_; rotate_left 4; (repeat first | exact .h | refine .t ?_); exact rfl) | (refine' zm hX rfl rfl hL ?_ ?_ ?_; rotate_left 3; (repeat first | exact .h | refine .t ?_); exact rfl) | (refine' zs hX rfl rfl rfl hL ?_ ?_ ?_; rotate_left 3; (repeat first | exact .h | apply Sets.t); exact rfl; clear hL; intro w hL) | refine ArReq.i64 (by omega) (by omega) ?_ | refine SeqReq.go hX ?_ | refine OptReq.mk rfl ?_); conv => whnf)
      conv => whnf
      repeat ((first | refine BrReq.tt ?_ | refine BrReq.ff ?_ | (refine' zl hX rfl rfl hL ?_ ?_ ?_; rotate_left 4; (repeat first | exact .h | refine .t ?_); exact rfl) | (refine' zm hX rfl rfl hL ?_ ?_ ?_; rotate_left 3; (repeat first | exact .h | refine .t ?_); exact rfl) | (refine' zs hX rfl rfl rfl hL ?_ ?_ ?_; rotate_left 3; (repeat first | exact .h | apply Sets.t); exact rfl; clear hL; intro w hL) | refine ArReq.i64 (by omega) (by omega) ?_ | refine SeqReq.go hX ?_ | refine OptReq.mk rfl ?_); conv => whnf)
      refine NewReq.mk hL ?_
      clear hL
      intro b6 w hL
      conv => whnf
      conv => whnf
      repeat ((first | refine BrReq.tt ?_ | refine BrReq.ff ?_ | (refine' zl hX rfl rfl hL ?_ ?_ ?_; rotate_left 4; (repeat first | exact .h | refine .t ?_); exact rfl) | (refine' zm hX rfl rfl hL ?_ ?_ ?_; rotate_left 3; (repeat first | exact .h | refine .t ?_); exact rfl) | (refine' zs hX rfl rfl rfl hL ?_ ?_ ?_; rotate_left 3; (repeat first | exact .h | apply Sets.t); exact rfl; clear hL; intro w hL) | refine ArReq.i64 (by omega) (by omega) ?_ | refine SeqReq.go hX ?_ | refine OptReq.mk rfl ?_); conv => whnf)
      refine RetReq.mk (hL.sublist (List.nil_sublist _)) ⟨rfl, reC kd s0 s1 s2 s3 (.slice A0 n0 c0) lo hi neg, rfl, ?_⟩
      rw [htop, topR_self (by omega) (.inl k5)]
      exact RepRe.shut hsl hrng
end Go.Proofs.YtjdfpdlcmkadnaaGreatDoor.tree
