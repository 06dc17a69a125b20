/- The spans that a pattern matches, as the document has it. Conditions: none. -/
import Derived.Test.YtpdiljdklllmjaaGreatTabsRest
import Derived.Test.YtpdiljdklllmjaaGreatTabsHas
import Derived.Test.YtpdiljdklllmjaaGreatTreeForm

namespace Go.Proofs.YtpdiljdklllmjaaGreat.tabs
open Go Go.Ev Go.Proofs Go.Proofs.YtpdiljdklllmjaaGreat.tree

abbrev Tb := Nat → Nat → Bool
/-- The spans of one of several kinds, of the spans of its parts. -/
def nodeT (w : List Int) (k s0 s1 s2 s3 lo hi : Int) (neg : Bool) (l : List Tb) : Tb :=
  let n := w.length + 1
  let h : Tb := l.headD fun _ _ => false
  if k = 1 then fun i j => decide (i = j)
  else if k = 2 then fun i j => decide (j = i + 1) && hasR s0 s1 s2 s3 (w.getD i 0).toNat
  else if k = 3 then l.foldl (thenT n) fun i j => decide (i = j)
  else if k = 4 then l.foldl (fun f g i j => f i j || g i j) fun _ _ => false
  else if k = 5 then l.foldl (fun f g i j => f i j && g i j) fun i j => decide (i ≤ j) && !false
  else if k = 6 then fun i j => decide (i ≤ j) && !h i j
  else if k = 7 then timesT n lo hi h
  else if k = 8 ∨ k = 9 then lookT n k neg h
  else if k = 10 then fun i j => decide (i = j) && (decide (i = 0) || decide (w.getD (i - 1) 0 = 10))
  else if k = 11 then fun i j => decide (i = j) && (decide (i = w.length) || decide (w.getD i 0 = 10))
  else fun _ _ => false
mutual
/-- The spans of a pattern. -/
def spansR (w : List Int) : Re → Tb
  | .mk k s0 s1 s2 s3 rs lo hi neg => nodeT w k s0 s1 s2 s3 lo hi neg (spansL w rs)
def spansL (w : List Int) : List Re → List Tb
  | [] => []
  | p :: l => spansR w p :: spansL w l
end
theorem spansL_eq (w : List Int) (l : List Re) : spansL w l = l.map (spansR w) := by
  induction l with
  | nil => rfl
  | cons p l ih => simp only [spansL, List.map_cons, ih]

/-- One cell that is a table. -/
def tabC (m : Mem) (n : Nat) (cs : List Value) (f : Tb) : Prop := ∃ v, cs = [v] ∧ RepTab m v n f

theorem fold_succ (op : Tb → Tb → Tb) (z : Tb) (l : List Tb) (j : Nat) (h : j < l.length) : (l.take (j + 1)).foldl op z = op ((l.take j).foldl op z) l[j] := by
  rw [List.take_succ_eq_append_getElem h, List.foldl_append]; rfl

set_option maxHeartbeats 4000000 in
theorem Spans_fn (r : Re) : ∀ (m : Mem) (cs : List Value) (wv : Value) (w : List Int), RepRe m cs r → Small r → allR r = true → SlI m .u8 wv w → (∀ z ∈ w, 0 ≤ z ∧ z ≤ 255) → w.length ≤ 100 →
    Fn0 Tryz.prog 15 [.agg (toArr cs), wv] m fun m' u => RepTab m' u (w.length + 1) (spansR w r) := by
  induction r using Re.ind with
  | h kd s0 s1 s2 s3 rs lo hi neg ih =>
    intro m cs wv ws h hsm hall hw hwb hwl
    obtain ⟨A, n, c, rfl, hs, hrng⟩ := h.open
    obtain ⟨hn, hc, hm⟩ := hs.lens
    have hmx : maxLen = 9223372036854775807 := rfl
    have he := hs.elem
    have hwv := hw
    obtain ⟨W, wn, wc, rfl, hwn, hwc, hwm, hwe⟩ := hw
    have hsub : rs.length ≤ 2000 ∧ ∀ p ∈ rs, Small p := by cases hsm; exact ⟨by assumption, by assumption⟩
    simp only [allR, Bool.and_eq_true, decide_eq_true_eq] at hall
    obtain ⟨hO, hall⟩ := hall
    rw [allL_eq, List.all_eq_true] at hall
    obtain ⟨N, hN⟩ : ∃ N, N = ws.length + 1 := ⟨_, rfl⟩
    refine Fn.enter (N := 183) hX Tryz.func15 rfl rfl (by show _ ≤ _; simp) (fun w0 hL => ?_)
    conv => whnf
    refine NewReq.mk hL ?_
    clear hL
    intro b2 w hL
    conv => whnf
    conv => whnf
    repeat ((first | refine zT ?_ | refine zF ?_ | refine zL hX hL ?_ | refine zB hX hL ?_ | (refine zS hX hL ?_; clear hL; intro w hL) | refine zI ?_ | refine zG hX ?_ | refine zO ?_); conv => whnf)
    refine LoopReq.inv hX (fun q : Nat × Option Addr × Nat × Nat => [(6, .slice q.2.1 q.2.2.1 q.2.2.2), (21, .int .i64 q.1)]) [1, 2, 5, 20]
      (fun q w => q.1 ≤ n ∧ ∃ m1 rows Lx, Mem.Le m m1 ∧ OwnS 44 1 (.slice q.2.1 q.2.2.1 q.2.2.2) (List.flatten rows) Lx ∧ (∀ r ∈ rows, r.length = 1) ∧
        List.length rows = q.1 ∧ (∀ (i : Nat) (x : Tb), ((rs.take q.1).map (spansR ws))[i]? = some x → ∃ cs, rows[i]? = some cs ∧ tabC m1 N cs x) ∧
        Ev.Loc m [] w0 m1 ((b2, .cells (toArr (reC kd s0 s1 s2 s3 (.slice A n c) lo hi neg)) 27 (0, 0)) :: Lx) w) (fun q => n - q.1) (0, none, 0, 0)
      ⟨by simp, m, [], [], Mem.Le.refl m, OwnS.nil _ _, fun r hr => by simp at hr, rfl, fun i x hx => by simp at hx, hL⟩ ⟨rfl, rfl, trivial⟩ ?_
    clear hL
    rintro ⟨j, A0, n0, c0⟩ w f ⟨hj, m1, rows, Lx, hm1, hown, hrows, hlen, hdone, hL⟩
    simp only at hj hown hlen hdone
    conv => whnf
    repeat ((first | refine zT ?_ | refine zF ?_ | refine zL hX hL ?_ | refine zB hX hL ?_ | (refine zS hX hL ?_; clear hL; intro w hL) | refine zI ?_ | refine zG hX ?_ | refine zO ?_); conv => whnf)
    refine BrReq.dec (fun hlt => ?_) (fun hlt => ?_)
    · have hlt' : j < rs.length := by simp only at hlt; omega
      obtain ⟨a, cs', rfl, hl9, hcells, hrep⟩ := he j _ (List.getElem?_eq_getElem hlt')
      obtain ⟨k1, u0, u1, u2, u3, A1, n1, c1, lo1, hi1, neg1, rfl⟩ := hrep.form
      conv => whnf
      repeat ((first | refine Idx2Req.mk j a rfl (by omega) rfl ?_ | refine LdReq.agg hX rfl rfl hL hl9 (hcells.le hm1) ?_ | refine zT ?_ | refine zF ?_ | refine zL hX hL ?_ | refine zB hX hL ?_ | (refine zS hX hL ?_; clear hL; intro w hL) | refine zI ?_ | refine zG hX ?_ | refine zO ?_); conv => whnf)
      refine CallReq.mk (L1 := []) (ih _ (List.getElem_mem hlt') m1 _ _ ws (hrep.le hm1) (hsub.2 _ (List.getElem_mem hlt')) (hall _ (List.getElem_mem hlt')) (hwv.le' hm1) hwb hwl) hL ?_
      clear hL
      rintro v m2 L1 w hL hm2 ⟨rfl, ht⟩
      rw [← hN] at ht
      obtain ⟨A3, c3, rfl⟩ := ht.form
      have hL : Ev.Loc m [] w0 m2 (_ :: Lx) w := hL
      conv => whnf
      repeat ((first | refine zT ?_ | refine zF ?_ | refine zL hX hL ?_ | refine zB hX hL ?_ | (refine zS hX hL ?_; clear hL; intro w hL) | refine zI ?_ | refine zG hX ?_ | refine zO ?_); conv => whnf)
      refine NewReq.mk hL ?_
      clear hL
      intro b6 w hL
      conv => whnf
      conv => whnf
      repeat ((first | refine zT ?_ | refine zF ?_ | refine zL hX hL ?_ | refine zB hX hL ?_ | (refine zS hX hL ?_; clear hL; intro w hL) | refine zI ?_ | refine zG hX ?_ | refine zO ?_); conv => whnf)
      have hL : Ev.Loc m [] w0 m2 ([(b6, .cells (toArr [.slice A3 N c3]) 44 (0, 0)), _] ++ Lx) w := hL
      have hflen := flat_len rows hrows
      refine RunReq.append hX 45 44 rfl rfl rfl rfl rfl hown hL.back (news := [.slice A3 N c3]) rfl (hL.src 0 rfl) (by simp [Value.oneCell']) (by rw [hflen]; simp; omega) rfl ?_
      clear hL
      intro A6 n6 c6 L6 w hn6 ho6 hL
      replace hL := hL.back
      have hL : Ev.Loc m [] w0 m2 (_ :: _ :: L6) w := hL
      have ef : rows.flatten ++ [Value.slice A3 N c3] = (rows ++ [[Value.slice A3 N c3]]).flatten := by
        rw [List.flatten_append, List.flatten_cons, List.flatten_nil, List.append_nil]
      rw [ef] at ho6
      have hrows' : ∀ r ∈ rows ++ [[Value.slice A3 N c3]], r.length = 1 := by
        intro r hr
        rcases List.mem_append.1 hr with hr | hr
        · exact hrows r hr
        · rw [List.mem_singleton] at hr; subst hr; rfl
      have hdone' : ∀ (i : Nat) (x : Tb), ((rs.take (j + 1)).map (spansR ws))[i]? = some x → ∃ cs, (rows ++ [[Value.slice A3 N c3]])[i]? = some cs ∧ tabC m2 N cs x := by
        intro i x hx
        rw [List.take_succ_eq_append_getElem hlt', List.map_append] at hx
        have hl : ((rs.take j).map (spansR ws)).length = j := by simp; omega
        by_cases hi : i < j
        · rw [List.getElem?_append_left (by omega)] at hx
          obtain ⟨cs, e1, v, e2, e3⟩ := hdone i x hx
          exact ⟨cs, by rw [List.getElem?_append_left (by omega)]; exact e1, v, e2, e3.le hm2⟩
        · rw [List.getElem?_append_right (by omega), hl] at hx
          have hi0 : i - j = 0 := by
            have := (List.getElem?_eq_some_iff.1 hx).1; simp at this; omega
          rw [hi0] at hx
          simp only [List.map_cons, List.getElem?_cons_zero, Option.some.injEq] at hx
          subst hx
          refine ⟨_, ?_, _, rfl, ht⟩
          rw [List.getElem?_append_right (by omega), hlen, hi0]; rfl
      conv => whnf
      repeat ((first | refine zT ?_ | refine zF ?_ | refine zL hX hL ?_ | refine zB hX hL ?_ | (refine zS hX hL ?_; clear hL; intro w hL) | refine zI ?_ | refine zG hX ?_ | refine zO ?_); conv => whnf)
      refine ⟨(j + 1, A6, n6, c6), ⟨by simp only; omega, m2, _, L6, hm1.trans hm2, ho6, hrows', by rw [List.length_append, hlen]; rfl, hdone', hL.drop⟩, by first | omega | (simp only; omega), ?_, ?_⟩
      · repeat (first | exact trivial | (refine And.intro (by (conv => lhs; whnf) <;> (conv => rhs; whnf) <;> (first | rfl)) ?_))
      · repeat (first | exact trivial | (refine And.intro (by (conv => lhs; whnf) <;> (conv => rhs; whnf) <;> (first | rfl)) ?_))
    have hjn : j = rs.length := by simp only at hlt; omega
    rw [hjn, List.take_length] at hdone
    obtain ⟨m2, A', c', ev, hL, hm2, hsl, -⟩ := OwnS.freezeRows (size := 1) (l := rs.map (spansR ws)) (L2 := [_]) (by omega) hown (Ev.Loc.back (L1 := [_]) hL) hrows (by simp; omega) hdone
    cases ev
    have hm12 := hm1.trans hm2
    replace hsl : Sl m2 1 (tabC m2 N) (.slice A0 rows.length c0) (rs.map (spansR ws)) := hsl.le (Mem.Le.refl m2) fun cs x _ ⟨v, e1, e2⟩ => ⟨v, e1, e2.le hm2⟩
    conv => whnf
    repeat ((first | refine zT ?_ | refine zF ?_ | refine zL hX hL ?_ | refine zB hX hL ?_ | (refine zS hX hL ?_; clear hL; intro w hL) | refine zI ?_ | refine zG hX ?_ | refine zO ?_); conv => whnf)
    rw [show ((wn : Int) + 1) = (N : Int) by omega]
    refine CallReq.mk (L1 := []) (Blank_fn m2 N (by omega)) hL ?_
    clear hL
    rintro v m3 L1 w hL hm3 ⟨g0, bs, rfl, hmax, hout, rfl⟩
    replace hL := hL.back
    replace hL : Ev.Loc m [] w0 m3 ((b2, .cells (toArr (reC kd s0 s1 s2 s3 (.slice A n c) lo hi neg)) 27 (0, 0)) :: rowsL bs N (fun _ _ => false) N) w := hL
    have add0 : ∀ x : Addr, x.add 0 = x := fun x => by cases x; rfl
    have hel : ∀ (i : Nat) (f : Tb), (rs.map (spansR ws))[i]? = some f → ∃ a, A0 = some a ∧ ∃ Av cv, mcell m2 (a.add (scale i 1)) = some (.slice Av N cv) ∧ RepTab m2 (.slice Av N cv) N f := by
      intro i f hf
      obtain ⟨a, cs, e1, e2, e3, v, rfl, e5⟩ := hsl.elem i f hf
      obtain ⟨Av, cv, rfl⟩ := e5.form
      refine ⟨a, e1, Av, cv, ?_, e5⟩
      have := e3 0 _ rfl
      rwa [add0] at this
    have hbyte : ∀ (i : Nat) (z : Int), ws[i]? = some z → ∃ a, W = some a ∧ mcell m (a.add (scale i 1)) = some (.int .u8 z) := by
      intro i z hz
      obtain ⟨a, cs, e1, e2, e3, rfl⟩ := hwe i z hz
      have := e3 0 _ rfl
      rw [add0] at this
      exact ⟨a, e1, this⟩
    conv => whnf
    repeat ((first | refine zT ?_ | refine zF ?_ | refine zL hX hL ?_ | refine zB hX hL ?_ | (refine zS hX hL ?_; clear hL; intro w hL) | refine zI ?_ | refine zG hX ?_ | refine zO ?_); conv => whnf)
    refine BrReq.dec (fun k1 => ?_) (fun k1 => ?_)
    · have e : spansR ws (.mk kd s0 s1 s2 s3 rs lo hi neg) = fun i j => decide (i = j) := by
        simp only [spansR, nodeT]; rw [if_pos k1]
      conv => whnf
      repeat ((first | refine zT ?_ | refine zF ?_ | refine zL hX hL ?_ | refine zB hX hL ?_ | (refine zS hX hL ?_; clear hL; intro w hL) | refine zI ?_ | refine zG hX ?_ | refine zO ?_); conv => whnf)
      refine CallReq.pure (One_fn m3 N (by omega)) hL ?_
      clear hL
      intro v m4 w hL hm4 ht
      obtain ⟨A1, c1, rfl⟩ := ht.form
      conv => whnf
      repeat ((first | refine zT ?_ | refine zF ?_ | refine zL hX hL ?_ | refine zB hX hL ?_ | (refine zS hX hL ?_; clear hL; intro w hL) | refine zI ?_ | refine zG hX ?_ | refine zO ?_); conv => whnf)
      exact RetReq.mk (nil_sub hL) ⟨rfl, by rw [e, ← hN]; exact ht⟩
    refine BrReq.dec (fun k2 => ?_) (fun k2 => ?_)
    · have e : spansR ws (.mk kd s0 s1 s2 s3 rs lo hi neg) = fun i j => decide (j = i + 1) && hasR s0 s1 s2 s3 (ws.getD i 0).toNat := by
        simp only [spansR, nodeT]; rw [if_neg k1, if_pos k2]
      conv => whnf
      repeat ((first | refine zT ?_ | refine zF ?_ | refine zL hX hL ?_ | refine zB hX hL ?_ | (refine zS hX hL ?_; clear hL; intro w hL) | refine zI ?_ | refine zG hX ?_ | refine zO ?_); conv => whnf)
      refine LoopReq.inv hX (fun j : Nat => [(47, .int .i64 j)]) [1, 2, 8, 46]
        (fun j w => j ≤ ws.length ∧ ∃ F, (∀ a b, a < N → b < N → F a b = (decide (a < j) && (decide (b = a + 1) && hasR s0 s1 s2 s3 (ws.getD a 0).toNat))) ∧ Ev.Loc m [] w0 m3 ((b2, .cells (toArr (reC kd s0 s1 s2 s3 (.slice A n c) lo hi neg)) 27 (0, 0)) :: rowsL bs N F N) w) (fun j => ws.length - j) 0
        ⟨by omega, _, fun a b _ _ => by simp, hL⟩ ⟨rfl, trivial⟩ ?_
      clear hL
      rintro j w f ⟨hj, F, hF, hL⟩
      conv => whnf
      repeat ((first | refine zT ?_ | refine zF ?_ | refine zL hX hL ?_ | refine zB hX hL ?_ | (refine zS hX hL ?_; clear hL; intro w hL) | refine zI ?_ | refine zG hX ?_ | refine zO ?_); conv => whnf)
      refine BrReq.dec (fun hlt => ?_) (fun hlt => ?_)
      · have hpl : j < ws.length := by omega
        have hjn : j < N := by omega
        have hjn1 : j + 1 < N := by omega
        obtain ⟨aw, ew, hbv⟩ := hbyte j _ (List.getElem?_eq_getElem hpl)
        cases ew
        have hgd : ws.getD j 0 = ws[j] := by rw [List.getD_eq_getElem?_getD, List.getElem?_eq_getElem hpl]; rfl
        obtain ⟨hz0, hz1⟩ := hwb _ (List.getElem_mem hpl)
        obtain ⟨bz, hbz⟩ : ∃ bz : Nat, ws[j] = (bz : Int) := ⟨ws[j].toNat, by omega⟩
        rw [hbz] at hbv hgd
        have hF' : ∀ a b, a < N → b < N → upd F j (j + 1) (hasR s0 s1 s2 s3 (ws.getD j 0).toNat) a b = (decide (a < j + 1) && (decide (b = a + 1) && hasR s0 s1 s2 s3 (ws.getD a 0).toNat)) := by
          intro a b ha hb
          by_cases e : a = j ∧ b = j + 1
          · obtain ⟨rfl, rfl⟩ := e
            rw [upd_same, decide_eq_true (by omega), decide_eq_true rfl, Bool.true_and, Bool.true_and]
          · rw [upd_other e, hF a b ha hb]
            by_cases e2 : b = a + 1
            · congr 1; exact decide_eq_decide.2 (by omega)
            · rw [decide_eq_false e2]; simp
        conv => whnf
        repeat ((first | refine zT ?_ | refine zF ?_ | refine zL hX hL ?_ | refine zB hX hL ?_ | (refine zS hX hL ?_; clear hL; intro w hL) | refine zI ?_ | refine zG hX ?_ | refine zO ?_); conv => whnf)
        refine DrawReq.plan hX (.fst 0 (.fst 1 (.fst 2 (.fst 3 (.fst 4 (.fst 5 (.fst 6 (.fst 7 (.fst 8 (.fst 9 (.fst 10 (.fst 11 (.fst 12 (.alt 13 (.fst 14 (.alt 15 (.done) (.stop))) (.stop))))))))))))))) [(b2, .cells (toArr (reC kd s0 s1 s2 s3 (.slice A n c) lo hi neg)) 27 (0, 0))] (by kernel_rfl) (by kernel_rfl) hL (fun h => h.one 0 rfl) ?_
        clear hL
        intro w hL
        conv => whnf
        repeat ((first | refine Idx2Req.mk j _ rfl (by omega) rfl ?_ | refine QLdReq.one hX rfl rfl (hout j hjn) ?_ | refine QLdReq.one hX rfl rfl (mcell_le (hm12.trans hm3) hbv) ?_ | refine zQ hX ?_ | refine zR hX ?_ | refine zA ?_ | refine zT ?_ | refine zF ?_ | refine zL hX hL ?_ | refine zB hX hL ?_ | (refine zS hX hL ?_; clear hL; intro w hL) | refine zI ?_ | refine zG hX ?_ | refine zO ?_); conv => whnf)
        refine CallReq.val (Has_fn m3 s0 s1 s2 s3 hrng.2.1 hrng.2.2.1 hrng.2.2.2.1 hrng.2.2.2.2.1 bz (by omega)) hL ?_
        clear hL
        intro w hL
        conv => whnf
        repeat ((first | refine SReq.mk (hL.one 0 rfl) ?_ | refine Idx2Req.mk (j + 1) _ (by omega) (by omega) rfl ?_ | refine zQ hX ?_ | refine zR hX ?_ | refine zA ?_ | refine zT ?_ | refine zF ?_ | refine zL hX hL ?_ | refine zB hX hL ?_ | (refine zS hX hL ?_; clear hL; intro w hL) | refine zI ?_ | refine zG hX ?_ | refine zO ?_); conv => whnf)
        refine StReq.tabc rfl rfl (j + 1) hL (rowsL_get hjn) hjn1 ?_
        clear hL
        intro w hL
        replace hL : Ev.Loc m [] w0 m3 ((b2, .cells (toArr (reC kd s0 s1 s2 s3 (.slice A n c) lo hi neg)) 27 (0, 0)) :: (rowsL bs N F N).set j _) w := hL
        rw [rowsL_set] at hL
        have hbt : (ws.getD j 0).toNat = bz := by rw [hgd]; omega
        rw [hbt] at hF'
        conv => whnf
        repeat ((first | refine SReq.mk (hL.one 0 rfl) ?_ | refine zQ hX ?_ | refine zR hX ?_ | refine zA ?_ | refine zT ?_ | refine zF ?_ | refine zL hX hL ?_ | refine zB hX hL ?_ | (refine zS hX hL ?_; clear hL; intro w hL) | refine zI ?_ | refine zG hX ?_ | refine zO ?_); conv => whnf)
        refine ⟨j + 1, ⟨by omega, _, hF', hL⟩, by first | omega | (simp only; omega), ?_, ?_⟩
        · repeat (first | exact trivial | (refine And.intro (by (conv => lhs; whnf) <;> (conv => rhs; whnf) <;> (first | rfl)) ?_))
        · repeat (first | exact trivial | (refine And.intro (by (conv => lhs; whnf) <;> (conv => rhs; whnf) <;> (first | rfl)) ?_))
      · conv => whnf
        repeat ((first | refine zT ?_ | refine zF ?_ | refine zL hX hL ?_ | refine zB hX hL ?_ | (refine zS hX hL ?_; clear hL; intro w hL) | refine zI ?_ | refine zG hX ?_ | refine zO ?_); conv => whnf)
        obtain ⟨m4, hL, hm4, ht⟩ := OwnTab.freeze (L2 := [_]) ⟨g0, bs, rfl, hmax, hout, rfl⟩ (Ev.Loc.back (L1 := [_]) hL)
        refine RetReq.mk (nil_sub hL) ⟨rfl, ?_⟩
        rw [e, ← hN]
        refine ht.congr fun a b ha hb => ?_
        rw [hF a b ha hb]
        by_cases e2 : b = a + 1
        · rw [decide_eq_true (by omega : a < j), Bool.true_and]
        · rw [decide_eq_false e2]; simp
    refine BrReq.dec (fun k3 => ?_) (fun k3 => ?_)
    · have e : spansR ws (.mk kd s0 s1 s2 s3 rs lo hi neg) = (rs.map (spansR ws)).foldl (thenT N) (fun i j => decide (i = j)) := by
        simp only [spansR, nodeT, spansL_eq]; rw [if_neg k1, if_neg k2, if_pos k3]; rw [hN]
      conv => whnf
      repeat ((first | refine zT ?_ | refine zF ?_ | refine zL hX hL ?_ | refine zB hX hL ?_ | (refine zS hX hL ?_; clear hL; intro w hL) | refine zI ?_ | refine zG hX ?_ | refine zO ?_); conv => whnf)
      refine CallReq.pure (One_fn m3 N (by omega)) hL ?_
      clear hL
      intro v m4 w hL hm4 ht
      obtain ⟨At, ct, rfl⟩ := ht.form
      have hm24 : Mem.Le m2 m4 := hm3.trans hm4
      conv => whnf
      repeat ((first | refine zT ?_ | refine zF ?_ | refine zL hX hL ?_ | refine zB hX hL ?_ | (refine zS hX hL ?_; clear hL; intro w hL) | refine zI ?_ | refine zG hX ?_ | refine zO ?_); conv => whnf)
      refine LoopReq.inv hX (fun s : Nat × Option Addr × Nat => [(8, .slice s.2.1 N s.2.2), (72, .int .i64 s.1)]) [6, 71]
        (fun s w => s.1 ≤ rs.length ∧ ∃ m1, Mem.Le m2 m1 ∧ RepTab m1 (.slice s.2.1 N s.2.2) N (((rs.map (spansR ws)).take s.1).foldl (thenT N) (fun i j => decide (i = j))) ∧ Ev.Loc m [] w0 m1 [] w) (fun s => rs.length - s.1) (0, At, ct)
        ⟨by simp, m4, hm24, ht, nil_sub hL⟩ ⟨rfl, rfl, trivial⟩ ?_
      clear hL ht
      rintro ⟨j, A2, c2⟩ w f ⟨hj, m5, hm5, ht, hL⟩
      simp only at hj ht
      conv => whnf
      repeat ((first | refine zT ?_ | refine zF ?_ | refine zL hX hL ?_ | refine zB hX hL ?_ | (refine zS hX hL ?_; clear hL; intro w hL) | refine zI ?_ | refine zG hX ?_ | refine zO ?_); conv => whnf)
      refine BrReq.dec (fun hlt => ?_) (fun hlt => ?_)
      · have hj' : j < (rs.map (spansR ws)).length := by simp only at hlt; simp; omega
        have hjl : j < rs.length := by simpa using hj'
        obtain ⟨a, ea, Av, cv, hcv, hrv⟩ := hel j _ (List.getElem?_eq_getElem hj')
        cases ea
        conv => whnf
        repeat ((first | (refine Idx2Req.mk j _ rfl (show j < rows.length by simp only at hlt; omega) rfl ?_) | refine LdReq.one hX rfl rfl hL (mcell_le hm5 hcv) ?_ | refine zT ?_ | refine zF ?_ | refine zL hX hL ?_ | refine zB hX hL ?_ | (refine zS hX hL ?_; clear hL; intro w hL) | refine zI ?_ | refine zG hX ?_ | refine zO ?_); conv => whnf)
        refine CallReq.pure (Then_fn m5 _ _ N _ _ ht (hrv.le hm5) (by omega)) hL ?_
        clear hL
        intro v m6 w hL hm6 ht2
        obtain ⟨A3, c3, rfl⟩ := ht2.form
        have hfold := fold_succ (thenT N) (fun i j => decide (i = j)) (rs.map (spansR ws)) j hj'
        conv => whnf
        repeat ((first | refine zT ?_ | refine zF ?_ | refine zL hX hL ?_ | refine zB hX hL ?_ | (refine zS hX hL ?_; clear hL; intro w hL) | refine zI ?_ | refine zG hX ?_ | refine zO ?_); conv => whnf)
        refine ⟨(j + 1, A3, c3), ⟨by simp only at hlt ⊢; omega, m6, hm5.trans hm6, by simp only; rw [hfold]; exact ht2, hL⟩, by first | omega | (simp only; omega), ?_, ?_⟩
        · repeat (first | exact trivial | (refine And.intro (by (conv => lhs; whnf) <;> (conv => rhs; whnf) <;> (first | rfl)) ?_))
        · repeat (first | exact trivial | (refine And.intro (by (conv => lhs; whnf) <;> (conv => rhs; whnf) <;> (first | rfl)) ?_))
      · have ej : j = (rs.map (spansR ws)).length := by simp only at hlt; simp; omega
        rw [ej, List.take_length] at ht
        conv => whnf
        repeat ((first | refine zT ?_ | refine zF ?_ | refine zL hX hL ?_ | refine zB hX hL ?_ | (refine zS hX hL ?_; clear hL; intro w hL) | refine zI ?_ | refine zG hX ?_ | refine zO ?_); conv => whnf)
        exact RetReq.mk hL ⟨rfl, by rw [e, ← hN]; exact ht⟩
    refine BrReq.dec (fun k4 => ?_) (fun k4 => ?_)
    · have e : spansR ws (.mk kd s0 s1 s2 s3 rs lo hi neg) = (rs.map (spansR ws)).foldl (fun f g i j => f i j || g i j) (fun _ _ => false) := by
        simp only [spansR, nodeT, spansL_eq]; rw [if_neg k1, if_neg k2, if_neg k3, if_pos k4]
      obtain ⟨m4, hL, hm4, ht⟩ := OwnTab.freeze (L2 := [_]) ⟨g0, bs, rfl, hmax, hout, rfl⟩ (Ev.Loc.back (L1 := [_]) hL)
      have hm24 : Mem.Le m2 m4 := hm3.trans hm4
      conv => whnf
      repeat ((first | refine zT ?_ | refine zF ?_ | refine zL hX hL ?_ | refine zB hX hL ?_ | (refine zS hX hL ?_; clear hL; intro w hL) | refine zI ?_ | refine zG hX ?_ | refine zO ?_); conv => whnf)
      refine LoopReq.inv hX (fun s : Nat × Option Addr × Nat => [(8, .slice s.2.1 N s.2.2), (86, .int .i64 s.1)]) [6, 85]
        (fun s w => s.1 ≤ rs.length ∧ ∃ m1, Mem.Le m2 m1 ∧ RepTab m1 (.slice s.2.1 N s.2.2) N (((rs.map (spansR ws)).take s.1).foldl (fun f g i j => f i j || g i j) (fun _ _ => false)) ∧ Ev.Loc m [] w0 m1 [] w) (fun s => rs.length - s.1) (0, (some ⟨g0, 0, none⟩), N)
        ⟨by simp, m4, hm24, ht, nil_sub hL⟩ ⟨rfl, rfl, trivial⟩ ?_
      clear hL ht
      rintro ⟨j, A2, c2⟩ w f ⟨hj, m5, hm5, ht, hL⟩
      simp only at hj ht
      conv => whnf
      repeat ((first | refine zT ?_ | refine zF ?_ | refine zL hX hL ?_ | refine zB hX hL ?_ | (refine zS hX hL ?_; clear hL; intro w hL) | refine zI ?_ | refine zG hX ?_ | refine zO ?_); conv => whnf)
      refine BrReq.dec (fun hlt => ?_) (fun hlt => ?_)
      · have hj' : j < (rs.map (spansR ws)).length := by simp only at hlt; simp; omega
        have hjl : j < rs.length := by simpa using hj'
        obtain ⟨a, ea, Av, cv, hcv, hrv⟩ := hel j _ (List.getElem?_eq_getElem hj')
        cases ea
        conv => whnf
        repeat ((first | (refine Idx2Req.mk j _ rfl (show j < rows.length by simp only at hlt; omega) rfl ?_) | refine LdReq.one hX rfl rfl hL (mcell_le hm5 hcv) ?_ | refine zT ?_ | refine zF ?_ | refine zL hX hL ?_ | refine zB hX hL ?_ | (refine zS hX hL ?_; clear hL; intro w hL) | refine zI ?_ | refine zG hX ?_ | refine zO ?_); conv => whnf)
        refine CallReq.pure (Either_fn m5 _ _ N _ _ ht (hrv.le hm5) (by omega)) hL ?_
        clear hL
        intro v m6 w hL hm6 ht2
        obtain ⟨A3, c3, rfl⟩ := ht2.form
        have hfold := fold_succ (fun f g i j => f i j || g i j) (fun _ _ => false) (rs.map (spansR ws)) j hj'
        conv => whnf
        repeat ((first | refine zT ?_ | refine zF ?_ | refine zL hX hL ?_ | refine zB hX hL ?_ | (refine zS hX hL ?_; clear hL; intro w hL) | refine zI ?_ | refine zG hX ?_ | refine zO ?_); conv => whnf)
        refine ⟨(j + 1, A3, c3), ⟨by simp only at hlt ⊢; omega, m6, hm5.trans hm6, by simp only; rw [hfold]; exact ht2, hL⟩, by first | omega | (simp only; omega), ?_, ?_⟩
        · repeat (first | exact trivial | (refine And.intro (by (conv => lhs; whnf) <;> (conv => rhs; whnf) <;> (first | rfl)) ?_))
        · repeat (first | exact trivial | (refine And.intro (by (conv => lhs; whnf) <;> (conv => rhs; whnf) <;> (first | rfl)) ?_))
      · have ej : j = (rs.map (spansR ws)).length := by simp only at hlt; simp; omega
        rw [ej, List.take_length] at ht
        conv => whnf
        repeat ((first | refine zT ?_ | refine zF ?_ | refine zL hX hL ?_ | refine zB hX hL ?_ | (refine zS hX hL ?_; clear hL; intro w hL) | refine zI ?_ | refine zG hX ?_ | refine zO ?_); conv => whnf)
        exact RetReq.mk hL ⟨rfl, by rw [e, ← hN]; exact ht⟩
    refine BrReq.dec (fun k5 => ?_) (fun k5 => ?_)
    · have e : spansR ws (.mk kd s0 s1 s2 s3 rs lo hi neg) = (rs.map (spansR ws)).foldl (fun f g i j => f i j && g i j) (fun i j => decide (i ≤ j) && !false) := by
        simp only [spansR, nodeT, spansL_eq]; rw [if_neg k1, if_neg k2, if_neg k3, if_neg k4, if_pos k5]
      obtain ⟨m4, hL, hm4, ht⟩ := OwnTab.freeze (L2 := [_]) ⟨g0, bs, rfl, hmax, hout, rfl⟩ (Ev.Loc.back (L1 := [_]) hL)
      have hm24 : Mem.Le m2 m4 := hm3.trans hm4
      conv => whnf
      repeat ((first | refine zT ?_ | refine zF ?_ | refine zL hX hL ?_ | refine zB hX hL ?_ | (refine zS hX hL ?_; clear hL; intro w hL) | refine zI ?_ | refine zG hX ?_ | refine zO ?_); conv => whnf)
      refine CallReq.pure (Other_fn m4 _ N _ ht (by omega)) hL ?_
      clear hL ht
      intro v m40 w hL hm40 ht
      obtain ⟨At, ct, rfl⟩ := ht.form
      have hm240 : Mem.Le m2 m40 := hm24.trans hm40
      conv => whnf
      repeat ((first | refine zT ?_ | refine zF ?_ | refine zL hX hL ?_ | refine zB hX hL ?_ | (refine zS hX hL ?_; clear hL; intro w hL) | refine zI ?_ | refine zG hX ?_ | refine zO ?_); conv => whnf)
      refine LoopReq.inv hX (fun s : Nat × Option Addr × Nat => [(8, .slice s.2.1 N s.2.2), (102, .int .i64 s.1)]) [6, 101]
        (fun s w => s.1 ≤ rs.length ∧ ∃ m1, Mem.Le m2 m1 ∧ RepTab m1 (.slice s.2.1 N s.2.2) N (((rs.map (spansR ws)).take s.1).foldl (fun f g i j => f i j && g i j) (fun i j => decide (i ≤ j) && !false)) ∧ Ev.Loc m [] w0 m1 [] w) (fun s => rs.length - s.1) (0, At, ct)
        ⟨by simp, m40, hm240, ht, nil_sub hL⟩ ⟨rfl, rfl, trivial⟩ ?_
      clear hL ht
      rintro ⟨j, A2, c2⟩ w f ⟨hj, m5, hm5, ht, hL⟩
      simp only at hj ht
      conv => whnf
      repeat ((first | refine zT ?_ | refine zF ?_ | refine zL hX hL ?_ | refine zB hX hL ?_ | (refine zS hX hL ?_; clear hL; intro w hL) | refine zI ?_ | refine zG hX ?_ | refine zO ?_); conv => whnf)
      refine BrReq.dec (fun hlt => ?_) (fun hlt => ?_)
      · have hj' : j < (rs.map (spansR ws)).length := by simp only at hlt; simp; omega
        have hjl : j < rs.length := by simpa using hj'
        obtain ⟨a, ea, Av, cv, hcv, hrv⟩ := hel j _ (List.getElem?_eq_getElem hj')
        cases ea
        conv => whnf
        repeat ((first | (refine Idx2Req.mk j _ rfl (show j < rows.length by simp only at hlt; omega) rfl ?_) | refine LdReq.one hX rfl rfl hL (mcell_le hm5 hcv) ?_ | refine zT ?_ | refine zF ?_ | refine zL hX hL ?_ | refine zB hX hL ?_ | (refine zS hX hL ?_; clear hL; intro w hL) | refine zI ?_ | refine zG hX ?_ | refine zO ?_); conv => whnf)
        refine CallReq.pure (Both_fn m5 _ _ N _ _ ht (hrv.le hm5) (by omega)) hL ?_
        clear hL
        intro v m6 w hL hm6 ht2
        obtain ⟨A3, c3, rfl⟩ := ht2.form
        have hfold := fold_succ (fun f g i j => f i j && g i j) (fun i j => decide (i ≤ j) && !false) (rs.map (spansR ws)) j hj'
        conv => whnf
        repeat ((first | refine zT ?_ | refine zF ?_ | refine zL hX hL ?_ | refine zB hX hL ?_ | (refine zS hX hL ?_; clear hL; intro w hL) | refine zI ?_ | refine zG hX ?_ | refine zO ?_); conv => whnf)
        refine ⟨(j + 1, A3, c3), ⟨by simp only at hlt ⊢; omega, m6, hm5.trans hm6, by simp only; rw [hfold]; exact ht2, hL⟩, by first | omega | (simp only; omega), ?_, ?_⟩
        · repeat (first | exact trivial | (refine And.intro (by (conv => lhs; whnf) <;> (conv => rhs; whnf) <;> (first | rfl)) ?_))
        · repeat (first | exact trivial | (refine And.intro (by (conv => lhs; whnf) <;> (conv => rhs; whnf) <;> (first | rfl)) ?_))
      · have ej : j = (rs.map (spansR ws)).length := by simp only at hlt; simp; omega
        rw [ej, List.take_length] at ht
        conv => whnf
        repeat ((first | refine zT ?_ | refine zF ?_ | refine zL hX hL ?_ | refine zB hX hL ?_ | (refine zS hX hL ?_; clear hL; intro w hL) | refine zI ?_ | refine zG hX ?_ | refine zO ?_); conv => whnf)
        exact RetReq.mk hL ⟨rfl, by rw [e, ← hN]; exact ht⟩
    refine BrReq.dec (fun k6 => ?_) (fun k6 => ?_)
    · have e : spansR ws (.mk kd s0 s1 s2 s3 rs lo hi neg) = fun i j => decide (i ≤ j) && !((rs.map (spansR ws)).headD (fun _ _ => false)) i j := by
        simp only [spansR, nodeT, spansL_eq]; rw [if_neg k1, if_neg k2, if_neg k3, if_neg k4, if_neg k5, if_pos k6]
      have hlen0 : 0 < rs.length := by
        have := hO.2.1
        have ek : partsK kd = 1 := by unfold partsK; rw [if_neg (by omega), if_pos (by omega)]
        rw [ek] at this; have := this (by omega); omega
      obtain ⟨p, hp⟩ : ∃ p, rs[0]? = some p := ⟨_, List.getElem?_eq_getElem hlen0⟩
      have hp' : (rs.map (spansR ws))[0]? = some (spansR ws p) := by rw [List.getElem?_map, hp]; rfl
      have hhd : (rs.map (spansR ws)).headD (fun _ _ => false) = spansR ws p := by
        rw [List.headD_eq_head?_getD, List.head?_eq_getElem?, hp']; rfl
      obtain ⟨a, ea, Av, cv, hcv, hrv⟩ := hel 0 _ hp'
      cases ea
      rw [hhd] at e
      conv => whnf
      repeat ((first | refine Idx2Req.mk 0 _ rfl (show 0 < rows.length by omega) rfl ?_ | refine LdReq.one hX rfl rfl hL (mcell_le hm3 hcv) ?_ | refine zT ?_ | refine zF ?_ | refine zL hX hL ?_ | refine zB hX hL ?_ | (refine zS hX hL ?_; clear hL; intro w hL) | refine zI ?_ | refine zG hX ?_ | refine zO ?_); conv => whnf)
      refine CallReq.pure (Other_fn m3 _ N _ (hrv.le hm3) (by omega)) hL ?_
      clear hL
      intro v m4 w hL hm4 ht
      obtain ⟨A3, c3, rfl⟩ := ht.form
      conv => whnf
      repeat ((first | refine zT ?_ | refine zF ?_ | refine zL hX hL ?_ | refine zB hX hL ?_ | (refine zS hX hL ?_; clear hL; intro w hL) | refine zI ?_ | refine zG hX ?_ | refine zO ?_); conv => whnf)
      exact RetReq.mk (nil_sub hL) ⟨rfl, by rw [e, ← hN]; exact ht⟩
    refine BrReq.dec (fun k7 => ?_) (fun k7 => ?_)
    · have e : spansR ws (.mk kd s0 s1 s2 s3 rs lo hi neg) = timesT N lo hi ((rs.map (spansR ws)).headD (fun _ _ => false)) := by
        simp only [spansR, nodeT, spansL_eq]; rw [if_neg k1, if_neg k2, if_neg k3, if_neg k4, if_neg k5, if_neg k6, if_pos k7, hN]
      have hlen0 : 0 < rs.length := by
        have := hO.2.1
        have ek : partsK kd = 1 := by unfold partsK; rw [if_neg (by omega), if_pos (by omega)]
        rw [ek] at this; have := this (by omega); omega
      obtain ⟨p, hp⟩ : ∃ p, rs[0]? = some p := ⟨_, List.getElem?_eq_getElem hlen0⟩
      have hp' : (rs.map (spansR ws))[0]? = some (spansR ws p) := by rw [List.getElem?_map, hp]; rfl
      have hhd : (rs.map (spansR ws)).headD (fun _ _ => false) = spansR ws p := by
        rw [List.headD_eq_head?_getD, List.head?_eq_getElem?, hp']; rfl
      obtain ⟨a, ea, Av, cv, hcv, hrv⟩ := hel 0 _ hp'
      cases ea
      rw [hhd] at e
      have h7 := hO.2.2.2.2.1 k7
      conv => whnf
      repeat ((first | refine zT ?_ | refine zF ?_ | refine zL hX hL ?_ | refine zB hX hL ?_ | (refine zS hX hL ?_; clear hL; intro w hL) | refine zI ?_ | refine zG hX ?_ | refine zO ?_); conv => whnf)
      refine DrawReq.plan hX (.fst 0 (.fst 1 (.fst 2 (.fst 3 (.alt 4 (.fst 5 (.done)) (.stop)))))) [(b2, .cells (toArr (reC kd s0 s1 s2 s3 (.slice A n c) lo hi neg)) 27 (0, 0))] (by kernel_rfl) (by kernel_rfl) hL (fun h => h.one 0 rfl) ?_
      clear hL
      intro w hL
      conv => whnf
      repeat ((first | refine Idx2Req.mk 0 _ rfl (show 0 < rows.length by omega) rfl ?_ | refine QLdReq.one hX rfl rfl (mcell_le hm3 hcv) ?_ | refine zQ hX ?_ | refine zR hX ?_ | refine zA ?_ | refine zT ?_ | refine zF ?_ | refine zL hX hL ?_ | refine zB hX hL ?_ | (refine zS hX hL ?_; clear hL; intro w hL) | refine zI ?_ | refine zG hX ?_ | refine zO ?_); conv => whnf)
      refine CallReq.pure (times_fn m3 kd s0 s1 s2 s3 lo hi neg A n c _ N _ (hrv.le hm3) (by omega) (by omega) (by omega) (by omega) (by omega)) hL ?_
      clear hL
      intro v m4 w hL hm4 ht
      obtain ⟨A3, c3, rfl⟩ := ht.form
      conv => whnf
      repeat ((first | refine SReq.mk ((hL.one 0 rfl).weaken hm4 (hm12.trans hm3)) ?_ | refine zQ hX ?_ | refine zR hX ?_ | refine zA ?_ | refine zT ?_ | refine zF ?_ | refine zL hX hL ?_ | refine zB hX hL ?_ | (refine zS hX hL ?_; clear hL; intro w hL) | refine zI ?_ | refine zG hX ?_ | refine zO ?_); conv => whnf)
      exact RetReq.mk (nil_sub hL) ⟨rfl, by rw [e, ← hN]; exact ht⟩
    have h89 : kd = 8 ∨ kd = 9 → spansR ws (.mk kd s0 s1 s2 s3 rs lo hi neg) = lookT N kd neg ((rs.map (spansR ws)).headD (fun _ _ => false)) := by
      intro k89
      simp only [spansR, nodeT, spansL_eq]; rw [if_neg k1, if_neg k2, if_neg k3, if_neg k4, if_neg k5, if_neg k6, if_neg k7, if_pos k89, hN]
    conv => whnf
    repeat ((first | refine zT ?_ | refine zF ?_ | refine zL hX hL ?_ | refine zB hX hL ?_ | (refine zS hX hL ?_; clear hL; intro w hL) | refine zI ?_ | refine zG hX ?_ | refine zO ?_); conv => whnf)
    refine BrReq.dec (fun k8 => ?_) (fun k8 => ?_)
    · have e := h89 (.inl k8)
      have hlen0 : 0 < rs.length := by
        have := hO.2.1
        have ek : partsK kd = 1 := by unfold partsK; rw [if_neg (by omega), if_pos (by omega)]
        rw [ek] at this; have := this (by omega); omega
      obtain ⟨p, hp⟩ : ∃ p, rs[0]? = some p := ⟨_, List.getElem?_eq_getElem hlen0⟩
      have hp' : (rs.map (spansR ws))[0]? = some (spansR ws p) := by rw [List.getElem?_map, hp]; rfl
      have hhd : (rs.map (spansR ws)).headD (fun _ _ => false) = spansR ws p := by
        rw [List.headD_eq_head?_getD, List.head?_eq_getElem?, hp']; rfl
      obtain ⟨a, ea, Av, cv, hcv, hrv⟩ := hel 0 _ hp'
      cases ea
      rw [hhd] at e
      conv => whnf
      repeat ((first | refine zT ?_ | refine zF ?_ | refine zL hX hL ?_ | refine zB hX hL ?_ | (refine zS hX hL ?_; clear hL; intro w hL) | refine zI ?_ | refine zG hX ?_ | refine zO ?_); conv => whnf)
      refine DrawReq.plan hX (.fst 0 (.fst 1 (.fst 2 (.fst 3 (.alt 4 (.fst 5 (.done)) (.stop)))))) [(b2, .cells (toArr (reC kd s0 s1 s2 s3 (.slice A n c) lo hi neg)) 27 (0, 0))] (by kernel_rfl) (by kernel_rfl) hL (fun h => h.one 0 rfl) ?_
      clear hL
      intro w hL
      conv => whnf
      repeat ((first | refine Idx2Req.mk 0 _ rfl (show 0 < rows.length by omega) rfl ?_ | refine QLdReq.one hX rfl rfl (mcell_le hm3 hcv) ?_ | refine zQ hX ?_ | refine zR hX ?_ | refine zA ?_ | refine zT ?_ | refine zF ?_ | refine zL hX hL ?_ | refine zB hX hL ?_ | (refine zS hX hL ?_; clear hL; intro w hL) | refine zI ?_ | refine zG hX ?_ | refine zO ?_); conv => whnf)
      refine CallReq.pure (look_fn m3 kd s0 s1 s2 s3 lo hi neg A n c _ N _ (hrv.le hm3) (by omega)) hL ?_
      clear hL
      intro v m4 w hL hm4 ht
      obtain ⟨A3, c3, rfl⟩ := ht.form
      conv => whnf
      repeat ((first | refine SReq.mk ((hL.one 0 rfl).weaken hm4 (hm12.trans hm3)) ?_ | refine zQ hX ?_ | refine zR hX ?_ | refine zA ?_ | refine zT ?_ | refine zF ?_ | refine zL hX hL ?_ | refine zB hX hL ?_ | (refine zS hX hL ?_; clear hL; intro w hL) | refine zI ?_ | refine zG hX ?_ | refine zO ?_); conv => whnf)
      exact RetReq.mk (nil_sub hL) ⟨rfl, by rw [e, ← hN]; exact ht⟩
    conv => whnf
    repeat ((first | refine zT ?_ | refine zF ?_ | refine zL hX hL ?_ | refine zB hX hL ?_ | (refine zS hX hL ?_; clear hL; intro w hL) | refine zI ?_ | refine zG hX ?_ | refine zO ?_); conv => whnf)
    refine BrReq.dec (fun k9 => ?_) (fun k9 => ?_)
    · have e := h89 (.inr k9)
      have hlen0 : 0 < rs.length := by
        have := hO.2.1
        have ek : partsK kd = 1 := by unfold partsK; rw [if_neg (by omega), if_pos (by omega)]
        rw [ek] at this; have := this (by omega); omega
      obtain ⟨p, hp⟩ : ∃ p, rs[0]? = some p := ⟨_, List.getElem?_eq_getElem hlen0⟩
      have hp' : (rs.map (spansR ws))[0]? = some (spansR ws p) := by rw [List.getElem?_map, hp]; rfl
      have hhd : (rs.map (spansR ws)).headD (fun _ _ => false) = spansR ws p := by
        rw [List.headD_eq_head?_getD, List.head?_eq_getElem?, hp']; rfl
      obtain ⟨a, ea, Av, cv, hcv, hrv⟩ := hel 0 _ hp'
      cases ea
      rw [hhd] at e
      conv => whnf
      repeat ((first | refine zT ?_ | refine zF ?_ | refine zL hX hL ?_ | refine zB hX hL ?_ | (refine zS hX hL ?_; clear hL; intro w hL) | refine zI ?_ | refine zG hX ?_ | refine zO ?_); conv => whnf)
      refine DrawReq.plan hX (.fst 0 (.fst 1 (.fst 2 (.fst 3 (.alt 4 (.fst 5 (.done)) (.stop)))))) [(b2, .cells (toArr (reC kd s0 s1 s2 s3 (.slice A n c) lo hi neg)) 27 (0, 0))] (by kernel_rfl) (by kernel_rfl) hL (fun h => h.one 0 rfl) ?_
      clear hL
      intro w hL
      conv => whnf
      repeat ((first | refine Idx2Req.mk 0 _ rfl (show 0 < rows.length by omega) rfl ?_ | refine QLdReq.one hX rfl rfl (mcell_le hm3 hcv) ?_ | refine zQ hX ?_ | refine zR hX ?_ | refine zA ?_ | refine zT ?_ | refine zF ?_ | refine zL hX hL ?_ | refine zB hX hL ?_ | (refine zS hX hL ?_; clear hL; intro w hL) | refine zI ?_ | refine zG hX ?_ | refine zO ?_); conv => whnf)
      refine CallReq.pure (look_fn m3 kd s0 s1 s2 s3 lo hi neg A n c _ N _ (hrv.le hm3) (by omega)) hL ?_
      clear hL
      intro v m4 w hL hm4 ht
      obtain ⟨A3, c3, rfl⟩ := ht.form
      conv => whnf
      repeat ((first | refine SReq.mk ((hL.one 0 rfl).weaken hm4 (hm12.trans hm3)) ?_ | refine zQ hX ?_ | refine zR hX ?_ | refine zA ?_ | refine zT ?_ | refine zF ?_ | refine zL hX hL ?_ | refine zB hX hL ?_ | (refine zS hX hL ?_; clear hL; intro w hL) | refine zI ?_ | refine zG hX ?_ | refine zO ?_); conv => whnf)
      exact RetReq.mk (nil_sub hL) ⟨rfl, by rw [e, ← hN]; exact ht⟩
    have k89 : ¬ (kd = 8 ∨ kd = 9) := by omega
    refine BrReq.dec (fun k10 => ?_) (fun k10 => ?_)
    · have e : spansR ws (.mk kd s0 s1 s2 s3 rs lo hi neg) = fun i j => decide (i = j) && (decide (i = 0) || decide (ws.getD (i - 1) 0 = 10)) := by
        simp only [spansR, nodeT]; rw [if_neg k1, if_neg k2, if_neg k3, if_neg k4, if_neg k5, if_neg k6, if_neg k7, if_neg k89, if_pos k10]
      conv => whnf
      repeat ((first | refine zT ?_ | refine zF ?_ | refine zL hX hL ?_ | refine zB hX hL ?_ | (refine zS hX hL ?_; clear hL; intro w hL) | refine zI ?_ | refine zG hX ?_ | refine zO ?_); conv => whnf)
      refine LoopReq.inv hX (fun j : Nat => [(137, .int .i64 j)]) [1, 8, 136]
        (fun j w => j ≤ N ∧ ∃ F, (∀ a b, a < N → b < N → F a b = (decide (a < j) && (decide (a = b) && (decide (a = 0) || decide (ws.getD (a - 1) 0 = 10))))) ∧ Ev.Loc m [] w0 m3 ((b2, .cells (toArr (reC kd s0 s1 s2 s3 (.slice A n c) lo hi neg)) 27 (0, 0)) :: rowsL bs N F N) w) (fun j => N - j) 0
        ⟨by omega, _, fun a b _ _ => by simp, hL⟩ ⟨rfl, trivial⟩ ?_
      clear hL
      rintro j w f ⟨hj, F, hF, hL⟩
      conv => whnf
      repeat ((first | refine zT ?_ | refine zF ?_ | refine zL hX hL ?_ | refine zB hX hL ?_ | (refine zS hX hL ?_; clear hL; intro w hL) | refine zI ?_ | refine zG hX ?_ | refine zO ?_); conv => whnf)
      refine BrReq.dec (fun hlt => ?_) (fun hlt => ?_)
      · have hjn : j < N := by omega
        have hstep : ∀ v : Bool, v = (decide (j = 0) || decide (ws.getD (j - 1) 0 = 10)) → ∀ a b, a < N → b < N → upd F j j v a b = (decide (a < j + 1) && (decide (a = b) && (decide (a = 0) || decide (ws.getD (a - 1) 0 = 10)))) := by
          intro v hv a b ha hb
          by_cases e : a = j ∧ b = j
          · rw [e.1, e.2, upd_same, hv, decide_eq_true (show j < j + 1 by omega), decide_eq_true (rfl : j = j), Bool.true_and, Bool.true_and]
          · rw [upd_other e, hF a b ha hb]
            by_cases e2 : a = b
            · congr 1; exact decide_eq_decide.2 (by omega)
            · rw [decide_eq_false e2]; simp
        conv => whnf
        repeat ((first | refine zT ?_ | refine zF ?_ | refine zL hX hL ?_ | refine zB hX hL ?_ | (refine zS hX hL ?_; clear hL; intro w hL) | refine zI ?_ | refine zG hX ?_ | refine zO ?_); conv => whnf)
        refine DrawReq.plan hX (.fst 0 (.fst 1 (.fst 2 (.fst 3 (.fst 4 (.fst 5 (.fst 6 (.fst 7 (.fst 8 (.fst 9 (.fst 10 (.fst 11 (.fst 12 (.fst 13 (.fst 14 (.fst 15 (.alt 16 (.done) (.stop)))))))))))))))))) [(b2, .cells (toArr (reC kd s0 s1 s2 s3 (.slice A n c) lo hi neg)) 27 (0, 0))] (by kernel_rfl) (by kernel_rfl) hL (fun h => h.one 0 rfl) ?_
        clear hL
        intro w hL
        conv => whnf
        repeat ((first | refine Idx2Req.mk j _ rfl (by omega) rfl ?_ | refine QLdReq.one hX rfl rfl (hout j hjn) ?_ | refine zQ hX ?_ | refine zR hX ?_ | refine zA ?_ | refine zT ?_ | refine zF ?_ | refine zL hX hL ?_ | refine zB hX hL ?_ | (refine zS hX hL ?_; clear hL; intro w hL) | refine zI ?_ | refine zG hX ?_ | refine zO ?_); conv => whnf)
        refine BrReq.dec (fun hz => ?_) (fun hz => ?_)
        · conv => whnf
          repeat ((first | refine Idx2Req.mk j _ rfl (by omega) rfl ?_ | refine QLdReq.one hX rfl rfl (hout j hjn) ?_ | refine zQ hX ?_ | refine zR hX ?_ | refine zA ?_ | refine zT ?_ | refine zF ?_ | refine zL hX hL ?_ | refine zB hX hL ?_ | (refine zS hX hL ?_; clear hL; intro w hL) | refine zI ?_ | refine zG hX ?_ | refine zO ?_); conv => whnf)
          refine StReq.tabc rfl rfl (j + 1) hL (rowsL_get hjn) hjn ?_
          clear hL
          intro w hL
          replace hL : Ev.Loc m [] w0 m3 ((b2, .cells (toArr (reC kd s0 s1 s2 s3 (.slice A n c) lo hi neg)) 27 (0, 0)) :: (rowsL bs N F N).set j _) w := hL
          rw [rowsL_set] at hL
          have hF' := hstep true (by rw [decide_eq_true (by omega : j = 0), Bool.true_or])
          conv => whnf
          repeat ((first | refine SReq.mk (hL.one 0 rfl) ?_ | refine zQ hX ?_ | refine zR hX ?_ | refine zA ?_ | refine zT ?_ | refine zF ?_ | refine zL hX hL ?_ | refine zB hX hL ?_ | (refine zS hX hL ?_; clear hL; intro w hL) | refine zI ?_ | refine zG hX ?_ | refine zO ?_); conv => whnf)
          refine ⟨j + 1, ⟨by omega, _, hF', hL⟩, by first | omega | (simp only; omega), ?_, ?_⟩
          · repeat (first | exact trivial | (refine And.intro (by (conv => lhs; whnf) <;> (conv => rhs; whnf) <;> (first | rfl)) ?_))
          · repeat (first | exact trivial | (refine And.intro (by (conv => lhs; whnf) <;> (conv => rhs; whnf) <;> (first | rfl)) ?_))
        · have hpl : j - 1 < ws.length := by omega
          obtain ⟨aw, ew, hbv⟩ := hbyte (j - 1) _ (List.getElem?_eq_getElem hpl)
          cases ew
          have hgd : ws.getD (j - 1) 0 = ws[j - 1] := by rw [List.getD_eq_getElem?_getD, List.getElem?_eq_getElem hpl]; rfl
          conv => whnf
          repeat ((first | refine Idx2Req.mk j _ rfl (by omega) rfl ?_ | refine QLdReq.one hX rfl rfl (hout j hjn) ?_ | refine Idx2Req.mk (j - 1) _ (by omega) (by omega) rfl ?_ | refine QLdReq.one hX rfl rfl (mcell_le (hm12.trans hm3) hbv) ?_ | refine zQ hX ?_ | refine zR hX ?_ | refine zA ?_ | refine zT ?_ | refine zF ?_ | refine zL hX hL ?_ | refine zB hX hL ?_ | (refine zS hX hL ?_; clear hL; intro w hL) | refine zI ?_ | refine zG hX ?_ | refine zO ?_); conv => whnf)
          refine StReq.tabc rfl rfl (j + 1) hL (rowsL_get hjn) hjn ?_
          clear hL
          intro w hL
          replace hL : Ev.Loc m [] w0 m3 ((b2, .cells (toArr (reC kd s0 s1 s2 s3 (.slice A n c) lo hi neg)) 27 (0, 0)) :: (rowsL bs N F N).set j _) w := hL
          rw [rowsL_set] at hL
          have hF' := hstep (decide (ws[j - 1] = 10)) (by rw [decide_eq_false (by omega : ¬ (j = 0)), Bool.false_or, hgd])
          conv => whnf
          repeat ((first | refine SReq.mk (hL.one 0 rfl) ?_ | refine zQ hX ?_ | refine zR hX ?_ | refine zA ?_ | refine zT ?_ | refine zF ?_ | refine zL hX hL ?_ | refine zB hX hL ?_ | (refine zS hX hL ?_; clear hL; intro w hL) | refine zI ?_ | refine zG hX ?_ | refine zO ?_); conv => whnf)
          refine ⟨j + 1, ⟨by omega, _, hF', hL⟩, by first | omega | (simp only; omega), ?_, ?_⟩
          · repeat (first | exact trivial | (refine And.intro (by (conv => lhs; whnf) <;> (conv => rhs; whnf) <;> (first | rfl)) ?_))
          · repeat (first | exact trivial | (refine And.intro (by (conv => lhs; whnf) <;> (conv => rhs; whnf) <;> (first | rfl)) ?_))
      · conv => whnf
        repeat ((first | refine zT ?_ | refine zF ?_ | refine zL hX hL ?_ | refine zB hX hL ?_ | (refine zS hX hL ?_; clear hL; intro w hL) | refine zI ?_ | refine zG hX ?_ | refine zO ?_); conv => whnf)
        obtain ⟨m4, hL, hm4, ht⟩ := OwnTab.freeze (L2 := [_]) ⟨g0, bs, rfl, hmax, hout, rfl⟩ (Ev.Loc.back (L1 := [_]) hL)
        exact RetReq.mk (nil_sub hL) ⟨rfl, by rw [e, ← hN]; exact ht.congr fun a b ha hb => by rw [hF a b ha hb, decide_eq_true (by omega), Bool.true_and]⟩
    refine BrReq.dec (fun k11 => ?_) (fun k11 => ?_)
    · have e : spansR ws (.mk kd s0 s1 s2 s3 rs lo hi neg) = fun i j => decide (i = j) && (decide (i = ws.length) || decide (ws.getD i 0 = 10)) := by
        simp only [spansR, nodeT]; rw [if_neg k1, if_neg k2, if_neg k3, if_neg k4, if_neg k5, if_neg k6, if_neg k7, if_neg k89, if_neg k10, if_pos k11]
      conv => whnf
      repeat ((first | refine zT ?_ | refine zF ?_ | refine zL hX hL ?_ | refine zB hX hL ?_ | (refine zS hX hL ?_; clear hL; intro w hL) | refine zI ?_ | refine zG hX ?_ | refine zO ?_); conv => whnf)
      refine LoopReq.inv hX (fun j : Nat => [(161, .int .i64 j)]) [1, 8, 160]
        (fun j w => j ≤ N ∧ ∃ F, (∀ a b, a < N → b < N → F a b = (decide (a < j) && (decide (a = b) && (decide (a = ws.length) || decide (ws.getD a 0 = 10))))) ∧ Ev.Loc m [] w0 m3 ((b2, .cells (toArr (reC kd s0 s1 s2 s3 (.slice A n c) lo hi neg)) 27 (0, 0)) :: rowsL bs N F N) w) (fun j => N - j) 0
        ⟨by omega, _, fun a b _ _ => by simp, hL⟩ ⟨rfl, trivial⟩ ?_
      clear hL
      rintro j w f ⟨hj, F, hF, hL⟩
      conv => whnf
      repeat ((first | refine zT ?_ | refine zF ?_ | refine zL hX hL ?_ | refine zB hX hL ?_ | (refine zS hX hL ?_; clear hL; intro w hL) | refine zI ?_ | refine zG hX ?_ | refine zO ?_); conv => whnf)
      refine BrReq.dec (fun hlt => ?_) (fun hlt => ?_)
      · have hjn : j < N := by omega
        have hstep : ∀ v : Bool, v = (decide (j = ws.length) || decide (ws.getD j 0 = 10)) → ∀ a b, a < N → b < N → upd F j j v a b = (decide (a < j + 1) && (decide (a = b) && (decide (a = ws.length) || decide (ws.getD a 0 = 10)))) := by
          intro v hv a b ha hb
          by_cases e : a = j ∧ b = j
          · rw [e.1, e.2, upd_same, hv, decide_eq_true (show j < j + 1 by omega), decide_eq_true (rfl : j = j), Bool.true_and, Bool.true_and]
          · rw [upd_other e, hF a b ha hb]
            by_cases e2 : a = b
            · congr 1; exact decide_eq_decide.2 (by omega)
            · rw [decide_eq_false e2]; simp
        conv => whnf
        repeat ((first | refine zT ?_ | refine zF ?_ | refine zL hX hL ?_ | refine zB hX hL ?_ | (refine zS hX hL ?_; clear hL; intro w hL) | refine zI ?_ | refine zG hX ?_ | refine zO ?_); conv => whnf)
        refine DrawReq.plan hX (.fst 0 (.fst 1 (.fst 2 (.fst 3 (.fst 4 (.fst 5 (.fst 6 (.fst 7 (.fst 8 (.fst 9 (.fst 10 (.fst 11 (.fst 12 (.fst 13 (.fst 14 (.fst 15 (.fst 16 (.alt 17 (.done) (.stop))))))))))))))))))) [(b2, .cells (toArr (reC kd s0 s1 s2 s3 (.slice A n c) lo hi neg)) 27 (0, 0))] (by kernel_rfl) (by kernel_rfl) hL (fun h => h.one 0 rfl) ?_
        clear hL
        intro w hL
        conv => whnf
        repeat ((first | refine Idx2Req.mk j _ rfl (by omega) rfl ?_ | refine QLdReq.one hX rfl rfl (hout j hjn) ?_ | refine zQ hX ?_ | refine zR hX ?_ | refine zA ?_ | refine zT ?_ | refine zF ?_ | refine zL hX hL ?_ | refine zB hX hL ?_ | (refine zS hX hL ?_; clear hL; intro w hL) | refine zI ?_ | refine zG hX ?_ | refine zO ?_); conv => whnf)
        refine BrReq.dec (fun hz => ?_) (fun hz => ?_)
        · conv => whnf
          repeat ((first | refine Idx2Req.mk j _ rfl (by omega) rfl ?_ | refine QLdReq.one hX rfl rfl (hout j hjn) ?_ | refine zQ hX ?_ | refine zR hX ?_ | refine zA ?_ | refine zT ?_ | refine zF ?_ | refine zL hX hL ?_ | refine zB hX hL ?_ | (refine zS hX hL ?_; clear hL; intro w hL) | refine zI ?_ | refine zG hX ?_ | refine zO ?_); conv => whnf)
          refine StReq.tabc rfl rfl (j + 1) hL (rowsL_get hjn) hjn ?_
          clear hL
          intro w hL
          replace hL : Ev.Loc m [] w0 m3 ((b2, .cells (toArr (reC kd s0 s1 s2 s3 (.slice A n c) lo hi neg)) 27 (0, 0)) :: (rowsL bs N F N).set j _) w := hL
          rw [rowsL_set] at hL
          have hF' := hstep true (by rw [decide_eq_true (by omega : j = ws.length), Bool.true_or])
          conv => whnf
          repeat ((first | refine SReq.mk (hL.one 0 rfl) ?_ | refine zQ hX ?_ | refine zR hX ?_ | refine zA ?_ | refine zT ?_ | refine zF ?_ | refine zL hX hL ?_ | refine zB hX hL ?_ | (refine zS hX hL ?_; clear hL; intro w hL) | refine zI ?_ | refine zG hX ?_ | refine zO ?_); conv => whnf)
          refine ⟨j + 1, ⟨by omega, _, hF', hL⟩, by first | omega | (simp only; omega), ?_, ?_⟩
          · repeat (first | exact trivial | (refine And.intro (by (conv => lhs; whnf) <;> (conv => rhs; whnf) <;> (first | rfl)) ?_))
          · repeat (first | exact trivial | (refine And.intro (by (conv => lhs; whnf) <;> (conv => rhs; whnf) <;> (first | rfl)) ?_))
        · have hpl : j < ws.length := by omega
          obtain ⟨aw, ew, hbv⟩ := hbyte (j) _ (List.getElem?_eq_getElem hpl)
          cases ew
          have hgd : ws.getD (j) 0 = ws[j] := by rw [List.getD_eq_getElem?_getD, List.getElem?_eq_getElem hpl]; rfl
          conv => whnf
          repeat ((first | refine Idx2Req.mk j _ rfl (by omega) rfl ?_ | refine QLdReq.one hX rfl rfl (hout j hjn) ?_ | refine Idx2Req.mk (j) _ (by omega) (by omega) rfl ?_ | refine QLdReq.one hX rfl rfl (mcell_le (hm12.trans hm3) hbv) ?_ | refine zQ hX ?_ | refine zR hX ?_ | refine zA ?_ | refine zT ?_ | refine zF ?_ | refine zL hX hL ?_ | refine zB hX hL ?_ | (refine zS hX hL ?_; clear hL; intro w hL) | refine zI ?_ | refine zG hX ?_ | refine zO ?_); conv => whnf)
          refine StReq.tabc rfl rfl (j + 1) hL (rowsL_get hjn) hjn ?_
          clear hL
          intro w hL
          replace hL : Ev.Loc m [] w0 m3 ((b2, .cells (toArr (reC kd s0 s1 s2 s3 (.slice A n c) lo hi neg)) 27 (0, 0)) :: (rowsL bs N F N).set j _) w := hL
          rw [rowsL_set] at hL
          have hF' := hstep (decide (ws[j] = 10)) (by rw [decide_eq_false (by omega : ¬ (j = ws.length)), Bool.false_or, hgd])
          conv => whnf
          repeat ((first | refine SReq.mk (hL.one 0 rfl) ?_ | refine zQ hX ?_ | refine zR hX ?_ | refine zA ?_ | refine zT ?_ | refine zF ?_ | refine zL hX hL ?_ | refine zB hX hL ?_ | (refine zS hX hL ?_; clear hL; intro w hL) | refine zI ?_ | refine zG hX ?_ | refine zO ?_); conv => whnf)
          refine ⟨j + 1, ⟨by omega, _, hF', hL⟩, by first | omega | (simp only; omega), ?_, ?_⟩
          · repeat (first | exact trivial | (refine And.intro (by (conv => lhs; whnf) <;> (conv => rhs; whnf) <;> (first | rfl)) ?_))
          · repeat (first | exact trivial | (refine And.intro (by (conv => lhs; whnf) <;> (conv => rhs; whnf) <;> (first | rfl)) ?_))
      · conv => whnf
        repeat ((first | refine zT ?_ | refine zF ?_ | refine zL hX hL ?_ | refine zB hX hL ?_ | (refine zS hX hL ?_; clear hL; intro w hL) | refine zI ?_ | refine zG hX ?_ | refine zO ?_); conv => whnf)
        obtain ⟨m4, hL, hm4, ht⟩ := OwnTab.freeze (L2 := [_]) ⟨g0, bs, rfl, hmax, hout, rfl⟩ (Ev.Loc.back (L1 := [_]) hL)
        exact RetReq.mk (nil_sub hL) ⟨rfl, by rw [e, ← hN]; exact ht.congr fun a b ha hb => by rw [hF a b ha hb, decide_eq_true (by omega), Bool.true_and]⟩
    have e : spansR ws (.mk kd s0 s1 s2 s3 rs lo hi neg) = fun _ _ => false := by
      simp only [spansR, nodeT]; rw [if_neg k1, if_neg k2, if_neg k3, if_neg k4, if_neg k5, if_neg k6, if_neg k7, if_neg k89, if_neg k10, if_neg k11]
    conv => whnf
    repeat ((first | refine zT ?_ | refine zF ?_ | refine zL hX hL ?_ | refine zB hX hL ?_ | (refine zS hX hL ?_; clear hL; intro w hL) | refine zI ?_ | refine zG hX ?_ | refine zO ?_); conv => whnf)
    obtain ⟨m4, hL, hm4, ht⟩ := OwnTab.freeze (L2 := [_]) ⟨g0, bs, rfl, hmax, hout, rfl⟩ (Ev.Loc.back (L1 := [_]) hL)
    exact RetReq.mk (nil_sub hL) ⟨rfl, by rw [e, ← hN]; exact ht⟩
end Go.Proofs.YtpdiljdklllmjaaGreat.tabs
