/- The spans that nodes match, as the document has it. Conditions: none. -/
import Derived.Test.YtpdiljdklllmjaaGreatArMade
import Derived.Test.YtpdiljdklllmjaaGreatNoNull
import Derived.Test.YtpdiljdklllmjaaGreatTabsThen
import Derived.Test.YtpdiljdklllmjaaGreatTabsHas

namespace Go.Proofs.YtpdiljdklllmjaaGreat.ar
open Go Go.Ev Go.Proofs Go.Proofs.YtpdiljdklllmjaaGreat.tabs

abbrev Tb := Nat → Nat → Bool
/-- The spans of a node, of the spans of what it leans on. -/
def nodT (ws bts : List Int) (x : Nd) (f : Nat → Tb) : Tb :=
  if x.k = 1 then fun i j => decide (i = j)
  else if x.k = 2 then fun i j => decide (j = i + 1) && hasR x.s0 x.s1 x.s2 x.s3 (ws.getD i 0).toNat
  else if x.k = 3 then thenT (ws.length + 1) (f x.a.toNat) (f x.b.toNat)
  else if x.k = 4 then fun i j => f x.a.toNat i j || f x.b.toNat i j
  else if x.k = 5 then fun i j => f x.a.toNat i j && f x.b.toNat i j
  else if x.k = 6 then fun i j => decide (i ≤ j) && !f x.a.toNat i j
  else if x.k = 7 then anyT (ws.length + 1) (f x.a.toNat)
  else if x.k = 8 then fun i j => decide (i = j) && (decide ((bts.getD i 0).toNat / 2 ^ x.a.toNat % 2 = 1) != x.neg)
  else fun _ _ => false
def tabF (ws bts : List Int) (ns : List Nd) : Nat → Nat → Tb
  | 0, _ => fun _ _ => false
  | k + 1, i => match ns[i]? with | none => fun _ _ => false | some x => nodT ws bts x (tabF ws bts ns k)
def tabN (ws bts : List Int) (ns : List Nd) (i : Nat) : Tb := tabF ws bts ns (i + 1) i
theorem nodT_ext {ws bts : List Int} {x : Nd} {n : Nat} (h : rightN x n = true) {f g : Nat → Tb} (e : ∀ j, j < n → f j = g j) : nodT ws bts x f = nodT ws bts x g := by
  obtain ⟨h1, h2, h3, h4⟩ := right_lt h
  unfold nodT
  split
  · rfl
  split
  · rfl
  split
  · rw [e _ (by omega), e _ (by omega)]
  split
  · rw [e _ (by omega), e _ (by omega)]
  split
  · rw [e _ (by omega), e _ (by omega)]
  split
  · rw [e _ (by omega)]
  split
  · rw [e _ (by omega)]
  · rfl
theorem tabF_eq (ws bts : List Int) {ns : List Nd} (hO : ∀ (i : Nat) (x : Nd), ns[i]? = some x → rightN x i = true) : ∀ (k k' i : Nat), i < k → i < k' → tabF ws bts ns k i = tabF ws bts ns k' i := by
  intro k
  induction k with
  | zero => intro k' i h; omega
  | succ k ih =>
    intro k' i h h'
    cases k' with
    | zero => omega
    | succ k' =>
      simp only [tabF]
      cases hx : ns[i]? with
      | none => rfl
      | some x => exact nodT_ext (hO i x hx) fun j hj => ih k' j (by omega) (by omega)
theorem tabN_eq (ws bts : List Int) {ns : List Nd} (hO : ∀ (i : Nat) (x : Nd), ns[i]? = some x → rightN x i = true) {i : Nat} {x : Nd} (hx : ns[i]? = some x) : tabN ws bts ns i = nodT ws bts x (tabN ws bts ns) := by
  unfold tabN
  rw [tabF, hx]
  exact nodT_ext (hO i x hx) fun j hj => tabF_eq ws bts hO i (j + 1) j hj (by omega)

theorem flat1 : ∀ (l : List Value), (l.map fun t => [t]).flatten = l
  | [] => rfl
  | a :: l => by rw [List.map_cons, List.flatten_cons, flat1 l]; rfl

set_option maxHeartbeats 4000000 in
theorem Spans_fn (m : Mem) (v : Value) (ns : List Nd) (hv : Sl m 8 isNd v ns) (hI : ∀ x ∈ ns, InN x) (hR : ∀ (i : Nat) (x : Nd), ns[i]? = some x → rightN x i = true) (hnl : ns.length ≤ 20000)
    (wv : Value) (ws : List Int) (hw : SlI m .u8 wv ws) (hwb : ∀ z ∈ ws, 0 ≤ z ∧ z ≤ 255) (hwl : ws.length ≤ 100)
    (bv : Value) (bts : List Int) (hb : SlI m .u8 bv bts) (hbb : ∀ z ∈ bts, 0 ≤ z ∧ z ≤ 255) (hbl : bts.length = ws.length + 1) :
    Ev.Fn Tryz.prog 12 [v, wv, bv] m [] fun m' L' u => L' = [] ∧ ∃ tabs : List Value, Sl m' 1 (fun cs (t : Value) => cs = [t]) u tabs ∧ tabs.length = ns.length ∧ ∀ (i : Nat), i < ns.length → ∃ A c, tabs[i]? = some (.slice A (ws.length + 1) c) ∧ RepTab m' (.slice A (ws.length + 1) c) (ws.length + 1) (tabN ws bts ns i) := by
  have hs := hv
  obtain ⟨A, n, c, rfl, hn, hc, hm, -⟩ := hv
  have hmx : maxLen = 9223372036854775807 := rfl
  have he := hs.elem
  obtain ⟨W, wn, wc, rfl, hwn, hwc, hwm, -⟩ := id hw
  have hwe := hw.cell.2
  obtain ⟨B, bn, bc, rfl, hbn, hbc, hbm, -⟩ := id hb
  have hbe := hb.cell.2
  obtain ⟨N, hN⟩ : ∃ N, N = ws.length + 1 := ⟨_, rfl⟩
  rw [← hN] at hbl ⊢
  refine Fn.enter (N := 145) hX Tryz.func12 rfl rfl (by show _ ≤ _; simp) (fun w0 hL => ?_)
  conv => whnf
  conv => whnf
  repeat ((first | refine zT ?_ | refine zF ?_ | refine zL hX hL ?_ | refine zB hX hL ?_ | (refine zS hX hL ?_; clear hL; intro w hL) | refine zI ?_ | refine zG hX ?_ | refine zO ?_); conv => whnf)
  rw [show ((wn : Int) + 1) = (N : Int) by omega]
  conv => whnf
  repeat ((first | refine zT ?_ | refine zF ?_ | refine zL hX hL ?_ | refine zB hX hL ?_ | (refine zS hX hL ?_; clear hL; intro w hL) | refine zI ?_ | refine zG hX ?_ | refine zO ?_); conv => whnf)
  refine LoopReq.inv hX (fun s : Nat × Option Addr × Nat × Nat => [(8, .slice s.2.1 s.2.2.1 s.2.2.2), (19, .int .i64 s.1)]) [0, 1, 2, 7, 18]
    (fun s w => s.1 ≤ n ∧ ∃ m1 Lo, ∃ tabs : List Value, Mem.Le m m1 ∧ OwnS 44 1 (.slice s.2.1 s.2.2.1 s.2.2.2) tabs Lo ∧ tabs.length = s.1 ∧ (∀ (i : Nat), i < s.1 → ∃ A c, tabs[i]? = some (.slice A N c) ∧ RepTab m1 (.slice A N c) N (tabN ws bts ns i)) ∧ Ev.Loc m [] w0 m1 Lo w) (fun s => n - s.1) (0, none, 0, 0)
    ⟨by simp, m, [], [], Mem.Le.refl m, OwnS.nil _ _, rfl, fun i hi => absurd hi (by omega), hL⟩ ⟨rfl, rfl, trivial⟩ ?_
  clear hL
  rintro ⟨j, A1, n1, c1⟩ w f ⟨hj, m1, Lo, tabs, hm1, ho, htl, hT, hL⟩
  simp only at hj ho htl hT
  conv => whnf
  repeat ((first | refine zT ?_ | refine zF ?_ | refine zL hX hL ?_ | refine zB hX hL ?_ | (refine zS hX hL ?_; clear hL; intro w hL) | refine zI ?_ | refine zG hX ?_ | refine zO ?_); conv => whnf)
  refine BrReq.dec (fun hlt => ?_) (fun hlt => ?_)
  · have hlt' : j < ns.length := by simp only at hlt; omega
    have hx := List.getElem?_eq_getElem hlt'
    obtain ⟨a, cs', ea, hl8, hcells, hcs⟩ := he j _ hx
    have hxI := hI _ (List.getElem_mem hlt')
    have hxR := hR j _ hx
    have hTj := tabN_eq ws bts hR hx
    generalize ns[j] = x at hx hcs hxI hxR hTj
    subst hcs
    obtain ⟨r1, r2, r3, r4⟩ := right_lt hxR
    conv => whnf
    repeat ((first | (refine Idx2Req.mk j a rfl (by simp only at hlt ⊢; omega) ea ?_) | refine LdReq.agg hX rfl rfl hL hl8 (hcells.le hm1) ?_ | refine zT ?_ | refine zF ?_ | refine zL hX hL ?_ | refine zB hX hL ?_ | (refine zS hX hL ?_; clear hL; intro w hL) | refine zI ?_ | refine zG hX ?_ | refine zO ?_); conv => whnf)
    refine NewReq.mk hL ?_
    clear hL
    intro b10 w hL
    conv => whnf
    replace hL : Ev.Loc m [] w0 m1 ([] ++ ((b10, .cells (toArr (ndC nd0)) 61 (0, 0)) :: Lo)) w := hL
    conv => whnf
    repeat ((first | refine zT ?_ | refine zF ?_ | refine zL hX hL ?_ | refine zB hX hL ?_ | (refine zS hX hL ?_; clear hL; intro w hL) | refine zI ?_ | refine zG hX ?_ | refine zO ?_); conv => whnf)
    replace hL : Ev.Loc m [] w0 m1 ([] ++ ((b10, .cells (toArr (ndC x)) 61 (0, 0)) :: Lo)) w := hL
    refine CallReq.mk (L1 := []) (Blank_fn m1 N (by omega)) hL ?_
    clear hL
    rintro u m2 L1 w hL hm2 ⟨g0, bs, rfl, hmax, hout, rfl⟩
    have hL := hL.back
    replace hL : Ev.Loc m [] w0 m2 ((b10, .cells (toArr (ndC x)) 61 (0, 0)) :: (Lo ++ rowsL bs N (fun _ _ => false) N)) w := hL
    have hmm := hm1.trans hm2
    obtain ⟨k, s0, s1, s2, s3, xa, xb, neg⟩ := x
    simp only at r1 r2 r3 r4
    unfold nodT at hTj
    simp only at hTj
    rw [← hN] at hTj
    have hjk : 0 < tabs.length ∨ tabs.length = 0 := by omega
    by_cases k1 : k = 1
    · rw [if_pos k1] at hTj
      subst k1
      conv => whnf
      repeat ((first | refine zT ?_ | refine zF ?_ | refine zL hX hL ?_ | refine zB hX hL ?_ | (refine zS hX hL ?_; clear hL; intro w hL) | refine zI ?_ | refine zG hX ?_ | refine zO ?_); conv => whnf)
      refine CallReq.pure (One_fn m2 N (by omega)) hL ?_
      clear hL
      rintro u m3 w hL hm23 hRT
      obtain ⟨At, ct, rfl⟩ := hRT.form
      rw [← hTj] at hRT
      have hm3 := hm2.trans hm23
      replace hL := hL.sublist (.cons _ (List.sublist_append_left Lo _))
      have hrl : tabs.length + 1 ≤ 1099511627776 := by omega
      conv => whnf
      repeat ((first | refine zT ?_ | refine zF ?_ | refine zL hX hL ?_ | refine zB hX hL ?_ | (refine zS hX hL ?_; clear hL; intro w hL) | refine zI ?_ | refine zG hX ?_ | refine zO ?_); conv => whnf)
      refine NewReq.mk hL ?_
      clear hL
      intro g w hL
      conv => whnf
      replace hL : Ev.Loc m [] w0 m3 ((g, .cells (toArr [.slice At N ct]) 44 (0, 0)) :: (Lo ++ [])) w := by rw [List.append_nil]; exact hL
      refine RunReq.push hX 45 44 rfl rfl rfl rfl rfl ho (L2 := []) hL rfl rfl hrl rfl ?_
      clear hL
      intro A2 n2 c2 L2 w hn2 ho2 hL
      rw [List.append_nil] at hL
      have hT2 : ∀ (i : Nat), i < j + 1 → ∃ A c, (tabs ++ [.slice At N ct])[i]? = some (.slice A N c) ∧ RepTab m3 (.slice A N c) N (tabN ws bts ns i) := fun i hi => by
        by_cases hij : i < j
        · obtain ⟨A', c', e1, e2⟩ := hT i hij
          exact ⟨A', c', by rw [List.getElem?_append_left (by omega)]; exact e1, e2.le hm3⟩
        · obtain rfl : i = j := by omega
          exact ⟨At, ct, by rw [List.getElem?_append_right (by omega), htl, Nat.sub_self]; rfl, hRT⟩
      conv => whnf
      repeat ((first | refine zT ?_ | refine zF ?_ | refine zL hX hL ?_ | refine zB hX hL ?_ | (refine zS hX hL ?_; clear hL; intro w hL) | refine zI ?_ | refine zG hX ?_ | refine zO ?_); conv => whnf)
      refine ⟨(j + 1, A2, n2, c2), ⟨by simp only; omega, m3, L2, _, hm1.trans hm3, ho2, by simp; omega, hT2, hL⟩, by first | omega | (simp only; omega), ?_, ?_⟩
      · repeat (first | exact trivial | (refine And.intro (by (conv => lhs; whnf) <;> (conv => rhs; whnf) <;> (first | rfl)) ?_))
      · repeat (first | exact trivial | (refine And.intro (by (conv => lhs; whnf) <;> (conv => rhs; whnf) <;> (first | rfl)) ?_))
    rw [if_neg k1] at hTj
    by_cases k2 : k = 2
    · rw [if_pos k2] at hTj
      subst k2
      replace hL := hL.perm (List.Perm.cons _ (List.perm_append_comm (l₁ := Lo)))
      conv => whnf
      repeat ((first | refine zT ?_ | refine zF ?_ | refine zL hX hL ?_ | refine zB hX hL ?_ | (refine zS hX hL ?_; clear hL; intro w hL) | refine zI ?_ | refine zG hX ?_ | refine zO ?_); conv => whnf)
      refine LoopReq.inv hX (fun q : Nat => [(38, .int .i64 q)]) [0, 1, 2, 7, 8, 10, 11, 18, 19, 37]
        (fun q w => q ≤ ws.length ∧ ∃ F, (∀ a b, a < N → b < N → F a b = (decide (a < q) && (decide (b = a + 1) && hasR s0 s1 s2 s3 (ws.getD a 0).toNat))) ∧ Ev.Loc m [] w0 m2 ((b10, .cells (toArr (ndC ⟨2, s0, s1, s2, s3, xa, xb, neg⟩)) 61 (0, 0)) :: (rowsL bs N F N ++ Lo)) w) (fun q => ws.length - q) 0
        ⟨by omega, _, fun a b _ _ => by simp, hL⟩ ⟨rfl, trivial⟩ ?_
      clear hL
      rintro q w f ⟨hq, F, hF, hL⟩
      conv => whnf
      repeat ((first | refine zT ?_ | refine zF ?_ | refine zL hX hL ?_ | refine zB hX hL ?_ | (refine zS hX hL ?_; clear hL; intro w hL) | refine zI ?_ | refine zG hX ?_ | refine zO ?_); conv => whnf)
      refine BrReq.dec (fun hlt2 => ?_) (fun hlt2 => ?_)
      · have hpl : q < ws.length := by omega
        have hjn : q < N := by omega
        have hjn1 : q + 1 < N := by omega
        obtain ⟨aw, ew, hbv⟩ := hwe q _ (List.getElem?_eq_getElem hpl)
        have hgd : ws.getD q 0 = ws[q] := by rw [List.getD_eq_getElem?_getD, List.getElem?_eq_getElem hpl]; rfl
        obtain ⟨hz0, hz1⟩ := hwb _ (List.getElem_mem hpl)
        obtain ⟨bz, hbz⟩ : ∃ bz : Nat, ws[q] = (bz : Int) := ⟨ws[q].toNat, by omega⟩
        rw [hbz] at hbv hgd
        have hF' : ∀ a b, a < N → b < N → upd F q (q + 1) (hasR s0 s1 s2 s3 (ws.getD q 0).toNat) a b = (decide (a < q + 1) && (decide (b = a + 1) && hasR s0 s1 s2 s3 (ws.getD a 0).toNat)) := by
          intro a b ha hb
          by_cases e : a = q ∧ b = q + 1
          · obtain ⟨rfl, rfl⟩ := e
            rw [upd_same, decide_eq_true (by omega), decide_eq_true rfl, Bool.true_and, Bool.true_and]
          · rw [upd_other e, hF a b ha hb]
            by_cases e2 : b = a + 1
            · congr 1; exact decide_eq_decide.2 (by omega)
            · rw [decide_eq_false e2]; simp
        conv => whnf
        repeat ((first | refine zT ?_ | refine zF ?_ | refine zL hX hL ?_ | refine zB hX hL ?_ | (refine zS hX hL ?_; clear hL; intro w hL) | refine zI ?_ | refine zG hX ?_ | refine zO ?_); conv => whnf)
        refine DrawReq.plan hX (.fst 0 (.fst 1 (.fst 2 (.fst 3 (.fst 4 (.fst 5 (.fst 6 (.fst 7 (.fst 8 (.fst 9 (.fst 10 (.fst 11 (.fst 12 (.alt 13 (.fst 14 (.alt 15 (.done) (.stop))) (.stop))))))))))))))) [(b10, .cells (toArr (ndC ⟨2, s0, s1, s2, s3, xa, xb, neg⟩)) 61 (0, 0))] (by kernel_rfl) (by kernel_rfl) hL (fun h => h.one 0 rfl) ?_
        clear hL
        intro w hL
        conv => whnf
        repeat ((first | refine Idx2Req.mk q _ rfl (by omega) rfl ?_ | refine Idx2Req.mk q aw rfl (by omega) ew ?_ | refine QLdReq.one hX rfl rfl (hout q hjn) ?_ | refine QLdReq.one hX rfl rfl (Ev.mcell_le hmm hbv) ?_ | refine zQ hX ?_ | refine zR hX ?_ | refine zA ?_ | refine zT ?_ | refine zF ?_ | refine zL hX hL ?_ | refine zB hX hL ?_ | (refine zS hX hL ?_; clear hL; intro w hL) | refine zI ?_ | refine zG hX ?_ | refine zO ?_); conv => whnf)
        refine CallReq.val (Has_fn m2 s0 s1 s2 s3 hxI.s0 hxI.s1 hxI.s2 hxI.s3 bz (by omega)) hL ?_
        clear hL
        intro w hL
        conv => whnf
        repeat ((first | refine SReq.mk (hL.one 0 rfl) ?_ | refine Idx2Req.mk (q + 1) _ (by omega) (by omega) rfl ?_ | refine zQ hX ?_ | refine zR hX ?_ | refine zA ?_ | refine zT ?_ | refine zF ?_ | refine zL hX hL ?_ | refine zB hX hL ?_ | (refine zS hX hL ?_; clear hL; intro w hL) | refine zI ?_ | refine zG hX ?_ | refine zO ?_); conv => whnf)
        refine StReq.tabc rfl rfl (q + 1) hL (by rw [List.getElem?_cons_succ, List.getElem?_append_left (by rw [rowsL_len]; exact hjn)]; exact rowsL_get hjn) hjn1 ?_
        clear hL
        intro w hL
        rw [List.set_cons_succ, List.set_append_left _ _ (by rw [rowsL_len]; exact hjn), rowsL_set] at hL
        have hbt : (ws.getD q 0).toNat = bz := by rw [hgd]; omega
        rw [hbt] at hF'
        conv => whnf
        repeat ((first | refine SReq.mk (hL.one 0 rfl) ?_ | refine zQ hX ?_ | refine zR hX ?_ | refine zA ?_ | refine zT ?_ | refine zF ?_ | refine zL hX hL ?_ | refine zB hX hL ?_ | (refine zS hX hL ?_; clear hL; intro w hL) | refine zI ?_ | refine zG hX ?_ | refine zO ?_); conv => whnf)
        refine ⟨q + 1, ⟨by omega, _, hF', hL⟩, by first | omega | (simp only; omega), ?_, ?_⟩
        · repeat (first | exact trivial | (refine And.intro (by (conv => lhs; whnf) <;> (conv => rhs; whnf) <;> (first | rfl)) ?_))
        · repeat (first | exact trivial | (refine And.intro (by (conv => lhs; whnf) <;> (conv => rhs; whnf) <;> (first | rfl)) ?_))
      · obtain ⟨m3, hL3, hm23, hRT⟩ := OwnTab.freeze (L2 := (b10, .cells (toArr (ndC ⟨2, s0, s1, s2, s3, xa, xb, neg⟩)) 61 (0, 0)) :: Lo) ⟨g0, bs, rfl, hmax, hout, rfl⟩ (hL.perm List.perm_middle.symm)
        clear hL
        have hL := hL3.drop
        clear hL3
        have hm3 := hm2.trans hm23
        have hRT : RepTab m3 (.slice (some ⟨g0, 0, none⟩) N N) N (tabN ws bts ns j) := hRT.congr fun a b ha hb => by
          rw [hTj, hF a b ha hb]
          by_cases e2 : b = a + 1
          · rw [decide_eq_true (by omega : a < q), Bool.true_and]
          · simp [e2]
        have hrl : tabs.length + 1 ≤ 1099511627776 := by omega
        conv => whnf
        repeat ((first | refine zT ?_ | refine zF ?_ | refine zL hX hL ?_ | refine zB hX hL ?_ | (refine zS hX hL ?_; clear hL; intro w hL) | refine zI ?_ | refine zG hX ?_ | refine zO ?_); conv => whnf)
        refine NewReq.mk hL ?_
        clear hL
        intro g w hL
        conv => whnf
        replace hL : Ev.Loc m [] w0 m3 ((g, .cells (toArr [.slice (some ⟨g0, 0, none⟩) N N]) 44 (0, 0)) :: (Lo ++ [])) w := by rw [List.append_nil]; exact hL
        refine RunReq.push hX 45 44 rfl rfl rfl rfl rfl ho (L2 := []) hL rfl rfl hrl rfl ?_
        clear hL
        intro A2 n2 c2 L2 w hn2 ho2 hL
        rw [List.append_nil] at hL
        have hT2 : ∀ (i : Nat), i < j + 1 → ∃ A c, (tabs ++ [.slice (some ⟨g0, 0, none⟩) N N])[i]? = some (.slice A N c) ∧ RepTab m3 (.slice A N c) N (tabN ws bts ns i) := fun i hi => by
          by_cases hij : i < j
          · obtain ⟨A', c', e1, e2⟩ := hT i hij
            exact ⟨A', c', by rw [List.getElem?_append_left (by omega)]; exact e1, e2.le hm3⟩
          · obtain rfl : i = j := by omega
            exact ⟨(some ⟨g0, 0, none⟩), N, by rw [List.getElem?_append_right (by omega), htl, Nat.sub_self]; rfl, hRT⟩
        conv => whnf
        repeat ((first | refine zT ?_ | refine zF ?_ | refine zL hX hL ?_ | refine zB hX hL ?_ | (refine zS hX hL ?_; clear hL; intro w hL) | refine zI ?_ | refine zG hX ?_ | refine zO ?_); conv => whnf)
        refine ⟨(j + 1, A2, n2, c2), ⟨by simp only; omega, m3, L2, _, hm1.trans hm3, ho2, by simp; omega, hT2, hL⟩, by first | omega | (simp only; omega), ?_, ?_⟩
        · repeat (first | exact trivial | (refine And.intro (by (conv => lhs; whnf) <;> (conv => rhs; whnf) <;> (first | rfl)) ?_))
        · repeat (first | exact trivial | (refine And.intro (by (conv => lhs; whnf) <;> (conv => rhs; whnf) <;> (first | rfl)) ?_))
    rw [if_neg k2] at hTj
    by_cases k8 : k = 8
    · rw [if_neg (by omega), if_neg (by omega), if_neg (by omega), if_neg (by omega), if_neg (by omega), if_pos k8] at hTj
      subst k8
      have ha4 := r3 rfl
      obtain ⟨pa, rfl⟩ : ∃ pa : Nat, xa = pa := ⟨xa.toNat, by omega⟩
      rw [Int.toNat_natCast] at hTj
      replace hL := hL.perm (List.Perm.cons _ (List.perm_append_comm (l₁ := Lo)))
      conv => whnf
      repeat ((first | refine zT ?_ | refine zF ?_ | refine zL hX hL ?_ | refine zB hX hL ?_ | (refine zS hX hL ?_; clear hL; intro w hL) | refine zI ?_ | refine zG hX ?_ | refine zO ?_); conv => whnf)
      refine LoopReq.inv hX (fun q : Nat => [(116, .int .i64 q)]) [0, 1, 2, 7, 8, 10, 11, 18, 19, 115]
        (fun q w => q ≤ N ∧ ∃ F, (∀ a b, a < N → b < N → F a b = (decide (a < q) && (decide (a = b) && (decide ((bts.getD a 0).toNat / 2 ^ pa % 2 = 1) != neg)))) ∧ Ev.Loc m [] w0 m2 ((b10, .cells (toArr (ndC ⟨8, s0, s1, s2, s3, pa, xb, neg⟩)) 61 (0, 0)) :: (rowsL bs N F N ++ Lo)) w) (fun q => N - q) 0
        ⟨by omega, _, fun a b _ _ => by simp, hL⟩ ⟨rfl, trivial⟩ ?_
      clear hL
      rintro q w f ⟨hq, F, hF, hL⟩
      conv => whnf
      repeat ((first | refine zT ?_ | refine zF ?_ | refine zL hX hL ?_ | refine zB hX hL ?_ | (refine zS hX hL ?_; clear hL; intro w hL) | refine zI ?_ | refine zG hX ?_ | refine zO ?_); conv => whnf)
      refine BrReq.dec (fun hlt2 => ?_) (fun hlt2 => ?_)
      · have hjn : q < N := by omega
        have hpl : q < bts.length := by omega
        obtain ⟨aw, ew, hbv⟩ := hbe q _ (List.getElem?_eq_getElem hpl)
        have hgd : bts.getD q 0 = bts[q] := by rw [List.getD_eq_getElem?_getD, List.getElem?_eq_getElem hpl]; rfl
        obtain ⟨hz0, hz1⟩ := hbb _ (List.getElem_mem hpl)
        obtain ⟨bz, hbz⟩ : ∃ bz : Nat, bts[q] = (bz : Int) := ⟨bts[q].toNat, by omega⟩
        rw [hbz] at hbv hgd
        have hbt : (bts.getD q 0).toNat = bz := by rw [hgd]; omega
        have hsh : (bz : Int).fdiv (2 ^ (min (Int.toNat ((pa : Nat) : Int)) (IntKind.bits .u8))) = ((bz / 2 ^ pa : Nat) : Int) := by
          rw [Int.toNat_natCast, show min pa (IntKind.bits .u8) = pa from by show min pa 8 = pa; omega, Int.fdiv_eq_ediv_of_nonneg _ (Int.le_of_lt (Int.pow_pos (by decide)))]
          norm_cast
        have hbq : bz / 2 ^ pa ≤ bz := Nat.div_le_self _ _
        conv => whnf
        repeat ((first | refine zT ?_ | refine zF ?_ | refine zL hX hL ?_ | refine zB hX hL ?_ | (refine zS hX hL ?_; clear hL; intro w hL) | refine zI ?_ | refine zG hX ?_ | refine zO ?_); conv => whnf)
        refine DrawReq.plan hX (.fst 0 (.fst 1 (.fst 2 (.fst 3 (.fst 4 (.fst 5 (.fst 6 (.fst 7 (.fst 8 (.fst 9 (.fst 10 (.fst 11 (.fst 12 (.fst 13 (.fst 14 (.fst 15 (.fst 16 (.fst 17 (.fst 18 (.alt 19 (.done) (.stop))))))))))))))))))))) [(b10, .cells (toArr (ndC ⟨8, s0, s1, s2, s3, pa, xb, neg⟩)) 61 (0, 0))] (by kernel_rfl) (by kernel_rfl) hL (fun h => h.one 0 rfl) ?_
        clear hL
        intro w hL
        conv => whnf
        repeat ((first | refine Idx2Req.mk q _ rfl (by omega) rfl ?_ | refine Idx2Req.mk q aw rfl (by omega) ew ?_ | refine QLdReq.one hX rfl rfl (hout q hjn) ?_ | refine QLdReq.one hX rfl rfl (Ev.mcell_le hmm hbv) ?_ | (refine ArReq.keep (k := .u64) (by show (0 : Int) ≤ _; simp only; omega) (by show _ ≤ (18446744073709551615 : Int); simp only; omega) ?_) | (refine ShrReq.mk (n := ((bz / 2 ^ pa : Nat) : Int)) (by simp only; omega) hsh ?_) | refine BitReq.mk (and1_u8 (by omega)) ?_ | refine zQ hX ?_ | refine zR hX ?_ | refine zA ?_ | refine zT ?_ | refine zF ?_ | refine zL hX hL ?_ | refine zB hX hL ?_ | (refine zS hX hL ?_; clear hL; intro w hL) | refine zI ?_ | refine zG hX ?_ | refine zO ?_); conv => whnf)
        have hF' : ∀ a b, a < N → b < N → upd F q q (!(decide (((bz / 2 ^ pa % 2 : Nat) : Int) = 1) == neg)) a b = (decide (a < q + 1) && (decide (a = b) && (decide ((bts.getD a 0).toNat / 2 ^ pa % 2 = 1) != neg))) := by
          intro a b ha hb
          by_cases e : a = q ∧ b = q
          · rw [e.1, e.2, upd_same, hbt, show decide (q < q + 1) = true from decide_eq_true (by omega), show decide (q = q) = true from decide_eq_true rfl, Bool.true_and, Bool.true_and]
            have : decide (((bz / 2 ^ pa % 2 : Nat) : Int) = 1) = decide (bz / 2 ^ pa % 2 = 1) := decide_eq_decide.2 (by omega)
            rw [this]; rfl
          · rw [upd_other e, hF a b ha hb]
            by_cases e2 : a = b
            · congr 1; exact decide_eq_decide.2 (by omega)
            · rw [decide_eq_false e2]; simp
        refine StReq.tabc rfl rfl (q + 1) hL (by rw [List.getElem?_cons_succ, List.getElem?_append_left (by rw [rowsL_len]; exact hjn)]; exact rowsL_get hjn) hjn ?_
        clear hL
        intro w hL
        rw [List.set_cons_succ, List.set_append_left _ _ (by rw [rowsL_len]; exact hjn), rowsL_set] at hL
        conv => whnf
        repeat ((first | refine SReq.mk (hL.one 0 rfl) ?_ | refine zQ hX ?_ | refine zR hX ?_ | refine zA ?_ | refine zT ?_ | refine zF ?_ | refine zL hX hL ?_ | refine zB hX hL ?_ | (refine zS hX hL ?_; clear hL; intro w hL) | refine zI ?_ | refine zG hX ?_ | refine zO ?_); conv => whnf)
        refine ⟨q + 1, ⟨by omega, _, hF', hL⟩, by first | omega | (simp only; omega), ?_, ?_⟩
        · repeat (first | exact trivial | (refine And.intro (by (conv => lhs; whnf) <;> (conv => rhs; whnf) <;> (first | rfl)) ?_))
        · repeat (first | exact trivial | (refine And.intro (by (conv => lhs; whnf) <;> (conv => rhs; whnf) <;> (first | rfl)) ?_))
      · obtain rfl : N = q := by omega
        obtain ⟨m3, hL3, hm23, hRT⟩ := OwnTab.freeze (L2 := (b10, .cells (toArr (ndC ⟨8, s0, s1, s2, s3, pa, xb, neg⟩)) 61 (0, 0)) :: Lo) ⟨g0, bs, rfl, hmax, hout, rfl⟩ (hL.perm List.perm_middle.symm)
        clear hL
        have hL := hL3.drop
        clear hL3
        have hm3 := hm2.trans hm23
        have hRT : RepTab m3 (.slice (some ⟨g0, 0, none⟩) N N) N (tabN ws bts ns j) := hRT.congr fun a b ha hb => by
          rw [hTj, hF a b ha hb, decide_eq_true ha, Bool.true_and]
        have hrl : tabs.length + 1 ≤ 1099511627776 := by omega
        conv => whnf
        repeat ((first | refine zT ?_ | refine zF ?_ | refine zL hX hL ?_ | refine zB hX hL ?_ | (refine zS hX hL ?_; clear hL; intro w hL) | refine zI ?_ | refine zG hX ?_ | refine zO ?_); conv => whnf)
        refine NewReq.mk hL ?_
        clear hL
        intro g w hL
        conv => whnf
        replace hL : Ev.Loc m [] w0 m3 ((g, .cells (toArr [.slice (some ⟨g0, 0, none⟩) N N]) 44 (0, 0)) :: (Lo ++ [])) w := by rw [List.append_nil]; exact hL
        refine RunReq.push hX 45 44 rfl rfl rfl rfl rfl ho (L2 := []) hL rfl rfl hrl rfl ?_
        clear hL
        intro A2 n2 c2 L2 w hn2 ho2 hL
        rw [List.append_nil] at hL
        have hT2 : ∀ (i : Nat), i < j + 1 → ∃ A c, (tabs ++ [.slice (some ⟨g0, 0, none⟩) N N])[i]? = some (.slice A N c) ∧ RepTab m3 (.slice A N c) N (tabN ws bts ns i) := fun i hi => by
          by_cases hij : i < j
          · obtain ⟨A', c', e1, e2⟩ := hT i hij
            exact ⟨A', c', by rw [List.getElem?_append_left (by omega)]; exact e1, e2.le hm3⟩
          · obtain rfl : i = j := by omega
            exact ⟨(some ⟨g0, 0, none⟩), N, by rw [List.getElem?_append_right (by omega), htl, Nat.sub_self]; rfl, hRT⟩
        conv => whnf
        repeat ((first | refine zT ?_ | refine zF ?_ | refine zL hX hL ?_ | refine zB hX hL ?_ | (refine zS hX hL ?_; clear hL; intro w hL) | refine zI ?_ | refine zG hX ?_ | refine zO ?_); conv => whnf)
        refine ⟨(j + 1, A2, n2, c2), ⟨by simp only; omega, m3, L2, _, hm1.trans hm3, ho2, by simp; omega, hT2, hL⟩, by first | omega | (simp only; omega), ?_, ?_⟩
        · repeat (first | exact trivial | (refine And.intro (by (conv => lhs; whnf) <;> (conv => rhs; whnf) <;> (first | rfl)) ?_))
        · repeat (first | exact trivial | (refine And.intro (by (conv => lhs; whnf) <;> (conv => rhs; whnf) <;> (first | rfl)) ?_))
    by_cases k0 : k = 0
    · rw [if_neg (by omega), if_neg (by omega), if_neg (by omega), if_neg (by omega), if_neg (by omega), if_neg (by omega)] at hTj
      subst k0
      conv => whnf
      repeat ((first | refine zT ?_ | refine zF ?_ | refine zL hX hL ?_ | refine zB hX hL ?_ | (refine zS hX hL ?_; clear hL; intro w hL) | refine zI ?_ | refine zG hX ?_ | refine zO ?_); conv => whnf)
      obtain ⟨m3, hL3, hm23, hRT⟩ := OwnTab.freeze (L2 := (b10, .cells (toArr (ndC ⟨0, s0, s1, s2, s3, xa, xb, neg⟩)) 61 (0, 0)) :: Lo) ⟨g0, bs, rfl, hmax, hout, rfl⟩ (hL.perm (List.perm_append_comm (l₁ := _ :: Lo)))
      clear hL
      have hL := hL3.drop
      clear hL3
      have hm3 := hm2.trans hm23
      have hRT : RepTab m3 (.slice (some ⟨g0, 0, none⟩) N N) N (tabN ws bts ns j) := by rw [hTj]; exact hRT
      have hrl : tabs.length + 1 ≤ 1099511627776 := by omega
      conv => whnf
      repeat ((first | refine zT ?_ | refine zF ?_ | refine zL hX hL ?_ | refine zB hX hL ?_ | (refine zS hX hL ?_; clear hL; intro w hL) | refine zI ?_ | refine zG hX ?_ | refine zO ?_); conv => whnf)
      refine NewReq.mk hL ?_
      clear hL
      intro g w hL
      conv => whnf
      replace hL : Ev.Loc m [] w0 m3 ((g, .cells (toArr [.slice (some ⟨g0, 0, none⟩) N N]) 44 (0, 0)) :: (Lo ++ [])) w := by rw [List.append_nil]; exact hL
      refine RunReq.push hX 45 44 rfl rfl rfl rfl rfl ho (L2 := []) hL rfl rfl hrl rfl ?_
      clear hL
      intro A2 n2 c2 L2 w hn2 ho2 hL
      rw [List.append_nil] at hL
      have hT2 : ∀ (i : Nat), i < j + 1 → ∃ A c, (tabs ++ [.slice (some ⟨g0, 0, none⟩) N N])[i]? = some (.slice A N c) ∧ RepTab m3 (.slice A N c) N (tabN ws bts ns i) := fun i hi => by
        by_cases hij : i < j
        · obtain ⟨A', c', e1, e2⟩ := hT i hij
          exact ⟨A', c', by rw [List.getElem?_append_left (by omega)]; exact e1, e2.le hm3⟩
        · obtain rfl : i = j := by omega
          exact ⟨(some ⟨g0, 0, none⟩), N, by rw [List.getElem?_append_right (by omega), htl, Nat.sub_self]; rfl, hRT⟩
      conv => whnf
      repeat ((first | refine zT ?_ | refine zF ?_ | refine zL hX hL ?_ | refine zB hX hL ?_ | (refine zS hX hL ?_; clear hL; intro w hL) | refine zI ?_ | refine zG hX ?_ | refine zO ?_); conv => whnf)
      refine ⟨(j + 1, A2, n2, c2), ⟨by simp only; omega, m3, L2, _, hm1.trans hm3, ho2, by simp; omega, hT2, hL⟩, by first | omega | (simp only; omega), ?_, ?_⟩
      · repeat (first | exact trivial | (refine And.intro (by (conv => lhs; whnf) <;> (conv => rhs; whnf) <;> (first | rfl)) ?_))
      · repeat (first | exact trivial | (refine And.intro (by (conv => lhs; whnf) <;> (conv => rhs; whnf) <;> (first | rfl)) ?_))
    have hpos : 0 < j := by omega
    have ho' := ho
    obtain ⟨k9, hk9, ⟨e, h0, -⟩ | ⟨g8, cap8, cur8, e, rfl, h81, h82, h83, h84⟩⟩ := ho'
    · exact absurd hk9 (by omega)
    cases e
    have hcur : ∀ i, i < j → ∃ A c, cur8[i]? = some (.slice A N c) ∧ RepTab m2 (.slice A N c) N (tabN ws bts ns i) := fun i hi => by
      obtain ⟨A', c', e1, e2⟩ := hT i hi
      refine ⟨A', c', ?_, e2.le hm2⟩
      rw [← e1, ← h84, List.getElem?_take_of_lt (by omega)]
    obtain ⟨pa, rfl⟩ : ∃ pa : Nat, xa = pa := ⟨xa.toNat, by omega⟩
    have hpa : pa < j := by omega
    obtain ⟨Aa, ca, ea1, ea2⟩ := hcur pa hpa
    rw [Int.toNat_natCast] at hTj
    replace hL := hL.sublist (List.Sublist.append_left (List.nil_sublist (rowsL bs N (fun _ _ => false) N)) ((b10, .cells (toArr (ndC ⟨k, s0, s1, s2, s3, pa, xb, neg⟩)) 61 (0, 0)) :: [(g8, .cells (toArr cur8) 44 (0, 0))]))
    replace hL : Ev.Loc m [] w0 m2 [(b10, .cells (toArr (ndC ⟨k, s0, s1, s2, s3, pa, xb, neg⟩)) 61 (0, 0)), (g8, .cells (toArr cur8) 44 (0, 0))] w := hL
    by_cases k3 : k = 3
    · rw [if_pos k3] at hTj
      subst k3
      obtain ⟨pb, rfl⟩ : ∃ pb : Nat, xb = pb := ⟨xb.toNat, by omega⟩
      have hpb : pb < j := by omega
      obtain ⟨Ab, cb, eb1, eb2⟩ := hcur pb hpb
      rw [Int.toNat_natCast] at hTj
      conv => whnf
      repeat ((first | refine zT ?_ | refine zF ?_ | refine zL hX hL ?_ | refine zB hX hL ?_ | (refine zS hX hL ?_; clear hL; intro w hL) | refine zI ?_ | refine zG hX ?_ | refine zO ?_); conv => whnf)
      refine DrawReq.plan hX (.fst 0 (.fst 1 (.fst 2 (.fst 3 (.fst 4 (.fst 5 (.fst 6 (.fst 7 (.fst 8 (.fst 9 (.alt 10 (.fst 11 (.done)) (.stop)))))))))))) [(b10, .cells (toArr (ndC ⟨3, s0, s1, s2, s3, pa, pb, neg⟩)) 61 (0, 0)), (g8, .cells (toArr cur8) 44 (0, 0))] (by kernel_rfl) (by kernel_rfl) hL id ?_
      clear hL
      intro w hL
      conv => whnf
      repeat ((first | (refine Idx2Req.mk pa _ rfl (by simp only; omega) rfl ?_) | (refine Idx2Req.mk pb _ rfl (by simp only; omega) rfl ?_) | (refine QLdReq.ownC hX rfl rfl (.t .h) (by rw [scale_eq, Nat.zero_add, Nat.mul_one]; exact ea1) ?_) | (refine QLdReq.ownC hX rfl rfl (.t .h) (by rw [scale_eq, Nat.zero_add, Nat.mul_one]; exact eb1) ?_) | refine zQ hX ?_ | refine zR hX ?_ | refine zA ?_ | refine zT ?_ | refine zF ?_ | refine zL hX hL ?_ | refine zB hX hL ?_ | (refine zS hX hL ?_; clear hL; intro w hL) | refine zI ?_ | refine zG hX ?_ | refine zO ?_); conv => whnf)
      refine CallReq.pure (Then_fn m2 _ _ N _ _ ea2 eb2 (by omega)) hL ?_
      clear hL
      rintro u m3 w hL hm23 hRT
      obtain ⟨At, ct, rfl⟩ := hRT.form
      rw [← hTj] at hRT
      have hm3 := hm2.trans hm23
      refine SReq.mk (hL.weaken hm23 (hm1.trans hm2)) ?_
      replace hL := hL.drop
      conv => whnf
      repeat ((first | refine zQ hX ?_ | refine zR hX ?_ | refine zA ?_ | refine zT ?_ | refine zF ?_ | refine zL hX hL ?_ | refine zB hX hL ?_ | (refine zS hX hL ?_; clear hL; intro w hL) | refine zI ?_ | refine zG hX ?_ | refine zO ?_); conv => whnf)
      have hrl : tabs.length + 1 ≤ 1099511627776 := by omega
      conv => whnf
      repeat ((first | refine zT ?_ | refine zF ?_ | refine zL hX hL ?_ | refine zB hX hL ?_ | (refine zS hX hL ?_; clear hL; intro w hL) | refine zI ?_ | refine zG hX ?_ | refine zO ?_); conv => whnf)
      refine NewReq.mk hL ?_
      clear hL
      intro g w hL
      conv => whnf
      replace hL : Ev.Loc m [] w0 m3 ((g, .cells (toArr [.slice At N ct]) 44 (0, 0)) :: ([(g8, .cells (toArr cur8) 44 (0, 0))] ++ [])) w := by rw [List.append_nil]; exact hL
      refine RunReq.push hX 45 44 rfl rfl rfl rfl rfl ho (L2 := []) hL rfl rfl hrl rfl ?_
      clear hL
      intro A2 n2 c2 L2 w hn2 ho2 hL
      rw [List.append_nil] at hL
      have hT2 : ∀ (i : Nat), i < j + 1 → ∃ A c, (tabs ++ [.slice At N ct])[i]? = some (.slice A N c) ∧ RepTab m3 (.slice A N c) N (tabN ws bts ns i) := fun i hi => by
        by_cases hij : i < j
        · obtain ⟨A', c', e1, e2⟩ := hT i hij
          exact ⟨A', c', by rw [List.getElem?_append_left (by omega)]; exact e1, e2.le hm3⟩
        · obtain rfl : i = j := by omega
          exact ⟨At, ct, by rw [List.getElem?_append_right (by omega), htl, Nat.sub_self]; rfl, hRT⟩
      conv => whnf
      repeat ((first | refine zT ?_ | refine zF ?_ | refine zL hX hL ?_ | refine zB hX hL ?_ | (refine zS hX hL ?_; clear hL; intro w hL) | refine zI ?_ | refine zG hX ?_ | refine zO ?_); conv => whnf)
      refine ⟨(j + 1, A2, n2, c2), ⟨by simp only; omega, m3, L2, _, hm1.trans hm3, ho2, by simp; omega, hT2, hL⟩, by first | omega | (simp only; omega), ?_, ?_⟩
      · repeat (first | exact trivial | (refine And.intro (by (conv => lhs; whnf) <;> (conv => rhs; whnf) <;> (first | rfl)) ?_))
      · repeat (first | exact trivial | (refine And.intro (by (conv => lhs; whnf) <;> (conv => rhs; whnf) <;> (first | rfl)) ?_))
    rw [if_neg k3] at hTj
    by_cases k4 : k = 4
    · rw [if_pos k4] at hTj
      subst k4
      obtain ⟨pb, rfl⟩ : ∃ pb : Nat, xb = pb := ⟨xb.toNat, by omega⟩
      have hpb : pb < j := by omega
      obtain ⟨Ab, cb, eb1, eb2⟩ := hcur pb hpb
      rw [Int.toNat_natCast] at hTj
      conv => whnf
      repeat ((first | refine zT ?_ | refine zF ?_ | refine zL hX hL ?_ | refine zB hX hL ?_ | (refine zS hX hL ?_; clear hL; intro w hL) | refine zI ?_ | refine zG hX ?_ | refine zO ?_); conv => whnf)
      refine DrawReq.plan hX (.fst 0 (.fst 1 (.fst 2 (.fst 3 (.fst 4 (.fst 5 (.fst 6 (.fst 7 (.fst 8 (.fst 9 (.alt 10 (.fst 11 (.done)) (.stop)))))))))))) [(b10, .cells (toArr (ndC ⟨4, s0, s1, s2, s3, pa, pb, neg⟩)) 61 (0, 0)), (g8, .cells (toArr cur8) 44 (0, 0))] (by kernel_rfl) (by kernel_rfl) hL id ?_
      clear hL
      intro w hL
      conv => whnf
      repeat ((first | (refine Idx2Req.mk pa _ rfl (by simp only; omega) rfl ?_) | (refine Idx2Req.mk pb _ rfl (by simp only; omega) rfl ?_) | (refine QLdReq.ownC hX rfl rfl (.t .h) (by rw [scale_eq, Nat.zero_add, Nat.mul_one]; exact ea1) ?_) | (refine QLdReq.ownC hX rfl rfl (.t .h) (by rw [scale_eq, Nat.zero_add, Nat.mul_one]; exact eb1) ?_) | refine zQ hX ?_ | refine zR hX ?_ | refine zA ?_ | refine zT ?_ | refine zF ?_ | refine zL hX hL ?_ | refine zB hX hL ?_ | (refine zS hX hL ?_; clear hL; intro w hL) | refine zI ?_ | refine zG hX ?_ | refine zO ?_); conv => whnf)
      refine CallReq.pure (Either_fn m2 _ _ N _ _ ea2 eb2 (by omega)) hL ?_
      clear hL
      rintro u m3 w hL hm23 hRT
      obtain ⟨At, ct, rfl⟩ := hRT.form
      rw [← hTj] at hRT
      have hm3 := hm2.trans hm23
      refine SReq.mk (hL.weaken hm23 (hm1.trans hm2)) ?_
      replace hL := hL.drop
      conv => whnf
      repeat ((first | refine zQ hX ?_ | refine zR hX ?_ | refine zA ?_ | refine zT ?_ | refine zF ?_ | refine zL hX hL ?_ | refine zB hX hL ?_ | (refine zS hX hL ?_; clear hL; intro w hL) | refine zI ?_ | refine zG hX ?_ | refine zO ?_); conv => whnf)
      have hrl : tabs.length + 1 ≤ 1099511627776 := by omega
      conv => whnf
      repeat ((first | refine zT ?_ | refine zF ?_ | refine zL hX hL ?_ | refine zB hX hL ?_ | (refine zS hX hL ?_; clear hL; intro w hL) | refine zI ?_ | refine zG hX ?_ | refine zO ?_); conv => whnf)
      refine NewReq.mk hL ?_
      clear hL
      intro g w hL
      conv => whnf
      replace hL : Ev.Loc m [] w0 m3 ((g, .cells (toArr [.slice At N ct]) 44 (0, 0)) :: ([(g8, .cells (toArr cur8) 44 (0, 0))] ++ [])) w := by rw [List.append_nil]; exact hL
      refine RunReq.push hX 45 44 rfl rfl rfl rfl rfl ho (L2 := []) hL rfl rfl hrl rfl ?_
      clear hL
      intro A2 n2 c2 L2 w hn2 ho2 hL
      rw [List.append_nil] at hL
      have hT2 : ∀ (i : Nat), i < j + 1 → ∃ A c, (tabs ++ [.slice At N ct])[i]? = some (.slice A N c) ∧ RepTab m3 (.slice A N c) N (tabN ws bts ns i) := fun i hi => by
        by_cases hij : i < j
        · obtain ⟨A', c', e1, e2⟩ := hT i hij
          exact ⟨A', c', by rw [List.getElem?_append_left (by omega)]; exact e1, e2.le hm3⟩
        · obtain rfl : i = j := by omega
          exact ⟨At, ct, by rw [List.getElem?_append_right (by omega), htl, Nat.sub_self]; rfl, hRT⟩
      conv => whnf
      repeat ((first | refine zT ?_ | refine zF ?_ | refine zL hX hL ?_ | refine zB hX hL ?_ | (refine zS hX hL ?_; clear hL; intro w hL) | refine zI ?_ | refine zG hX ?_ | refine zO ?_); conv => whnf)
      refine ⟨(j + 1, A2, n2, c2), ⟨by simp only; omega, m3, L2, _, hm1.trans hm3, ho2, by simp; omega, hT2, hL⟩, by first | omega | (simp only; omega), ?_, ?_⟩
      · repeat (first | exact trivial | (refine And.intro (by (conv => lhs; whnf) <;> (conv => rhs; whnf) <;> (first | rfl)) ?_))
      · repeat (first | exact trivial | (refine And.intro (by (conv => lhs; whnf) <;> (conv => rhs; whnf) <;> (first | rfl)) ?_))
    rw [if_neg k4] at hTj
    by_cases k5 : k = 5
    · rw [if_pos k5] at hTj
      subst k5
      obtain ⟨pb, rfl⟩ : ∃ pb : Nat, xb = pb := ⟨xb.toNat, by omega⟩
      have hpb : pb < j := by omega
      obtain ⟨Ab, cb, eb1, eb2⟩ := hcur pb hpb
      rw [Int.toNat_natCast] at hTj
      conv => whnf
      repeat ((first | refine zT ?_ | refine zF ?_ | refine zL hX hL ?_ | refine zB hX hL ?_ | (refine zS hX hL ?_; clear hL; intro w hL) | refine zI ?_ | refine zG hX ?_ | refine zO ?_); conv => whnf)
      refine DrawReq.plan hX (.fst 0 (.fst 1 (.fst 2 (.fst 3 (.fst 4 (.fst 5 (.fst 6 (.fst 7 (.fst 8 (.fst 9 (.alt 10 (.fst 11 (.done)) (.stop)))))))))))) [(b10, .cells (toArr (ndC ⟨5, s0, s1, s2, s3, pa, pb, neg⟩)) 61 (0, 0)), (g8, .cells (toArr cur8) 44 (0, 0))] (by kernel_rfl) (by kernel_rfl) hL id ?_
      clear hL
      intro w hL
      conv => whnf
      repeat ((first | (refine Idx2Req.mk pa _ rfl (by simp only; omega) rfl ?_) | (refine Idx2Req.mk pb _ rfl (by simp only; omega) rfl ?_) | (refine QLdReq.ownC hX rfl rfl (.t .h) (by rw [scale_eq, Nat.zero_add, Nat.mul_one]; exact ea1) ?_) | (refine QLdReq.ownC hX rfl rfl (.t .h) (by rw [scale_eq, Nat.zero_add, Nat.mul_one]; exact eb1) ?_) | refine zQ hX ?_ | refine zR hX ?_ | refine zA ?_ | refine zT ?_ | refine zF ?_ | refine zL hX hL ?_ | refine zB hX hL ?_ | (refine zS hX hL ?_; clear hL; intro w hL) | refine zI ?_ | refine zG hX ?_ | refine zO ?_); conv => whnf)
      refine CallReq.pure (Both_fn m2 _ _ N _ _ ea2 eb2 (by omega)) hL ?_
      clear hL
      rintro u m3 w hL hm23 hRT
      obtain ⟨At, ct, rfl⟩ := hRT.form
      rw [← hTj] at hRT
      have hm3 := hm2.trans hm23
      refine SReq.mk (hL.weaken hm23 (hm1.trans hm2)) ?_
      replace hL := hL.drop
      conv => whnf
      repeat ((first | refine zQ hX ?_ | refine zR hX ?_ | refine zA ?_ | refine zT ?_ | refine zF ?_ | refine zL hX hL ?_ | refine zB hX hL ?_ | (refine zS hX hL ?_; clear hL; intro w hL) | refine zI ?_ | refine zG hX ?_ | refine zO ?_); conv => whnf)
      have hrl : tabs.length + 1 ≤ 1099511627776 := by omega
      conv => whnf
      repeat ((first | refine zT ?_ | refine zF ?_ | refine zL hX hL ?_ | refine zB hX hL ?_ | (refine zS hX hL ?_; clear hL; intro w hL) | refine zI ?_ | refine zG hX ?_ | refine zO ?_); conv => whnf)
      refine NewReq.mk hL ?_
      clear hL
      intro g w hL
      conv => whnf
      replace hL : Ev.Loc m [] w0 m3 ((g, .cells (toArr [.slice At N ct]) 44 (0, 0)) :: ([(g8, .cells (toArr cur8) 44 (0, 0))] ++ [])) w := by rw [List.append_nil]; exact hL
      refine RunReq.push hX 45 44 rfl rfl rfl rfl rfl ho (L2 := []) hL rfl rfl hrl rfl ?_
      clear hL
      intro A2 n2 c2 L2 w hn2 ho2 hL
      rw [List.append_nil] at hL
      have hT2 : ∀ (i : Nat), i < j + 1 → ∃ A c, (tabs ++ [.slice At N ct])[i]? = some (.slice A N c) ∧ RepTab m3 (.slice A N c) N (tabN ws bts ns i) := fun i hi => by
        by_cases hij : i < j
        · obtain ⟨A', c', e1, e2⟩ := hT i hij
          exact ⟨A', c', by rw [List.getElem?_append_left (by omega)]; exact e1, e2.le hm3⟩
        · obtain rfl : i = j := by omega
          exact ⟨At, ct, by rw [List.getElem?_append_right (by omega), htl, Nat.sub_self]; rfl, hRT⟩
      conv => whnf
      repeat ((first | refine zT ?_ | refine zF ?_ | refine zL hX hL ?_ | refine zB hX hL ?_ | (refine zS hX hL ?_; clear hL; intro w hL) | refine zI ?_ | refine zG hX ?_ | refine zO ?_); conv => whnf)
      refine ⟨(j + 1, A2, n2, c2), ⟨by simp only; omega, m3, L2, _, hm1.trans hm3, ho2, by simp; omega, hT2, hL⟩, by first | omega | (simp only; omega), ?_, ?_⟩
      · repeat (first | exact trivial | (refine And.intro (by (conv => lhs; whnf) <;> (conv => rhs; whnf) <;> (first | rfl)) ?_))
      · repeat (first | exact trivial | (refine And.intro (by (conv => lhs; whnf) <;> (conv => rhs; whnf) <;> (first | rfl)) ?_))
    rw [if_neg k5] at hTj
    by_cases k6 : k = 6
    · rw [if_pos k6] at hTj
      subst k6
      conv => whnf
      repeat ((first | (refine Idx2Req.mk pa _ rfl (by simp only; omega) rfl ?_) | (refine LdReq.ownC hX rfl rfl hL (.t .h) (by rw [scale_eq, Nat.zero_add, Nat.mul_one]; exact ea1) ?_) | refine zT ?_ | refine zF ?_ | refine zL hX hL ?_ | refine zB hX hL ?_ | (refine zS hX hL ?_; clear hL; intro w hL) | refine zI ?_ | refine zG hX ?_ | refine zO ?_); conv => whnf)
      refine CallReq.pure (Other_fn m2 _ N _ ea2 (by omega)) hL ?_
      clear hL
      rintro u m3 w hL hm23 hRT
      obtain ⟨At, ct, rfl⟩ := hRT.form
      rw [← hTj] at hRT
      have hm3 := hm2.trans hm23
      replace hL := hL.drop
      have hrl : tabs.length + 1 ≤ 1099511627776 := by omega
      conv => whnf
      repeat ((first | refine zT ?_ | refine zF ?_ | refine zL hX hL ?_ | refine zB hX hL ?_ | (refine zS hX hL ?_; clear hL; intro w hL) | refine zI ?_ | refine zG hX ?_ | refine zO ?_); conv => whnf)
      refine NewReq.mk hL ?_
      clear hL
      intro g w hL
      conv => whnf
      replace hL : Ev.Loc m [] w0 m3 ((g, .cells (toArr [.slice At N ct]) 44 (0, 0)) :: ([(g8, .cells (toArr cur8) 44 (0, 0))] ++ [])) w := by rw [List.append_nil]; exact hL
      refine RunReq.push hX 45 44 rfl rfl rfl rfl rfl ho (L2 := []) hL rfl rfl hrl rfl ?_
      clear hL
      intro A2 n2 c2 L2 w hn2 ho2 hL
      rw [List.append_nil] at hL
      have hT2 : ∀ (i : Nat), i < j + 1 → ∃ A c, (tabs ++ [.slice At N ct])[i]? = some (.slice A N c) ∧ RepTab m3 (.slice A N c) N (tabN ws bts ns i) := fun i hi => by
        by_cases hij : i < j
        · obtain ⟨A', c', e1, e2⟩ := hT i hij
          exact ⟨A', c', by rw [List.getElem?_append_left (by omega)]; exact e1, e2.le hm3⟩
        · obtain rfl : i = j := by omega
          exact ⟨At, ct, by rw [List.getElem?_append_right (by omega), htl, Nat.sub_self]; rfl, hRT⟩
      conv => whnf
      repeat ((first | refine zT ?_ | refine zF ?_ | refine zL hX hL ?_ | refine zB hX hL ?_ | (refine zS hX hL ?_; clear hL; intro w hL) | refine zI ?_ | refine zG hX ?_ | refine zO ?_); conv => whnf)
      refine ⟨(j + 1, A2, n2, c2), ⟨by simp only; omega, m3, L2, _, hm1.trans hm3, ho2, by simp; omega, hT2, hL⟩, by first | omega | (simp only; omega), ?_, ?_⟩
      · repeat (first | exact trivial | (refine And.intro (by (conv => lhs; whnf) <;> (conv => rhs; whnf) <;> (first | rfl)) ?_))
      · repeat (first | exact trivial | (refine And.intro (by (conv => lhs; whnf) <;> (conv => rhs; whnf) <;> (first | rfl)) ?_))
    rw [if_neg k6] at hTj
    have k7 : k = 7 := by omega
    rw [if_pos k7] at hTj
    subst k7
    conv => whnf
    repeat ((first | (refine Idx2Req.mk pa _ rfl (by simp only; omega) rfl ?_) | (refine LdReq.ownC hX rfl rfl hL (.t .h) (by rw [scale_eq, Nat.zero_add, Nat.mul_one]; exact ea1) ?_) | refine zT ?_ | refine zF ?_ | refine zL hX hL ?_ | refine zB hX hL ?_ | (refine zS hX hL ?_; clear hL; intro w hL) | refine zI ?_ | refine zG hX ?_ | refine zO ?_); conv => whnf)
    refine CallReq.pure (Any_fn m2 _ N _ ea2 (by omega)) hL ?_
    clear hL
    rintro u m3 w hL hm23 hRT
    obtain ⟨At, ct, rfl⟩ := hRT.form
    rw [← hTj] at hRT
    have hm3 := hm2.trans hm23
    replace hL := hL.drop
    have hrl : tabs.length + 1 ≤ 1099511627776 := by omega
    conv => whnf
    repeat ((first | refine zT ?_ | refine zF ?_ | refine zL hX hL ?_ | refine zB hX hL ?_ | (refine zS hX hL ?_; clear hL; intro w hL) | refine zI ?_ | refine zG hX ?_ | refine zO ?_); conv => whnf)
    refine NewReq.mk hL ?_
    clear hL
    intro g w hL
    conv => whnf
    replace hL : Ev.Loc m [] w0 m3 ((g, .cells (toArr [.slice At N ct]) 44 (0, 0)) :: ([(g8, .cells (toArr cur8) 44 (0, 0))] ++ [])) w := by rw [List.append_nil]; exact hL
    refine RunReq.push hX 45 44 rfl rfl rfl rfl rfl ho (L2 := []) hL rfl rfl hrl rfl ?_
    clear hL
    intro A2 n2 c2 L2 w hn2 ho2 hL
    rw [List.append_nil] at hL
    have hT2 : ∀ (i : Nat), i < j + 1 → ∃ A c, (tabs ++ [.slice At N ct])[i]? = some (.slice A N c) ∧ RepTab m3 (.slice A N c) N (tabN ws bts ns i) := fun i hi => by
      by_cases hij : i < j
      · obtain ⟨A', c', e1, e2⟩ := hT i hij
        exact ⟨A', c', by rw [List.getElem?_append_left (by omega)]; exact e1, e2.le hm3⟩
      · obtain rfl : i = j := by omega
        exact ⟨At, ct, by rw [List.getElem?_append_right (by omega), htl, Nat.sub_self]; rfl, hRT⟩
    conv => whnf
    repeat ((first | refine zT ?_ | refine zF ?_ | refine zL hX hL ?_ | refine zB hX hL ?_ | (refine zS hX hL ?_; clear hL; intro w hL) | refine zI ?_ | refine zG hX ?_ | refine zO ?_); conv => whnf)
    refine ⟨(j + 1, A2, n2, c2), ⟨by simp only; omega, m3, L2, _, hm1.trans hm3, ho2, by simp; omega, hT2, hL⟩, by first | omega | (simp only; omega), ?_, ?_⟩
    · repeat (first | exact trivial | (refine And.intro (by (conv => lhs; whnf) <;> (conv => rhs; whnf) <;> (first | rfl)) ?_))
    · repeat (first | exact trivial | (refine And.intro (by (conv => lhs; whnf) <;> (conv => rhs; whnf) <;> (first | rfl)) ?_))
  · have hjn : j = ns.length := by simp only at hlt; omega
    subst hjn
    conv => whnf
    repeat ((first | refine zT ?_ | refine zF ?_ | refine zL hX hL ?_ | refine zB hX hL ?_ | (refine zS hX hL ?_; clear hL; intro w hL) | refine zI ?_ | refine zG hX ?_ | refine zO ?_); conv => whnf)
    obtain ⟨m2, A', c', ev, hL2, hm2, hsl, -⟩ := OwnS.freezeRows (size := 1) (rows := tabs.map fun t => [t]) (l := tabs) (R := fun cs (t : Value) => cs = [t]) (L2 := []) (by omega) (by rw [flat1]; exact ho) (by rw [List.append_nil]; exact hL) (by intro r hr; obtain ⟨t, -, rfl⟩ := List.mem_map.1 hr; rfl) (by simp) (fun i x hx => ⟨[x], by rw [List.getElem?_map, hx]; rfl, rfl⟩)
    refine RetReq.mk hL2 ⟨rfl, tabs, hsl, htl, fun i hi => ?_⟩
    obtain ⟨A', c', e1, e2⟩ := hT i hi
    exact ⟨A', c', e1, e2.le hm2⟩
end Go.Proofs.YtpdiljdklllmjaaGreat.ar
