/- Looks: made out of patterns; is one late; what the document says. Conditions: none. -/
import Derived.Test.YtblpobeokfkggaaLooksGather

namespace Go.Proofs.Ytblpobeokfkggaa.looks
open Go Go.Ev Go.Proofs Go.Proofs.Ytblpobeokfkggaa.tree

/-- What is made. -/
def makeR (l : List Re) : Int × List Re := if l.any (fun r => !formedR r) = true then (1, []) else if 4 < (looksL l []).length then (10, []) else (0, looksL l [])

theorem formed_deep {r : Re} (h : formedR r = true) : deepR 40 r ≤ 40 := by
  unfold formedR at h
  simp only [Bool.and_eq_true, decide_eq_true_eq] at h
  exact h.1.1

/-- Has one need of what is to come? -/
def lateR (l : List Re) : Bool := l.any fun r => decide (r.kind = 8) || decide (r.kind = 11)
theorem rep_kind {m : Mem} {cs : List Value} {x : Re} (h : RepRe m cs x) : cs[0]? = some (.int .i64 x.kind) := by cases h; rfl
theorem addr_add_add (a : Addr) (x y : Nat) : (a.add x).add y = a.add (x + y) := by
  unfold Addr.add
  by_cases hx : x = 0
  · subst hx; simp
  · by_cases hy : y = 0
    · subst hy; simp
    · rw [if_neg hx, if_neg hy, if_neg (by omega)]; simp [Nat.add_assoc]
theorem rep_one {m : Mem} {cs : List Value} {r : Re} (h : RepRe m cs r) : ∀ u ∈ cs, u.oneCell' = true := by
  obtain ⟨k1, u0, u1, u2, u3, A1, n1, c1, lo1, hi1, neg1, rfl⟩ := h.form
  intro u hu
  simp only [reC, List.mem_cons, List.not_mem_nil, or_false] at hu
  rcases hu with rfl | rfl | rfl | rfl | rfl | rfl | rfl | rfl | rfl <;> rfl

/-- The cells of a slice that is read. -/
theorem sl_rows {α : Type} {m : Mem} {size : Nat} {R : List Value → α → Prop} {A : Option Addr} {n c : Nat} {l : List α} (hz : 0 < size) (h : Sl m size R (.slice A n c) l) :
    ∃ rows : List (List Value), rows.length = l.length ∧ (∀ r ∈ rows, r.length = size) ∧ (∀ (i : Nat) (x : α), l[i]? = some x → ∃ cs, rows[i]? = some cs ∧ R cs x) ∧ ∀ (j : Nat) (u : Value), rows.flatten[j]? = some u → ∃ a, A = some a ∧ mcell m (a.add j) = some u := by
  have hel := h.elem
  obtain ⟨rows, h1, h2⟩ := list_of (Q := fun i (cs : List Value) => ∃ a, A = some a ∧ cs.length = size ∧ Cells m (a.add (scale i size)) cs ∧ ∀ x, l[i]? = some x → R cs x) l.length fun i hi => by
    obtain ⟨a, cs, e1, e2, e3, e4⟩ := hel i _ (List.getElem?_eq_getElem hi)
    exact ⟨cs, a, e1, e2, e3, fun x hx => by rw [List.getElem?_eq_getElem hi] at hx; cases hx; exact e4⟩
  have hs : ∀ r ∈ rows, r.length = size := fun r hr => by
    obtain ⟨i, hi, rfl⟩ := List.getElem_of_mem hr
    obtain ⟨a, _, e2, _⟩ := h2 i _ (List.getElem?_eq_getElem hi)
    exact e2
  refine ⟨rows, h1, hs, fun i x hx => ?_, fun j u hu => ?_⟩
  · have hi : i < rows.length := by rw [h1]; exact (List.getElem?_eq_some_iff.1 hx).1
    obtain ⟨a, _, _, _, e4⟩ := h2 i _ (List.getElem?_eq_getElem hi)
    exact ⟨_, List.getElem?_eq_getElem hi, e4 x hx⟩
  · have hj := (List.getElem?_eq_some_iff.1 hu).1
    rw [flat_len rows hs] at hj
    have hq : j / size < rows.length := (Nat.div_lt_iff_lt_mul hz).2 hj
    obtain ⟨a, e1, e2, e3, _⟩ := h2 (j / size) _ (List.getElem?_eq_getElem hq)
    have hmod := Nat.mod_lt j hz
    have hdm : j / size * size + j % size = j := by rw [Nat.mul_comm]; exact Nat.div_add_mod j size
    have hg := flat_get rows (j / size) (j % size) _ hs (List.getElem?_eq_getElem hq) hmod
    rw [hdm, hu] at hg
    have := e3 (j % size) u hg.symm
    refine ⟨a, e1, ?_⟩
    have e : (a.add (scale (j / size) size)).add (j % size) = a.add j := by
      rw [scale_eq, addr_add_add, hdm]
    rw [← e]; exact this

set_option maxHeartbeats 2000000 in
/-- The looks, as the document gathers them: in shared memory, each list laid anew. -/
theorem refLooks_fn (r : Re) : ∀ (m : Mem) (cs : List Value) (v : Value) (ls : List Re), RepRe m cs r → Sl m 9 (RepRe m) v ls → ls.length + nodesR r ≤ 1000000 →
    Fn0 Try.prog 27 [v, .agg (toArr cs)] m fun m' u => Sl m' 9 (RepRe m') u (looksR r ls) := by
  induction r using Re.ind with
  | h kd s0 s1 s2 s3 rs lo hi neg ih =>
    intro m cs v ls h hv hnb
    obtain ⟨A, n, c, rfl, hs, hrng⟩ := h.open
    obtain ⟨hn, hc, hm⟩ := hs.lens
    have hmx : maxLen = 9223372036854775807 := rfl
    have he := hs.elem
    have hv' := hv
    obtain ⟨Av, nv, cv, rfl, -⟩ := hv
    simp only [nodesR] at hnb
    refine Fn.enter (N := 46) hX Try.func27 rfl rfl (by show _ ≤ _; simp) (fun w0 hL => ?_)
    conv => whnf
    refine NewReq.mk hL ?_
    clear hL
    intro b3 w hL
    conv => whnf
    conv => whnf
    repeat ((first | refine zT ?_ | refine zF ?_ | refine zL hX hL ?_ | refine zB hX hL ?_ | (refine zS hX hL ?_; clear hL; intro w hL) | refine zI ?_ | refine zG hX ?_ | refine zO ?_); conv => whnf)
    refine LoopReq.inv hX (fun s : Nat × Option Addr × Nat × Nat => [(0, .slice s.2.1 s.2.2.1 s.2.2.2), (10, .int .i64 s.1)]) [3, 9]
      (fun s w => s.1 ≤ n ∧ ∃ m1, Mem.Le m m1 ∧ Sl m1 9 (RepRe m1) (.slice s.2.1 s.2.2.1 s.2.2.2) (looksL (rs.take s.1) ls) ∧ Ev.Loc m [] w0 m1 [(b3, .cells (toArr (reC kd s0 s1 s2 s3 (.slice A n c) lo hi neg)) 53 (0, 0))] w) (fun s => n - s.1) (0, Av, nv, cv)
      ⟨by simp, m, Mem.Le.refl m, hv', hL⟩ ⟨rfl, rfl, trivial⟩ ?_
    clear hL
    rintro ⟨j, A0, n0, c0⟩ w f ⟨hj, m1, hm1, hsl, hL⟩
    simp only at hj hsl
    conv => whnf
    repeat ((first | refine zT ?_ | refine zF ?_ | refine zL hX hL ?_ | refine zB hX hL ?_ | (refine zS hX hL ?_; clear hL; intro w hL) | refine zI ?_ | refine zG hX ?_ | refine zO ?_); conv => whnf)
    refine BrReq.dec (fun hlt => ?_) (fun hlt => ?_)
    · have hlt' : j < rs.length := by simp only at hlt; omega
      obtain ⟨a, cs', rfl, hl9, hcells, hrep⟩ := he j _ (List.getElem?_eq_getElem hlt')
      obtain ⟨k1, u0, u1, u2, u3, A1, n1, c1, lo1, hi1, neg1, rfl⟩ := hrep.form
      have hln := looksL_len (rs.take j) ls
      have hnt := nodesL_take rs j hlt'
      have hnl := nodesL_take_le rs (j + 1)
      have htk := looksL_take rs j hlt' ls
      conv => whnf
      repeat ((first | refine Idx2Req.mk j a rfl (by omega) rfl ?_ | refine LdReq.agg hX rfl rfl hL hl9 (hcells.le hm1) ?_ | refine zT ?_ | refine zF ?_ | refine zL hX hL ?_ | refine zB hX hL ?_ | (refine zS hX hL ?_; clear hL; intro w hL) | refine zI ?_ | refine zG hX ?_ | refine zO ?_); conv => whnf)
      refine CallReq.pure (ih _ (List.getElem_mem hlt') m1 _ _ _ (hrep.le hm1) hsl (by omega)) hL ?_
      clear hL
      rintro v m2 w hL hm2 hsl2
      rw [← htk] at hsl2
      have hsl2' := hsl2
      obtain ⟨A2, n2, c2, rfl, -⟩ := hsl2
      conv => whnf
      repeat ((first | refine zT ?_ | refine zF ?_ | refine zL hX hL ?_ | refine zB hX hL ?_ | (refine zS hX hL ?_; clear hL; intro w hL) | refine zI ?_ | refine zG hX ?_ | refine zO ?_); conv => whnf)
      refine ⟨(j + 1, A2, n2, c2), ⟨by simp only at hlt ⊢; omega, m2, hm1.trans hm2, hsl2', hL⟩, by first | omega | (simp only; omega), ?_, ?_⟩
      · repeat (first | exact trivial | (refine And.intro (by (conv => lhs; whnf) <;> (conv => rhs; whnf) <;> (first | rfl)) ?_))
      · repeat (first | exact trivial | (refine And.intro (by (conv => lhs; whnf) <;> (conv => rhs; whnf) <;> (first | rfl)) ?_))
    have hjn : j = rs.length := by simp only at hlt; omega
    rw [hjn, List.take_length] at hsl
    have hln := looksL_len rs ls
    obtain ⟨hn0, hc0, hm0⟩ := hsl.lens
    have hel := hsl.elem
    have hr1 := h.le hm1
    conv => whnf
    repeat ((first | refine zT ?_ | refine zF ?_ | refine zL hX hL ?_ | refine zB hX hL ?_ | (refine zS hX hL ?_; clear hL; intro w hL) | refine zI ?_ | refine zG hX ?_ | refine zO ?_); conv => whnf)
    refine BrReq.dec (fun k8 => ?_) (fun k8 => ?_)
    · have e : looksR (.mk kd s0 s1 s2 s3 rs lo hi neg) ls = looksL rs ls := by simp only [looksR]; rw [if_pos k8]
      conv => whnf
      repeat ((first | refine zT ?_ | refine zF ?_ | refine zL hX hL ?_ | refine zB hX hL ?_ | (refine zS hX hL ?_; clear hL; intro w hL) | refine zI ?_ | refine zG hX ?_ | refine zO ?_); conv => whnf)
      exact RetReq.mk hL.drop ⟨rfl, by rw [e]; exact hsl⟩
    conv => whnf
    repeat ((first | refine zT ?_ | refine zF ?_ | refine zL hX hL ?_ | refine zB hX hL ?_ | (refine zS hX hL ?_; clear hL; intro w hL) | refine zI ?_ | refine zG hX ?_ | refine zO ?_); conv => whnf)
    refine LoopReq.inv hX (fun q : Nat => [(27, .int .i64 q)]) [0, 3, 26]
      (fun q w => (q ≤ n0 ∧ ∀ (i : Nat) (x : Re), i < q → (looksL rs ls)[i]? = some x → sameR 41 x (bareR (.mk kd s0 s1 s2 s3 rs lo hi neg)) = false) ∧ Ev.Loc m [] w0 m1 [(b3, .cells (toArr (reC kd s0 s1 s2 s3 (.slice A n c) lo hi neg)) 53 (0, 0))] w) (fun q => n0 - q) 0
      ⟨⟨by omega, fun i x h => absurd h (by omega)⟩, hL⟩ ⟨rfl, trivial⟩ ?_
    clear hL
    rintro q w f ⟨⟨hq, hdone⟩, hL⟩
    conv => whnf
    repeat ((first | refine zT ?_ | refine zF ?_ | refine zL hX hL ?_ | refine zB hX hL ?_ | (refine zS hX hL ?_; clear hL; intro w hL) | refine zI ?_ | refine zG hX ?_ | refine zO ?_); conv => whnf)
    refine BrReq.dec (fun hlt2 => ?_) (fun hlt2 => ?_)
    · have hq' : q < (looksL rs ls).length := by simp only at hlt2; omega
      obtain ⟨a, cs', rfl, hl9, hcells, hrep⟩ := hel q _ (List.getElem?_eq_getElem hq')
      obtain ⟨k1, u0, u1, u2, u3, A1, n1, c1, lo1, hi1, neg1, rfl⟩ := hrep.form
      conv => whnf
      repeat ((first | refine zT ?_ | refine zF ?_ | refine zL hX hL ?_ | refine zB hX hL ?_ | (refine zS hX hL ?_; clear hL; intro w hL) | refine zI ?_ | refine zG hX ?_ | refine zO ?_); conv => whnf)
      refine DrawReq.plan hX (.fst 0 (.fst 1 (.fst 2 (.fst 3 (.fst 4 (.alt 5 (.alt 6 (.done) (.stop)) (.stop))))))) _ (by kernel_rfl) (by kernel_rfl) hL id ?_
      clear hL
      intro w hL
      conv => whnf
      repeat ((first | (refine Idx2Req.mk q a rfl (by simp only at hlt2 ⊢; omega) rfl ?_) | refine QLdReq.agg hX rfl rfl hl9 hcells ?_ | refine zQ hX ?_ | refine zR hX ?_ | refine zA ?_ | refine zT ?_ | refine zF ?_ | refine zL hX hL ?_ | refine zB hX hL ?_ | (refine zS hX hL ?_; clear hL; intro w hL) | refine zI ?_ | refine zG hX ?_ | refine zO ?_); conv => whnf)
      refine CallReq.val (refBare_fn m1 kd s0 s1 s2 s3 lo hi neg A n c) hL ?_
      clear hL
      intro w hL
      conv => whnf
      repeat ((first | refine SReq.mk hL ?_ | refine zQ hX ?_ | refine zR hX ?_ | refine zA ?_ | refine zT ?_ | refine zF ?_ | refine zL hX hL ?_ | refine zB hX hL ?_ | (refine zS hX hL ?_; clear hL; intro w hL) | refine zI ?_ | refine zG hX ?_ | refine zO ?_); conv => whnf)
      refine CallReq.val (refSame_fn 41 m1 _ _ _ _ hrep (bare_rep hr1) (by omega)) hL ?_
      clear hL
      intro w hL
      conv => whnf
      repeat ((first | refine SReq.mk hL ?_ | refine zQ hX ?_ | refine zR hX ?_ | refine zA ?_ | refine zT ?_ | refine zF ?_ | refine zL hX hL ?_ | refine zB hX hL ?_ | (refine zS hX hL ?_; clear hL; intro w hL) | refine zI ?_ | refine zG hX ?_ | refine zO ?_); conv => whnf)
      refine BrReq.bool (fun g => ?_) (fun g => ?_)
      · have e : looksR (.mk kd s0 s1 s2 s3 rs lo hi neg) ls = looksL rs ls := by
          simp only [looksR]; rw [if_neg k8, if_pos]
          exact List.any_eq_true.2 ⟨_, List.getElem_mem hq', g⟩
        conv => whnf
        repeat ((first | refine zT ?_ | refine zF ?_ | refine zL hX hL ?_ | refine zB hX hL ?_ | (refine zS hX hL ?_; clear hL; intro w hL) | refine zI ?_ | refine zG hX ?_ | refine zO ?_); conv => whnf)
        exact RetReq.mk hL.drop ⟨rfl, by rw [e]; exact hsl⟩
      · have hd : ∀ (i : Nat) (x : Re), i < q + 1 → (looksL rs ls)[i]? = some x → sameR 41 x (bareR (.mk kd s0 s1 s2 s3 rs lo hi neg)) = false := by
          intro i x hi hx
          by_cases e : i = q
          · subst e
            rw [List.getElem?_eq_getElem hq'] at hx
            cases hx; exact g
          · exact hdone i x (by omega) hx
        conv => whnf
        repeat ((first | refine zT ?_ | refine zF ?_ | refine zL hX hL ?_ | refine zB hX hL ?_ | (refine zS hX hL ?_; clear hL; intro w hL) | refine zI ?_ | refine zG hX ?_ | refine zO ?_); conv => whnf)
        refine ⟨q + 1, ⟨⟨by simp only at hlt2; omega, hd⟩, hL⟩, by first | omega | (simp only; omega), ?_, ?_⟩
        · repeat (first | exact trivial | (refine And.intro (by (conv => lhs; whnf) <;> (conv => rhs; whnf) <;> (first | rfl)) ?_))
        · repeat (first | exact trivial | (refine And.intro (by (conv => lhs; whnf) <;> (conv => rhs; whnf) <;> (first | rfl)) ?_))
    have e : looksR (.mk kd s0 s1 s2 s3 rs lo hi neg) ls = looksL rs ls ++ [bareR (.mk kd s0 s1 s2 s3 rs lo hi neg)] := by
      simp only [looksR]; rw [if_neg k8, if_neg]
      intro hc
      obtain ⟨x, hx, hxs⟩ := List.any_eq_true.1 hc
      obtain ⟨i, hi, rfl⟩ := List.getElem_of_mem hx
      rw [hdone i _ (by simp only at hlt2; omega) (List.getElem?_eq_getElem hi)] at hxs
      cases hxs
    conv => whnf
    repeat ((first | refine zT ?_ | refine zF ?_ | refine zL hX hL ?_ | refine zB hX hL ?_ | (refine zS hX hL ?_; clear hL; intro w hL) | refine zI ?_ | refine zG hX ?_ | refine zO ?_); conv => whnf)
    refine DrawReq.plan hX (.fst 1 (.fst 3 (.alt 0 (.alt 2 (.alt 4 (.alt 5 (.alt 6 (.fst 7 (.done)) (.stop)) (.stop)) (.stop)) (.stop)) (.stop)))) [(b3, .cells (toArr (reC kd s0 s1 s2 s3 (.slice A n c) lo hi neg)) 53 (0, 0))] (by kernel_rfl) (by kernel_rfl) hL id ?_
    clear hL
    intro w hL
    conv => whnf
    repeat ((first | refine zQ hX ?_ | refine zR hX ?_ | refine zA ?_ | refine zT ?_ | refine zF ?_ | refine zL hX hL ?_ | refine zB hX hL ?_ | (refine zS hX hL ?_; clear hL; intro w hL) | refine zI ?_ | refine zG hX ?_ | refine zO ?_); conv => whnf)
    obtain ⟨rows, g1, g2, g3, g4⟩ := sl_rows (by omega) hsl
    have hone : ∀ u ∈ rows.flatten, u.oneCell' = true := by
      intro u hu
      obtain ⟨r, hr, hur⟩ := List.mem_flatten.1 hu
      obtain ⟨i, hi, rfl⟩ := List.getElem_of_mem hr
      obtain ⟨cs, e1, e2⟩ := g3 i _ (List.getElem?_eq_getElem (by omega))
      rw [List.getElem?_eq_getElem hi] at e1; cases e1
      exact rep_one e2 u hur
    have hflen := flat_len rows g2
    refine NewReq.mk hL ?_
    clear hL
    intro b39 w hL
    replace hL : Ev.Loc m [] w0 m1 ([(b39, .cells (toArr []) 53 (0, 0))] ++ [(b3, .cells (toArr (reC kd s0 s1 s2 s3 (.slice A n c) lo hi neg)) 53 (0, 0))]) w := hL
    conv => whnf
    repeat ((first | refine SReq.mk (hL.one 1 rfl) ?_ | refine zQ hX ?_ | refine zR hX ?_ | refine zA ?_ | refine zT ?_ | refine zF ?_ | refine zL hX hL ?_ | refine zB hX hL ?_ | (refine zS hX hL ?_; clear hL; intro w hL) | refine zI ?_ | refine zG hX ?_ | refine zO ?_); conv => whnf)
    refine RunReq.append hX 51 53 rfl rfl rfl rfl rfl (L1 := [_]) (OwnS.full (n := 0) (cur := []) (Nat.zero_le _) rfl) hL (news := rows.flatten) (by rw [hflen, g1, hn0]) (fun j u hu => ?_) hone (by rw [hflen]; simp; omega) rfl ?_
    · obtain ⟨a, e1, e2⟩ := g4 j u hu
      exact ⟨a, e1, hL.cell e2⟩
    clear hL
    intro A6 n6 c6 L6 w hn6 ho6 hL
    rw [List.nil_append] at ho6
    replace hL := hL.back
    replace hL : Ev.Loc m [] w0 m1 ((b3, .cells (toArr (reC kd s0 s1 s2 s3 (.slice A n c) lo hi neg)) 53 (0, 0)) :: L6) w := hL
    conv => whnf
    repeat ((first | refine SReq.mk (hL.one 0 rfl) ?_ | refine zQ hX ?_ | refine zR hX ?_ | refine zA ?_ | refine zT ?_ | refine zF ?_ | refine zL hX hL ?_ | refine zB hX hL ?_ | (refine zS hX hL ?_; clear hL; intro w hL) | refine zI ?_ | refine zG hX ?_ | refine zO ?_); conv => whnf)
    refine CallReq.val (refBare_fn m1 kd s0 s1 s2 s3 lo hi neg A n c) hL ?_
    clear hL
    intro w hL
    conv => whnf
    repeat ((first | refine SReq.mk (hL.one 0 rfl) ?_ | refine zQ hX ?_ | refine zR hX ?_ | refine zA ?_ | refine zT ?_ | refine zF ?_ | refine zL hX hL ?_ | refine zB hX hL ?_ | (refine zS hX hL ?_; clear hL; intro w hL) | refine zI ?_ | refine zG hX ?_ | refine zO ?_); conv => whnf)
    refine NewReq.mk hL ?_
    clear hL
    intro b44 w hL
    replace hL : Ev.Loc m [] w0 m1 ([(b44, .cells (toArr (reC kd s0 s1 s2 s3 (.slice A n c) lo hi false)) 53 (0, 0)), (b3, .cells (toArr (reC kd s0 s1 s2 s3 (.slice A n c) lo hi neg)) 53 (0, 0))] ++ L6) w := hL
    conv => whnf
    repeat ((first | refine SReq.mk (hL.one 1 rfl) ?_ | refine zQ hX ?_ | refine zR hX ?_ | refine zA ?_ | refine zT ?_ | refine zF ?_ | refine zL hX hL ?_ | refine zB hX hL ?_ | (refine zS hX hL ?_; clear hL; intro w hL) | refine zI ?_ | refine zG hX ?_ | refine zO ?_); conv => whnf)
    refine RunReq.append hX 51 53 rfl rfl rfl rfl rfl ho6 hL.back (k := 1) (news := reC kd s0 s1 s2 s3 (.slice A n c) lo hi false) rfl (hL.src 0 rfl) (rep_one (bare_rep hr1)) (by rw [hflen]; simp [reC]; omega) rfl ?_
    clear hL
    intro A7 n7 c7 L7 w hn7 ho7 hL
    replace hL := hL.back
    have ef : rows.flatten ++ reC kd s0 s1 s2 s3 (.slice A n c) lo hi false = (rows ++ [reC kd s0 s1 s2 s3 (.slice A n c) lo hi false]).flatten := by
      rw [List.flatten_append, List.flatten_cons, List.flatten_nil, List.append_nil]
    rw [ef] at ho7
    have hrows' : ∀ r ∈ rows ++ [reC kd s0 s1 s2 s3 (.slice A n c) lo hi false], r.length = 9 := by
      intro r hr
      rcases List.mem_append.1 hr with hr | hr
      · exact g2 r hr
      · rw [List.mem_singleton] at hr; subst hr; rfl
    have hR : ∀ (i : Nat) (x : Re), (looksL rs ls ++ [bareR (.mk kd s0 s1 s2 s3 rs lo hi neg)])[i]? = some x → ∃ cs, (rows ++ [reC kd s0 s1 s2 s3 (.slice A n c) lo hi false])[i]? = some cs ∧ RepRe m1 cs x := by
      intro i x hx
      by_cases hi : i < rows.length
      · rw [List.getElem?_append_left (by omega)] at hx
        obtain ⟨cs, e1, e2⟩ := g3 i x hx
        exact ⟨cs, by rw [List.getElem?_append_left hi]; exact e1, e2⟩
      · rw [List.getElem?_append_right (by omega)] at hx
        have hi0 : i - (looksL rs ls).length = 0 := by have := (List.getElem?_eq_some_iff.1 hx).1; simp at this; omega
        rw [hi0] at hx
        simp only [List.getElem?_cons_zero, Option.some.injEq] at hx
        subst hx
        refine ⟨_, ?_, bare_rep hr1⟩
        rw [List.getElem?_append_right (by omega), show i - rows.length = 0 by omega]; rfl
    have hL1 := hL
    conv => whnf
    repeat ((first | refine SReq.mk (hL.one 1 rfl) ?_ | refine zQ hX ?_ | refine zR hX ?_ | refine zA ?_ | refine zT ?_ | refine zF ?_ | refine zL hX hL ?_ | refine zB hX hL ?_ | (refine zS hX hL ?_; clear hL; intro w hL) | refine zI ?_ | refine zG hX ?_ | refine zO ?_); conv => whnf)
    obtain ⟨m2, A', c', ev, hL, hle, hsl2, -⟩ := OwnS.freezeRows (size := 9) (l := looksL rs ls ++ [bareR (.mk kd s0 s1 s2 s3 rs lo hi neg)]) (L2 := [_, _]) (by omega) ho7 (Ev.Loc.back (L1 := [_, _]) hL) hrows' (by simp; omega) hR
    exact RetReq.mk (hL.sublist (List.nil_sublist _)) ⟨rfl, by rw [e]; exact hsl2.le (Mem.Le.refl m2) fun cs x _ hx => hx.le hle⟩
end Go.Proofs.Ytblpobeokfkggaa.looks
