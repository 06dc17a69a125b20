/- Looks: made out of patterns; is one late; what the document says. Conditions: none. -/
import Derived.Test.YtpdiljdklllmjaaGreatLooksGather

namespace Go.Proofs.YtpdiljdklllmjaaGreat.looks
open Go Go.Ev Go.Proofs Go.Proofs.YtpdiljdklllmjaaGreat.tree

/-- What is made. -/
def makeR (l : List Re) : Int × List Re := if l.any (fun r => !formedR r) = true then (1, []) else if 4 < (looksL l []).length then (10, []) else (0, looksL l [])

theorem make1_fn (m : Mem) (p : Re) (cs : List Value) (h : RepRe m cs p) : FnV Tryz.prog 21 ([.agg (toArr cs)] ++ []) m (.bool (!formedR p)) := by
  obtain ⟨k1, u0, u1, u2, u3, A1, n1, c1, lo1, hi1, neg1, rfl⟩ := h.form
  refine Fn.enter (N := 6) hX Tryz.func21 rfl rfl (by show _ ≤ _; simp) (fun w0 hL => ?_)
  conv => whnf
  refine NewReq.mk hL ?_
  clear hL
  intro b1 w hL
  conv => whnf
  conv => whnf
  repeat ((first | refine zT ?_ | refine zF ?_ | refine zL hX hL ?_ | refine zB hX hL ?_ | (refine zS hX hL ?_; clear hL; intro w hL) | refine zI ?_ | refine zG hX ?_ | refine zO ?_); conv => whnf)
  refine CallReq.val (Formed_fn m p _ h) hL ?_
  clear hL
  intro w hL
  conv => whnf
  repeat ((first | refine zT ?_ | refine zF ?_ | refine zL hX hL ?_ | refine zB hX hL ?_ | (refine zS hX hL ?_; clear hL; intro w hL) | refine zI ?_ | refine zG hX ?_ | refine zO ?_); conv => whnf)
  exact RetReq.bool hL.drop rfl

theorem formed_deep {r : Re} (h : formedR r = true) : deepR 40 r ≤ 40 := by
  unfold formedR at h
  simp only [Bool.and_eq_true, decide_eq_true_eq] at h
  exact h.1.1

set_option maxHeartbeats 1000000 in
theorem Make_fn (m : Mem) (v : Value) (l : List Re) (hs : Sl m 9 (RepRe m) v l) (hsm : ∀ r ∈ l, Small r) (hnb : nodesL l ≤ 1000000) :
    Fn0 Tryz.prog 8 [v] m fun m' u => ∃ A n c, u = .tuple (toArr [.agg (toArr [.slice A n c]), .int .i64 (makeR l).1]) ∧ Sl m' 9 (RepRe m') (.slice A n c) (makeR l).2 := by
  have hs' := hs
  obtain ⟨A, n, c, rfl, hn, hc, hm, -⟩ := hs
  have he := hs'.elem
  have hmx : maxLen = 9223372036854775807 := rfl
  refine Fn.enter (N := 25) hX Tryz.func8 rfl rfl (by show _ ≤ _; simp) (fun w0 hL => ?_)
  conv => whnf
  refine NewReq.mk hL ?_
  clear hL
  intro b2 w hL
  conv => whnf
  conv => whnf
  repeat ((first | refine zT ?_ | refine zF ?_ | refine zL hX hL ?_ | refine zB hX hL ?_ | (refine zS hX hL ?_; clear hL; intro w hL) | refine zI ?_ | refine zG hX ?_ | refine zO ?_); conv => whnf)
  refine CallReq.val (containsMake_fn m _ l (fun r => !formedR r) hs' fun p _ cs h => make1_fn m p cs h) hL ?_
  clear hL
  intro w hL
  conv => whnf
  repeat ((first | refine zT ?_ | refine zF ?_ | refine zL hX hL ?_ | refine zB hX hL ?_ | (refine zS hX hL ?_; clear hL; intro w hL) | refine zI ?_ | refine zG hX ?_ | refine zO ?_); conv => whnf)
  refine BrReq.bool (fun hu => ?_) (fun hu => ?_)
  · have e : makeR l = (1, []) := by unfold makeR; rw [if_pos hu]
    conv => whnf
    repeat ((first | refine zT ?_ | refine zF ?_ | refine zL hX hL ?_ | refine zB hX hL ?_ | (refine zS hX hL ?_; clear hL; intro w hL) | refine zI ?_ | refine zG hX ?_ | refine zO ?_); conv => whnf)
    exact RetReq.mk hL.drop ⟨rfl, none, 0, 0, by rw [e]; rfl, by rw [e]; exact ⟨none, 0, 0, rfl, rfl, Nat.le_refl 0, Nat.zero_le _, fun i x hx => by simp at hx⟩⟩
  have hform : ∀ r ∈ l, formedR r = true := by
    intro r hr
    have := List.any_eq_false.1 hu r hr
    simpa using this
  conv => whnf
  repeat ((first | refine zT ?_ | refine zF ?_ | refine zL hX hL ?_ | refine zB hX hL ?_ | (refine zS hX hL ?_; clear hL; intro w hL) | refine zI ?_ | refine zG hX ?_ | refine zO ?_); conv => whnf)
  refine NewReq.mk hL ?_
  clear hL
  intro b4 w hL
  conv => whnf
  conv => whnf
  repeat ((first | refine zT ?_ | refine zF ?_ | refine zL hX hL ?_ | refine zB hX hL ?_ | (refine zS hX hL ?_; clear hL; intro w hL) | refine zI ?_ | refine zG hX ?_ | refine zO ?_); conv => whnf)
  refine LoopReq.inv hX (fun j : Nat => [(12, .int .i64 j)]) [2, 4, 10, 11]
    (fun j w => j ≤ n ∧ ∃ m1 L1, Mem.Le m m1 ∧ PlanOwn m1 b4 (looksL (l.take j) []) L1 ∧ Ev.Loc m [] w0 m1 ((b2, .cells (toArr [.slice none 0 0]) 34 (0, 0)) :: L1) w) (fun j => n - j) 0
    ⟨by omega, m, _, Mem.Le.refl m, ⟨none, 0, 0, [], [], rfl, OwnS.nil _ _, fun r hr => by simp at hr, rfl, rfl, fun i x hx => by simp [looksL] at hx⟩, hL.perm (List.Perm.swap _ _ _)⟩ ⟨rfl, trivial⟩ ?_
  clear hL
  rintro j w f ⟨hj, m1, L1, hm1, hp, hL⟩
  conv => whnf
  repeat ((first | refine zT ?_ | refine zF ?_ | refine zL hX hL ?_ | refine zB hX hL ?_ | (refine zS hX hL ?_; clear hL; intro w hL) | refine zI ?_ | refine zG hX ?_ | refine zO ?_); conv => whnf)
  refine BrReq.dec (fun hlt => ?_) (fun hlt => ?_)
  · have hlt' : j < l.length := by omega
    obtain ⟨a, cs', rfl, hl9, hcells, hrep⟩ := he j _ (List.getElem?_eq_getElem hlt')
    obtain ⟨k1, u0, u1, u2, u3, A1, n1, c1, lo1, hi1, neg1, rfl⟩ := hrep.form
    have hmem := List.getElem_mem hlt'
    have hln := looksL_len (l.take j) []
    have hnt := nodesL_take l j hlt'
    have hnl := nodesL_take_le l (j + 1)
    have htk := looksL_take l j hlt' []
    have hdj := looksL_deep (l.take j) [] (fun p hp => formed_deep (hform p (List.mem_of_mem_take hp))) (fun x hx => by simp at hx)
    simp only [List.length_nil, Nat.zero_add] at hln
    conv => whnf
    repeat ((first | refine Idx2Req.mk j a rfl (by omega) rfl ?_ | refine LdReq.agg hX rfl rfl hL hl9 (hcells.le hm1) ?_ | refine zT ?_ | refine zF ?_ | refine zL hX hL ?_ | refine zB hX hL ?_ | (refine zS hX hL ?_; clear hL; intro w hL) | refine zI ?_ | refine zG hX ?_ | refine zO ?_); conv => whnf)
    refine NewReq.mk hL ?_
    clear hL
    intro b6 w hL
    conv => whnf
    conv => whnf
    repeat ((first | refine zT ?_ | refine zF ?_ | refine zL hX hL ?_ | refine zB hX hL ?_ | (refine zS hX hL ?_; clear hL; intro w hL) | refine zI ?_ | refine zG hX ?_ | refine zO ?_); conv => whnf)
    refine CallReq.mk (L1 := L1) (gather_fn _ m1 _ b4 _ L1 (hrep.le hm1) (hsm _ hmem) (formed_deep (hform _ hmem)) hdj (by omega) hp) (Ev.Loc.back (L1 := [_, _]) hL) ?_
    clear hL
    rintro v m2 L2 w hL hm2 ⟨rfl, hp2⟩
    rw [← htk] at hp2
    replace hL := hL.back
    have hL : Ev.Loc m [] w0 m2 (_ :: _ :: L2) w := hL
    conv => whnf
    repeat ((first | refine zT ?_ | refine zF ?_ | refine zL hX hL ?_ | refine zB hX hL ?_ | (refine zS hX hL ?_; clear hL; intro w hL) | refine zI ?_ | refine zG hX ?_ | refine zO ?_); conv => whnf)
    refine ⟨j + 1, ⟨by omega, m2, L2, hm1.trans hm2, hp2, hL.drop⟩, by first | omega | (simp only; omega), ?_, ?_⟩
    · repeat (first | exact trivial | (refine And.intro (by (conv => lhs; whnf) <;> (conv => rhs; whnf) <;> (first | rfl)) ?_))
    · repeat (first | exact trivial | (refine And.intro (by (conv => lhs; whnf) <;> (conv => rhs; whnf) <;> (first | rfl)) ?_))
  have hjn : j = l.length := by omega
  rw [hjn, List.take_length] at hp
  obtain ⟨A0, n0, c0, rows, Lx, rfl, hown, hrows, hrl, hn0, hrl2⟩ := hp
  conv => whnf
  repeat ((first | refine zT ?_ | refine zF ?_ | refine zL hX hL ?_ | refine zB hX hL ?_ | (refine zS hX hL ?_; clear hL; intro w hL) | refine zI ?_ | refine zG hX ?_ | refine zO ?_); conv => whnf)
  refine BrReq.dec (fun h4 => ?_) (fun h4 => ?_)
  · have e : makeR l = (10, []) := by unfold makeR; rw [if_neg (by rw [hu]; simp), if_pos (by omega)]
    conv => whnf
    repeat ((first | refine zT ?_ | refine zF ?_ | refine zL hX hL ?_ | refine zB hX hL ?_ | (refine zS hX hL ?_; clear hL; intro w hL) | refine zI ?_ | refine zG hX ?_ | refine zO ?_); conv => whnf)
    exact RetReq.mk (hL.sublist (List.nil_sublist _)) ⟨rfl, none, 0, 0, by rw [e]; rfl, by rw [e]; exact ⟨none, 0, 0, rfl, rfl, Nat.le_refl 0, Nat.zero_le _, fun i x hx => by simp at hx⟩⟩
  · have e : makeR l = (0, looksL l []) := by unfold makeR; rw [if_neg (by rw [hu]; simp), if_neg (by omega)]
    conv => whnf
    repeat ((first | refine zT ?_ | refine zF ?_ | refine zL hX hL ?_ | refine zB hX hL ?_ | (refine zS hX hL ?_; clear hL; intro w hL) | refine zI ?_ | refine zG hX ?_ | refine zO ?_); conv => whnf)
    have hL : Ev.Loc m [] w0 m1 (_ :: _ :: Lx) w := hL
    obtain ⟨m2, A', c', ev, hL, hle, hsl, -⟩ := OwnS.freezeRows (size := 9) (l := looksL l []) (L2 := [_, _]) (by omega) hown (Ev.Loc.back (L1 := [_, _]) hL) hrows (by omega) hrl2
    cases ev
    exact RetReq.mk hL.drop.drop ⟨rfl, A0, _, c0, by rw [e]; rfl, by rw [e]; exact hsl.le (Mem.Le.refl m2) fun cs x _ hx => hx.le hle⟩

/-- Has one need of what is to come? -/
def lateR (l : List Re) : Bool := l.any fun r => decide (r.kind = 8) || decide (r.kind = 11)
theorem rep_kind {m : Mem} {cs : List Value} {x : Re} (h : RepRe m cs x) : cs[0]? = some (.int .i64 x.kind) := by cases h; rfl
theorem addr_add_add (a : Addr) (x y : Nat) : (a.add x).add y = a.add (x + y) := by
  unfold Addr.add
  by_cases hx : x = 0
  · subst hx; simp
  · by_cases hy : y = 0
    · subst hy; simp
    · rw [if_neg hx, if_neg hy, if_neg (by omega)]; simp [Nat.add_assoc]
theorem rep_one {m : Mem} {cs : List Value} {r : Re} (h : RepRe m cs r) : ∀ u ∈ cs, u.oneCell' = true := by
  obtain ⟨k1, u0, u1, u2, u3, A1, n1, c1, lo1, hi1, neg1, rfl⟩ := h.form
  intro u hu
  simp only [reC, List.mem_cons, List.not_mem_nil, or_false] at hu
  rcases hu with rfl | rfl | rfl | rfl | rfl | rfl | rfl | rfl | rfl <;> rfl

/-- The cells of a slice that is read. -/
theorem sl_rows {α : Type} {m : Mem} {size : Nat} {R : List Value → α → Prop} {A : Option Addr} {n c : Nat} {l : List α} (hz : 0 < size) (h : Sl m size R (.slice A n c) l) :
    ∃ rows : List (List Value), rows.length = l.length ∧ (∀ r ∈ rows, r.length = size) ∧ (∀ (i : Nat) (x : α), l[i]? = some x → ∃ cs, rows[i]? = some cs ∧ R cs x) ∧ ∀ (j : Nat) (u : Value), rows.flatten[j]? = some u → ∃ a, A = some a ∧ mcell m (a.add j) = some u := by
  have hel := h.elem
  obtain ⟨rows, h1, h2⟩ := list_of (Q := fun i (cs : List Value) => ∃ a, A = some a ∧ cs.length = size ∧ Cells m (a.add (scale i size)) cs ∧ ∀ x, l[i]? = some x → R cs x) l.length fun i hi => by
    obtain ⟨a, cs, e1, e2, e3, e4⟩ := hel i _ (List.getElem?_eq_getElem hi)
    exact ⟨cs, a, e1, e2, e3, fun x hx => by rw [List.getElem?_eq_getElem hi] at hx; cases hx; exact e4⟩
  have hs : ∀ r ∈ rows, r.length = size := fun r hr => by
    obtain ⟨i, hi, rfl⟩ := List.getElem_of_mem hr
    obtain ⟨a, _, e2, _⟩ := h2 i _ (List.getElem?_eq_getElem hi)
    exact e2
  refine ⟨rows, h1, hs, fun i x hx => ?_, fun j u hu => ?_⟩
  · have hi : i < rows.length := by rw [h1]; exact (List.getElem?_eq_some_iff.1 hx).1
    obtain ⟨a, _, _, _, e4⟩ := h2 i _ (List.getElem?_eq_getElem hi)
    exact ⟨_, List.getElem?_eq_getElem hi, e4 x hx⟩
  · have hj := (List.getElem?_eq_some_iff.1 hu).1
    rw [flat_len rows hs] at hj
    have hq : j / size < rows.length := (Nat.div_lt_iff_lt_mul hz).2 hj
    obtain ⟨a, e1, e2, e3, _⟩ := h2 (j / size) _ (List.getElem?_eq_getElem hq)
    have hmod := Nat.mod_lt j hz
    have hdm : j / size * size + j % size = j := by rw [Nat.mul_comm]; exact Nat.div_add_mod j size
    have hg := flat_get rows (j / size) (j % size) _ hs (List.getElem?_eq_getElem hq) hmod
    rw [hdm, hu] at hg
    have := e3 (j % size) u hg.symm
    refine ⟨a, e1, ?_⟩
    have e : (a.add (scale (j / size) size)).add (j % size) = a.add j := by
      rw [scale_eq, addr_add_add, hdm]
    rw [← e]; exact this

end Go.Proofs.YtpdiljdklllmjaaGreat.looks
