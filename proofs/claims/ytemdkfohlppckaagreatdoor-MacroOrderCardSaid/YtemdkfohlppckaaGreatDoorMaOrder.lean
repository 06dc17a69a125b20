/- MacroOrder, walked. Conditions: the laid variables are what they are. -/
import Derived.Test.YtemdkfohlppckaaGreatDoorMaLaw

namespace Go.Proofs.YtemdkfohlppckaaGreatDoor.ma
open Go Go.Ev Go.Proofs Go.Proofs.YtemdkfohlppckaaGreatDoor.lx Go.Proofs.YtemdkfohlppckaaGreatDoor.tree Go.Proofs.YtemdkfohlppckaaGreatDoor.pa

/-! ### the plain law -/
def rotM (l : Ms) (k : Nat) : Ms := l.drop k ++ l.take k
def rotS (n k i : Nat) : Nat := if i < k then i + n - k else i - k
def rotT (n k j : Nat) : Nat := if j < n - k then j + k else j + k - n
theorem rot_turn (l : Ms) {k : Nat} (hk : k < l.length) : Turn l (rotM l k) (rotS l.length k) (rotT l.length k) := by
  refine ⟨by simp [rotM]; omega, fun i hi => ?_, fun i hi => ?_, fun i hi => ?_, fun i hi => ?_, fun i hi => ?_⟩
  · unfold rotS; split <;> omega
  · unfold rotT; split <;> omega
  · unfold rotS rotT; split <;> split <;> omega
  · unfold rotS rotT; split <;> split <;> omega
  · unfold rotS rotM
    by_cases h : i < k
    · rw [if_pos h, List.getElem?_append_right (by rw [List.length_drop]; omega), List.length_drop, List.getElem?_take_of_lt (by omega)]
      congr 1; omega
    · rw [if_neg h, List.getElem?_append_left (by rw [List.length_drop]; omega), List.getElem?_drop]
      congr 1; omega
def Good (l : Ms) : Prop := Right l ∧ ∀ i, i < l.length → ∃ r, Means l i r
theorem Good.early {l : Ms} (h : Good l) : (earlyM l).2.2 = 0 := earlyM_zero.2 ⟨h.1, fun i hi => by obtain ⟨r, hr⟩ := h.2 i hi; exact means_acyclic hr⟩
theorem exp_good {l : Ms} {m' : Mem} {dv : Value} {e : E3} (h : ExpR l m' dv e) : e.2.2 = 0 ↔ Good l := by
  rcases h with ⟨h1, -, rfl⟩ | ⟨h1, rfl, f, -, hms⟩ | ⟨-, -, hb⟩
  · exact ⟨fun h => absurd h h1, fun h => absurd h.early h1⟩
  · exact ⟨fun _ => ⟨(earlyM_zero.1 h1).1, fun i hi => ⟨f i, hms i hi⟩⟩, fun _ => rfl⟩
  · refine ⟨fun h => ?_, fun h => ?_⟩
    · have := hb.1; omega
    · obtain ⟨i, hi, hn⟩ := hb.2.2
      exact absurd (h.2 i hi) hn
theorem Good.turn {l l' : Ms} {σ τ : Nat → Nat} (ht : Turn l l' σ τ) (h : Good l) : Good l' := by
  refine ⟨ht.right h.1, fun i hi => ?_⟩
  rw [ht.len] at hi
  obtain ⟨r, hr⟩ := h.2 (τ i) (ht.gt i hi)
  have := ht.means h.1.dist hr (ht.gt i hi)
  rw [ht.st i hi] at this
  exact ⟨r, this⟩
theorem good_turn {l l' : Ms} {σ τ : Nat → Nat} (ht : Turn l l' σ τ) : Good l ↔ Good l' := ⟨Good.turn ht, Good.turn ht.symm⟩
theorem few_rot {l : Ms} {k : Nat} (h : FewM l) (hk : k < l.length) : FewM (rotM l k) := by
  refine ⟨by rw [(rot_turn l hk).len]; exact h.1, fun x hx => h.2 x ?_⟩
  unfold rotM at hx
  rcases List.mem_append.1 hx with hx | hx
  · exact List.mem_of_mem_drop hx
  · exact List.mem_of_mem_take hx

/-! ### rows -/
def mC (x : List UInt8 × List UInt8) : List Value := [.string (bs x.1), .string (bs x.2)]
theorem mC_len (l : Ms) : ∀ r ∈ l.map mC, r.length = 2 := by
  intro r hr; obtain ⟨x, -, rfl⟩ := List.mem_map.1 hr; rfl
theorem mC_flat (l : Ms) : (l.map mC).flatten.length = l.length * 2 := by rw [flat_len (size := 2) _ (mC_len l), List.length_map]
theorem mC_one (l : Ms) : ∀ u ∈ (l.map mC).flatten, u.oneCell' = true := by
  intro u hu
  obtain ⟨r, hr, hu⟩ := List.mem_flatten.1 hu
  obtain ⟨x, -, rfl⟩ := List.mem_map.1 hr
  simp only [mC, List.mem_cons, List.not_mem_nil, or_false] at hu
  rcases hu with rfl | rfl <;> rfl
theorem mac_cells {m : Mem} {A : Option Addr} {n c : Nat} {l : Ms} (h : Sl m 2 isMac (.slice A n c) l) : ∀ (j : Nat) (u : Value), (l.map mC).flatten[j]? = some u → ∃ a, A = some a ∧ mcell m (a.add j) = some u := by
  intro j u hu
  have hj := (List.getElem?_eq_some_iff.1 hu).1
  rw [mC_flat] at hj
  have hq : j / 2 < l.length := by omega
  obtain ⟨a, cs, ea, -, hcl, hx⟩ := h.elem _ _ (List.getElem?_eq_getElem hq)
  have hg := flat_get (l.map mC) (j / 2) (j % 2) (mC l[j / 2]) (mC_len l) (by rw [List.getElem?_map, List.getElem?_eq_getElem hq]; rfl) (by omega)
  rw [show j / 2 * 2 + j % 2 = j by omega, hu] at hg
  unfold isMac at hx
  subst hx
  have := hcl (j % 2) u hg.symm
  rw [scale_eq, Addr.add_add, show j / 2 * 2 + j % 2 = j by omega] at this
  exact ⟨a, ea, this⟩
theorem rem_nat {a b : Nat} {K : Int → Prop} (hb : 0 < b) (h : K ((a % b : Nat) : Int)) : RemReq (a : Int) (b : Int) K :=
  RemReq.mk (n := ((a % b : Nat) : Int)) (by omega) (by rw [Int.tmod_eq_emod_of_nonneg (by omega)]; omega) h

set_option maxHeartbeats 4000000 in
theorem order_fn (m : Mem) (hQ : LibMem m) (l : Ms) (v : Value) (tz : Int) (htz : 0 ≤ tz ∧ tz ≤ 255) (hv : Sl m 2 isMac v l) (hb : ∀ x ∈ l, x.1.length ≤ 281474976710656 ∧ x.2.length ≤ 281474976710656) : FnV Tryz.prog 4 [v, .int .u8 tz] m (.bool true) := by
  have hmx : maxLen = 9223372036854775807 := rfl
  have hv' := hv
  obtain ⟨A, n, c, rfl, hnl, hcc, hm, -⟩ := id hv
  subst hnl
  obtain ⟨t, rfl⟩ : ∃ t : Nat, tz = (t : Int) := ⟨tz.toNat, by omega⟩
  refine Fn.enter (N := 105) hX Tryz.func4 rfl rfl (by show _ ≤ _; simp) (fun w0 hL => ?_)
  conv => whnf
  conv => whnf
  repeat ((first | refine zT ?_ | refine zF ?_ | refine zL hX hL ?_ | refine zB hX hL ?_ | (refine zS hX hL ?_; clear hL; intro w hL) | refine zI ?_ | refine zG hX ?_ | refine zO ?_); conv => whnf)
  refine CallReq.val (awake_fn m hQ) hL ?_
  clear hL
  intro w hL
  conv => whnf
  repeat ((first | refine zT ?_ | refine zF ?_ | refine zL hX hL ?_ | refine zB hX hL ?_ | (refine zS hX hL ?_; clear hL; intro w hL) | refine zI ?_ | refine zG hX ?_ | refine zO ?_); conv => whnf)
  refine CallReq.pure (Few_fn m l _ hv' hb) hL ?_
  clear hL
  rintro u m1 w hL hm1 ⟨fb, rfl, hfew⟩
  cases fb with
  | false =>
    conv => whnf
    repeat ((first | refine zT ?_ | refine zF ?_ | refine zL hX hL ?_ | refine zB hX hL ?_ | (refine zS hX hL ?_; clear hL; intro w hL) | refine zI ?_ | refine zG hX ?_ | refine zO ?_); conv => whnf)
    refine CallReq.val (awake_fn m1 (libLe' hm1 hQ)) hL ?_
    clear hL
    intro w hL
    conv => whnf
    repeat ((first | refine zT ?_ | refine zF ?_ | refine zL hX hL ?_ | refine zB hX hL ?_ | (refine zS hX hL ?_; clear hL; intro w hL) | refine zI ?_ | refine zG hX ?_ | refine zO ?_); conv => whnf)
    exact RetReq.bool hL rfl
  | true =>
  have hF := hfew rfl
  have h25 := hF.1
  by_cases hl0 : l.length = 0
  · conv => whnf
    repeat ((first | refine BrReq.yes (by omega) ?_ | refine zT ?_ | refine zF ?_ | refine zL hX hL ?_ | refine zB hX hL ?_ | (refine zS hX hL ?_; clear hL; intro w hL) | refine zI ?_ | refine zG hX ?_ | refine zO ?_); conv => whnf)
    refine CallReq.val (awake_fn m1 (libLe' hm1 hQ)) hL ?_
    clear hL
    intro w hL
    conv => whnf
    repeat ((first | refine zT ?_ | refine zF ?_ | refine zL hX hL ?_ | refine zB hX hL ?_ | (refine zS hX hL ?_; clear hL; intro w hL) | refine zI ?_ | refine zG hX ?_ | refine zO ?_); conv => whnf)
    exact RetReq.bool hL rfl
  have hk : t % l.length < l.length := Nat.mod_lt _ (by omega)
  conv => whnf
  repeat ((first | refine BrReq.no (by omega) ?_ | refine rem_nat (by omega) ?_ | refine zT ?_ | refine zF ?_ | refine zL hX hL ?_ | refine zB hX hL ?_ | (refine zS hX hL ?_; clear hL; intro w hL) | refine zI ?_ | refine zG hX ?_ | refine zO ?_); conv => whnf)
  generalize t % l.length = k at *
  refine CallReq.pure (Expand_fn m1 (libLe' hm1 hQ) l _ (hv'.le' hm1) (fun x hx => by have := hF.2 x hx; omega) (by omega)) hL ?_
  clear hL
  rintro u m2 w hL hm12 ⟨dv, a, p, x, rfl, hR⟩
  have hm2 := hm1.trans hm12
  have hdv : ∀ {l : Ms} {m2 : Mem} {dv : Value} {e : E3}, ExpR l m2 dv e → ∃ Ad nd cd, dv = .slice Ad nd cd := by
    rintro l m2 dv e (⟨-, h, -⟩ | ⟨-, -, f, h, -⟩ | ⟨-, h, -⟩)
    · exact ⟨_, _, _, h⟩
    · obtain ⟨Ad, nd, cd, h, -⟩ := h; exact ⟨_, _, _, h⟩
    · exact ⟨_, _, _, h⟩
  obtain ⟨Ad, nd, cd, rfl⟩ := hdv hR
  have hs1 := Sl.sub (hv'.le' hm2) (lo := k) (hi := l.length) (by omega) (Nat.le_refl _)
  have hs2 := Sl.sub (hv'.le' hm2) (lo := 0) (hi := k) (Nat.zero_le _) (by omega)
  rw [List.take_length] at hs1
  rw [List.drop_zero] at hs2
  have hc1 := mac_cells hs1
  have hc2 := mac_cells hs2
  have hl1 := mC_flat (l.drop k)
  have hl2 := mC_flat (l.take k)
  rw [List.length_drop] at hl1
  rw [List.length_take, Nat.min_eq_left (by omega)] at hl2
  conv => whnf
  repeat ((first | refine zT ?_ | refine zF ?_ | refine zL hX hL ?_ | refine zB hX hL ?_ | (refine zS hX hL ?_; clear hL; intro w hL) | refine zI ?_ | refine zG hX ?_ | refine zO ?_); conv => whnf)
  refine DrawReq.plan hX (.fst 1 (.fst 2 (.fst 3 (.fst 5 (.fst 6 (.fst 7 (.alt 0 (.alt 4 (.alt 8 (.alt 9 (.fst 10 (.fst 11 (.fst 12 (.fst 13 (.fst 14 (.fst 15 (.fst 16 (.fst 17 (.fst 18 (.done)))))))))) (.stop)) (.stop)) (.stop)) (.stop)))))))) [] (by kernel_rfl) (by kernel_rfl) hL (fun h => h.sublist (List.nil_sublist _)) ?_
  clear hL
  intro w hL
  conv => whnf
  repeat ((first | refine SlReq.mk k l.length rfl rfl (by omega) (by omega) ?_ | refine SlReq.mk 0 k rfl rfl (by omega) (by omega) ?_ | refine zQ hX ?_ | refine zR hX ?_ | refine zA ?_ | refine zT ?_ | refine zF ?_ | refine zL hX hL ?_ | refine zB hX hL ?_ | (refine zS hX hL ?_; clear hL; intro w hL) | refine zI ?_ | refine zG hX ?_ | refine zO ?_); conv => whnf)
  refine NewReq.mk hL ?_
  clear hL
  intro b42 w hL
  conv => whnf
  refine SReq.mk (hL.sublist (List.nil_sublist _)) ?_
  conv => whnf
  repeat ((first | refine zQ hX ?_ | refine zR hX ?_ | refine zA ?_ | refine zT ?_ | refine zF ?_ | refine zL hX hL ?_ | refine zB hX hL ?_ | (refine zS hX hL ?_; clear hL; intro w hL) | refine zI ?_ | refine zG hX ?_ | refine zO ?_); conv => whnf)
  replace hL : Ev.Loc m [] w0 m2 ([(b42, .cells (toArr []) 40 (0, 0))] ++ []) w := hL
  refine RunReq.append hX 22 40 rfl rfl rfl rfl rfl (OwnS.full (n := 0) (cur := []) (Nat.zero_le _) rfl) hL (news := ((l.drop k).map mC).flatten) hl1 (fun q u hq => by obtain ⟨z, e, hz⟩ := hc1 q u hq; exact ⟨z, e, hL.cell hz⟩) (mC_one _) (by rw [hl1, List.length_nil]; omega) rfl ?_
  clear hL
  intro A1 n1 c1 L1 w hn1 ho1 hL
  refine SReq.mk (hL.sublist (List.nil_sublist _)) ?_
  conv => whnf
  repeat ((first | refine zQ hX ?_ | refine zR hX ?_ | refine zA ?_ | refine zT ?_ | refine zF ?_ | refine zL hX hL ?_ | refine zB hX hL ?_ | (refine zS hX hL ?_; clear hL; intro w hL) | refine zI ?_ | refine zG hX ?_ | refine zO ?_); conv => whnf)
  refine RunReq.append hX 22 40 rfl rfl rfl rfl rfl ho1 hL (news := ((l.take k).map mC).flatten) hl2 (fun q u hq => by obtain ⟨z, e, hz⟩ := hc2 q u hq; exact ⟨z, e, hL.cell hz⟩) (mC_one _) (by rw [List.length_append, hl1, hl2, List.length_nil]; omega) rfl ?_
  clear hL
  intro A2 n2 c2 L2 w hn2 ho2 hL
  refine SReq.mk (hL.sublist (List.nil_sublist _)) ?_
  have ho3 : OwnS 40 2 (.slice A2 n2 c2) ((rotM l k).map mC).flatten L2 := by
    unfold rotM; rw [List.map_append, List.flatten_append]; simpa using ho2
  have hFr := few_rot hF hk
  obtain ⟨m3, A3, c3, e3, hL3, hm23, hsl3, -⟩ := OwnS.freezeRows (R := isMac) (l := rotM l k) (L2 := []) (by omega) ho3 hL (mC_len _) (by simp) (fun q y hq => ⟨mC y, by rw [List.getElem?_map, hq]; rfl, rfl⟩)
  have hm3 := hm2.trans hm23
  clear hL
  have hL := hL3
  clear hL3
  conv => whnf
  repeat ((first | refine zQ hX ?_ | refine zR hX ?_ | refine zA ?_ | refine zT ?_ | refine zF ?_ | refine zL hX hL ?_ | refine zB hX hL ?_ | (refine zS hX hL ?_; clear hL; intro w hL) | refine zI ?_ | refine zG hX ?_ | refine zO ?_); conv => whnf)
  refine CallReq.pure (Expand_fn m3 (libLe' hm3 hQ) (rotM l k) _ hsl3 (fun x hx => by have := hFr.2 x hx; omega) (by have := hFr.1; omega)) hL ?_
  clear hL
  rintro u m4 w hL hm34 ⟨dv', a', p', x', rfl, hR'⟩
  have hm24 := hm23.trans hm34
  have hm4 := hm2.trans hm24
  obtain ⟨Ad', nd', cd', rfl⟩ := hdv hR'
  refine SReq.mk (hL.weaken hm24 hm2) ?_
  have hturn := rot_turn l hk
  have hg1 : x = 0 ↔ Good l := exp_good hR
  have hg2 : x' = 0 ↔ Good (rotM l k) := exp_good hR'
  have hgt := good_turn hturn
  conv => whnf
  repeat ((first | refine zQ hX ?_ | refine zR hX ?_ | refine zA ?_ | refine zT ?_ | refine zF ?_ | refine zL hX hL ?_ | refine zB hX hL ?_ | (refine zS hX hL ?_; clear hL; intro w hL) | refine zI ?_ | refine zG hX ?_ | refine zO ?_); conv => whnf)
  by_cases hx : x = 0
  rotate_left
  · have hx' : ¬ x' = 0 := fun h => hx (hg1.2 (hgt.2 (hg2.1 h)))
    conv => whnf
    repeat ((first | refine BrReq.yes (fun h => hx h) ?_ | refine BrReq.yes (fun h => hx' h) ?_ | refine zT ?_ | refine zF ?_ | refine zL hX hL ?_ | refine zB hX hL ?_ | (refine zS hX hL ?_; clear hL; intro w hL) | refine zI ?_ | refine zG hX ?_ | refine zO ?_); conv => whnf)
    exact RetReq.bool hL (decide_eq_true hx')
  have hx' : x' = 0 := hg2.2 (hgt.1 (hg1.1 hx))
  have hmid : ∀ {l : Ms} {m2 : Mem} {dv : Value} {a p x : Int}, ExpR l m2 dv (a, p, x) → x = 0 → (earlyM l).2.2 = 0 ∧ ∃ f, Sl m2 10 (isDef m2) dv (dsOf l (List.range l.length) f) ∧ ∀ i, i < l.length → Means l i (f i) := by
    rintro l m2 dv a p x (⟨h, -, he⟩ | ⟨h, -, hf⟩ | ⟨-, -, hb⟩) h0
    · rw [← he] at h; exact absurd h0 h
    · exact ⟨h, hf⟩
    · have := hb.1; simp only at this; omega
  obtain ⟨hz1, f, hsd, hms⟩ := hmid hR hx
  obtain ⟨hz2, f', hsd', hms'⟩ := hmid hR' hx'
  clear hR hR' hmid hdv
  subst hx hx'
  have hr := (earlyM_zero.1 hz1).1
  have hlen := hturn.len
  obtain ⟨Aq, nq, cq, eq, hnq, hcq, hmq, -⟩ := id hsd
  injection eq with eq1 eq2 eq3
  subst eq1 eq2 eq3
  rw [dsOf_len] at hnq
  subst hnq
  obtain ⟨Aq', nq', cq', eq', hnq', hcq', hmq', -⟩ := id hsd'
  injection eq' with eq1' eq2' eq3'
  subst eq1' eq2' eq3'
  rw [dsOf_len, hlen] at hnq'
  subst hnq'
  conv => whnf
  repeat ((first | refine zT ?_ | refine zF ?_ | refine zL hX hL ?_ | refine zB hX hL ?_ | (refine zS hX hL ?_; clear hL; intro w hL) | refine zI ?_ | refine zG hX ?_ | refine zO ?_); conv => whnf)
  refine LoopReq.inv hX (fun i : Nat => [(70, .int .i64 i)]) [0, 5, 6, 10, 69]
    (fun i w => i ≤ l.length ∧ Ev.Loc m [] w0 m4 [] w) (fun i => l.length - i) 0 ⟨Nat.zero_le _, hL⟩ ⟨rfl, trivial⟩ ?_
  clear hL
  rintro i w g ⟨hi, hL⟩
  conv => whnf
  repeat ((first | refine zT ?_ | refine zF ?_ | refine zL hX hL ?_ | refine zB hX hL ?_ | (refine zS hX hL ?_; clear hL; intro w hL) | refine zI ?_ | refine zG hX ?_ | refine zO ?_); conv => whnf)
  refine BrReq.dec (fun hlt => ?_) (fun hlt => ?_)
  rotate_left
  · conv => whnf
    repeat ((first | refine zT ?_ | refine zF ?_ | refine zL hX hL ?_ | refine zB hX hL ?_ | (refine zS hX hL ?_; clear hL; intro w hL) | refine zI ?_ | refine zG hX ?_ | refine zO ?_); conv => whnf)
    exact RetReq.bool hL rfl
  have hi1 : i < l.length := by omega
  have hj1 := hturn.lt i hi1
  have hmod : (i + l.length - k) % l.length = rotS l.length k i := by
    unfold rotS
    by_cases h : i < k
    · rw [if_pos h]; exact Nat.mod_eq_of_lt (by omega)
    · rw [if_neg h, Nat.mod_eq_sub_mod (by omega), Nat.mod_eq_of_lt (by omega)]; omega
  have hnm := hturn.nm hi1
  have hdet : f' (rotS l.length k i) = f i := means_det (hms' _ (by rw [hlen]; exact hj1)) (hturn.means hr.dist (hms i hi1) hi1)
  obtain ⟨ai, csi, eai, -, hci, csi', rfl, hri⟩ := hsd.elem i _ (dsOf_at hi1)
  obtain ⟨aj, csj, eaj, -, hcj, csj', rfl, hrj⟩ := hsd'.elem (rotS l.length k i) _ (dsOf_at (by rw [hlen]; exact hj1))
  simp only at hri hrj
  rw [hnm] at hcj
  rw [hdet] at hrj
  have hra := read_all hr hms hi1
  have hpl := parse_leaf (ds := dsOf l (List.range l.length) f) (hr.words i hi1) (by rw [hra])
  rw [hra] at hpl
  have hfd := formed_deep hpl.2
  generalize rotS l.length k i = j at *
  obtain ⟨k1, u0, u1, u2, u3, B1, bn1, bc1, lo1, hi1', neg1, rfl⟩ := hri.form
  obtain ⟨k2, v0, v1, v2, v3, B2, bn2, bc2, lo2, hi2', neg2, rfl⟩ := hrj.form
  have d0 := mcell_le hm24 (hci 0 _ rfl)
  have dr : Cells m4 ((ai.add (scale i 10)).add 1) (reC k1 u0 u1 u2 u3 (.slice B1 bn1 bc1) lo1 hi1' neg1) := fun q y hy => by
    rw [Addr.add_add, Nat.add_comm 1 q]
    exact mcell_le hm24 (hci (q + 1) y (by simpa using hy))
  conv => whnf
  repeat ((first | (refine RemReq.mk (n := ((j : Nat) : Int)) (by omega) (by rw [show (i : Int) + (l.length : Int) - (k : Int) = ((i + l.length - k : Nat) : Int) by omega, Int.tmod_eq_emod_of_nonneg (by omega), ← hmod]; omega) ?_) | refine Idx2Req.mk j aj rfl (by omega) eaj ?_ | refine LdReq.agg hX rfl rfl hL rfl hcj ?_ | refine zT ?_ | refine zF ?_ | refine zL hX hL ?_ | refine zB hX hL ?_ | (refine zS hX hL ?_; clear hL; intro w hL) | refine zI ?_ | refine zG hX ?_ | refine zO ?_); conv => whnf)
  refine NewReq.mk hL ?_
  clear hL
  intro b15 w hL
  conv => whnf
  replace hL : Ev.Loc m [] w0 m4 [(b15, .cells (toArr zD) 42 (0, 0))] w := hL
  conv => whnf
  repeat ((first | refine zT ?_ | refine zF ?_ | refine zL hX hL ?_ | refine zB hX hL ?_ | (refine zS hX hL ?_; clear hL; intro w hL) | refine zI ?_ | refine zG hX ?_ | refine zO ?_); conv => whnf)
  refine DrawReq.plan hX (.fst 0 (.fst 1 (.fst 2 (.fst 3 (.fst 4 (.fst 5 (.fst 6 (.fst 7 (.fst 8 (.fst 9 (.fst 10 (.fst 11 (.fst 12 (.fst 13 (.fst 14 (.fst 15 (.alt 16 (.fst 17 (.fst 18 (.done))) (.stop)))))))))))))))))) [(b15, .cells (toArr (.string (bs (nmM l i)) :: reC k2 v0 v1 v2 v3 (.slice B2 bn2 bc2) lo2 hi2' neg2)) 42 (0, 0))] (by kernel_rfl) (by kernel_rfl) hL id ?_
  clear hL
  intro w hL
  conv => whnf
  repeat ((first | refine Idx2Req.mk i ai rfl (by omega) eai ?_ | refine QLdReq.one hX rfl rfl d0 ?_ | refine UGenReq.strNe rfl rfl rfl ?_ | refine zQ hX ?_ | refine zR hX ?_ | refine zA ?_ | refine zT ?_ | refine zF ?_ | refine zL hX hL ?_ | refine zB hX hL ?_ | (refine zS hX hL ?_; clear hL; intro w hL) | refine zI ?_ | refine zG hX ?_ | refine zO ?_); conv => whnf)
  rw [show (!(bs (nmM l i) == bs (nmM l i))) = false by rw [bs_beq, decide_eq_true rfl]; rfl]
  conv => whnf
  repeat ((first | refine Idx2Req.mk i ai rfl (by omega) eai ?_ | refine QLdReq.agg hX rfl rfl rfl dr ?_ | refine zQ hX ?_ | refine zR hX ?_ | refine zA ?_ | refine zT ?_ | refine zF ?_ | refine zL hX hL ?_ | refine zB hX hL ?_ | (refine zS hX hL ?_; clear hL; intro w hL) | refine zI ?_ | refine zG hX ?_ | refine zO ?_); conv => whnf)
  refine CallReq.val (refSame_fn 41 m4 (f i) (f i) _ _ hrj (hri.le hm24) (by omega)) hL ?_
  clear hL
  intro w hL
  rw [sameR_refl 40 _ hfd]
  conv => whnf
  repeat ((first | refine SReq.mk hL ?_ | refine zQ hX ?_ | refine zR hX ?_ | refine zA ?_ | refine zT ?_ | refine zF ?_ | refine zL hX hL ?_ | refine zB hX hL ?_ | (refine zS hX hL ?_; clear hL; intro w hL) | refine zI ?_ | refine zG hX ?_ | refine zO ?_); conv => whnf)
  refine ⟨i + 1, ⟨by omega, hL.drop⟩, by first | omega | (simp only; omega) | (simp only [List.length_cons, List.length_append]; omega), ?_, ?_⟩
  · repeat (first | exact trivial | (refine And.intro (by (conv => lhs; whnf) <;> (conv => rhs; whnf) <;> (first | rfl)) ?_))
  · repeat (first | exact trivial | (refine And.intro (by (conv => lhs; whnf) <;> (conv => rhs; whnf) <;> (first | rfl)) ?_))
end Go.Proofs.YtemdkfohlppckaaGreatDoor.ma
