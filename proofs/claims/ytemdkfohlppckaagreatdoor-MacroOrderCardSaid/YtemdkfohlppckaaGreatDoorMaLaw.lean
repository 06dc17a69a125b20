/- MacroExpands, walked. Conditions: the laid variables are what they are. -/
import Derived.Test.YtemdkfohlppckaaGreatDoorMaRef
import Derived.Test.YtemdkfohlppckaaGreatDoorPaNames
import Derived.Test.YtemdkfohlppckaaGreatDoorTreeAlike
import Derived.Test.YtemdkfohlppckaaGreatDoorLxLaid

namespace Go.Proofs.YtemdkfohlppckaaGreatDoor.ma
open Go Go.Ev Go.Proofs Go.Proofs.YtemdkfohlppckaaGreatDoor.lx Go.Proofs.YtemdkfohlppckaaGreatDoor.tree Go.Proofs.YtemdkfohlppckaaGreatDoor.pa

theorem mac_of {m : Mem} (n : Nat) (cs : List Value) (h : Rdf X m n 40 cs) : ∃ x : List UInt8 × List UInt8, isMac cs x ∧ x.1.length ≤ 140737488351232 ∧ x.2.length ≤ 140737488351232 := by
  obtain ⟨hl, n', hn', hf⟩ := rdf_structL rfl rfl h
  match cs, hl with
  | [x0, x1], _ =>
    obtain ⟨s, e0, h0⟩ := rdf_str rfl rfl (hf 0 _ _ rfl rfl)
    obtain ⟨t, e1, h1⟩ := rdf_str rfl rfl (hf 1 _ _ rfl rfl)
    have e0 : [x0] = [Value.string s] := e0
    have e1 : [x1] = [Value.string t] := e1
    cases e0; cases e1
    exact ⟨(s.data.toList, t.data.toList), rfl, h0, h1⟩
theorem macs_of {m : Mem} {v : Value} (h : Given X m 22 v) : ∃ l : Ms, Sl m 2 isMac v l ∧ ∀ x ∈ l, x.1.length ≤ 281474976710656 ∧ x.2.length ≤ 281474976710656 := by
  obtain ⟨l, h1, -⟩ := Given.slice (R := fun cs (x : List UInt8 × List UInt8) => isMac cs x ∧ x.1.length ≤ 140737488351232 ∧ x.2.length ≤ 140737488351232) rfl rfl rfl (fun n cs _ h => mac_of n cs h) h
  refine ⟨l, h1.le (Mem.Le.refl m) fun _ _ _ h => h.1, fun x hx => ?_⟩
  obtain ⟨cs, -, h2, h3⟩ := h1.all x hx
  exact ⟨by omega, by omega⟩

set_option maxRecDepth 100000 in
theorem parse_awake : parseT [97] [] = (bytesR (putF zeroF 97), 0, 0) := by
  have hw : outT [97] = ([(0, wB (putF zeroF 97))], 0, 0) := rfl
  unfold parseT
  rw [hw, if_neg (fun h => h rfl)]
  simp only
  generalize hS : startP [(0, wB (putF zeroF 97))] = s
  have k0 : kindP s = 1 := by rw [← hS]; rfl
  have k1 : kindP (nextP s) = 0 := by rw [← hS]; rfl
  have hws : (headW s).2.set = putF zeroF 97 := by rw [← hS]; rfl
  have hP : P ([97] : List UInt8).length [] 24 .alt s = some (bytesR (putF zeroF 97), nextP s) := by
    have b2 := p_both (p_cat1 (p_bytes (fin := ([97] : List UInt8).length) (ds := []) (k := 0) k0) (by rw [k0]; decide) (by rw [k0]; decide) (.inl k1)) (by rw [k1]; decide)
    rw [hws] at b2
    exact P_more _ _ (k := 7) (by decide) (p_alt1 b2 (by rw [k1]; decide))
  rw [show 16 * [(0, wB (putF zeroF 97))].length + 8 = 24 from rfl, hP]
  simp only
  unfold endP
  rw [k1, if_neg (by decide)]
  unfold checkP
  rw [if_neg (by rw [← hS]; exact fun h => h rfl), if_neg (by decide +kernel), if_neg (by decide +kernel), if_pos (by decide +kernel)]

def oneM : Ms := [([65], [97])]
theorem one_on : onM oneM 0 = [] := by
  have hw : (outT [97]).1 = [(0, wB (putF zeroF 97))] := rfl
  show ((outT [97]).1).filterMap (onW oneM) = []
  rw [hw]; rfl
theorem way_head {l : Ms} {i k : Nat} (h : Way l i k) : ∃ q, Leans l i q := by
  induction h with
  | single h => exact ⟨_, h⟩
  | tail _ _ ih => exact ih
theorem one_right : Right oneM := by
  have i0 : ∀ i, i < oneM.length → i = 0 := fun i h => by
    have : oneM.length = 1 := rfl
    omega
  refine ⟨by decide, fun i hi => ?_, fun i k hi hk _ => by rw [i0 i hi, i0 k hk], fun i hi => ?_, fun i hi w hw hk => ?_⟩
  · rw [i0 i hi]; decide
  · rw [i0 i hi]; rfl
  · rw [i0 i hi] at hw
    have hw' : w ∈ [(0, wB (putF zeroF 97))] := hw
    rw [List.mem_singleton.1 hw'] at hk
    cases hk
theorem one_early : (earlyM oneM).2.2 = 0 := earlyM_zero.2 ⟨one_right, fun i hi hw => by
  have : i = 0 := by
    have : oneM.length = 1 := rfl
    omega
  subst this
  obtain ⟨q, hq⟩ := way_head hw
  unfold Leans at hq
  rw [one_on] at hq
  cases hq⟩
theorem one_means : Means oneM 0 (bytesR (putF zeroF 97)) := .mk 0 _ (fun _ => leafR 0) (fun k hk => by rw [one_on] at hk; cases hk) (by rw [one_on]; exact parse_awake)

theorem awake_fn (m : Mem) (hQ : LibMem m) : FnV Tryz.prog 5 [] m (.bool true) := by
  refine Fn.enter (N := 27) hX Tryz.func5 rfl rfl (by show _ ≤ _; simp) (fun w0 hL => ?_)
  conv => whnf
  conv => whnf
  repeat ((first | refine zT ?_ | refine zF ?_ | refine zL hX hL ?_ | refine zB hX hL ?_ | (refine zS hX hL ?_; clear hL; intro w hL) | refine zI ?_ | refine zG hX ?_ | refine zO ?_); conv => whnf)
  refine NewReq.mk hL ?_
  clear hL
  intro g w hL
  conv => whnf
  simp only [spliceL, zerosL, toArr, Value.cells, List.set_cons_zero, List.set_cons_succ, List.take, List.drop, Nat.zero_mul, Nat.one_mul, List.cons_append, List.nil_append, List.append_nil] at hL
  replace hL : Ev.Loc m [] w0 m [(g, .cells (toArr [[.string (bs [65]), .string (bs [97])]].flatten) 40 (0, 0))] w := hL
  obtain ⟨m1, hL1, hm1, hsl⟩ := rows_freeze (size := 2) (R := isMac) (l := oneM) (n := 1) (cap := 1) hL rfl (Nat.le_refl _) (by decide) (by intro r hr; rw [List.mem_singleton.1 hr]; rfl) (fun i x hx => by
    match i, hx with
    | 0, hx => cases hx; exact ⟨_, rfl, rfl⟩)
  clear hL
  have hL := hL1
  clear hL1
  conv => whnf
  repeat ((first | refine zT ?_ | refine zF ?_ | refine zL hX hL ?_ | refine zB hX hL ?_ | (refine zS hX hL ?_; clear hL; intro w hL) | refine zI ?_ | refine zG hX ?_ | refine zO ?_); conv => whnf)
  refine CallReq.pure (Expand_fn m1 (libLe' hm1 hQ) oneM _ hsl (fun x hx => by rw [List.mem_singleton.1 hx]; decide) (by decide)) hL ?_
  clear hL
  rintro u m2 w hL hm2 ⟨dv, a, p, x, rfl, hR⟩
  rcases hR with ⟨h, -⟩ | ⟨-, he, f, hsd, -⟩ | ⟨-, -, -, -, i, hi, hno⟩
  · exact absurd one_early h
  rotate_left
  · have : i = 0 := by
      have : oneM.length = 1 := rfl
      omega
    subst this
    exact absurd ⟨_, one_means⟩ hno
  have hsd' := hsd
  obtain ⟨Ad, nd, cd, rfl, hnd, hcd, hmd, -⟩ := hsd'
  obtain rfl : nd = 1 := hnd
  injection he with e1 e2
  injection e2 with e2 e3
  subst e1 e2 e3
  obtain ⟨ad, cs, ead, -, hcl, cs', rfl, hrep⟩ := hsd.elem 0 _ rfl
  have c0 : mcell m2 ((ad.add (scale 0 10)).add 0) = some (.string (bs [65])) := hcl 0 _ rfl
  conv => whnf
  repeat ((first | refine Idx2Req.mk 0 ad rfl (by omega) ead ?_ | refine LdReq.one hX rfl rfl hL c0 ?_ | refine UGenReq.strEq rfl rfl rfl ?_ | refine zT ?_ | refine zF ?_ | refine zL hX hL ?_ | refine zB hX hL ?_ | (refine zS hX hL ?_; clear hL; intro w hL) | refine zI ?_ | refine zG hX ?_ | refine zO ?_); conv => whnf)
  exact RetReq.bool hL (by decide)

theorem bad_cases {l : Ms} {e : E3} (h : BadE l e) : ∃ i : Nat, i < l.length ∧ e.1 = (i : Int) := h.2.1
theorem dsOf_at {l : Ms} {f : Nat → Re} {k : Nat} (hk : k < l.length) : (dsOf l (List.range l.length) f)[k]? = some (nmM l k, f k) := by
  unfold dsOf; rw [List.getElem?_map, List.getElem?_range hk]; rfl
theorem dsOf_len (l : Ms) (f : Nat → Re) : (dsOf l (List.range l.length) f).length = l.length := by simp [dsOf]
theorem formed_deep {r : Re} (h : formedR r = true) : deepR 40 r ≤ 40 := by
  unfold formedR at h
  simp only [Bool.and_eq_true, decide_eq_true_eq] at h
  exact h.1.1

set_option maxHeartbeats 4000000 in
theorem expands_fn (m : Mem) (hQ : LibMem m) (l : Ms) (v : Value) (hv : Sl m 2 isMac v l) (hb : ∀ x ∈ l, x.1.length ≤ 281474976710656 ∧ x.2.length ≤ 281474976710656) : FnV Tryz.prog 3 [v] m (.bool true) := by
  have hmx : maxLen = 9223372036854775807 := rfl
  have hv' := hv
  obtain ⟨A, n, c, rfl, hnl, hcc, hm, -⟩ := id hv
  subst hnl
  refine Fn.enter (N := 129) hX Tryz.func3 rfl rfl (by show _ ≤ _; simp) (fun w0 hL => ?_)
  conv => whnf
  conv => whnf
  repeat ((first | refine zT ?_ | refine zF ?_ | refine zL hX hL ?_ | refine zB hX hL ?_ | (refine zS hX hL ?_; clear hL; intro w hL) | refine zI ?_ | refine zG hX ?_ | refine zO ?_); conv => whnf)
  refine CallReq.val (awake_fn m hQ) hL ?_
  clear hL
  intro w hL
  conv => whnf
  repeat ((first | refine zT ?_ | refine zF ?_ | refine zL hX hL ?_ | refine zB hX hL ?_ | (refine zS hX hL ?_; clear hL; intro w hL) | refine zI ?_ | refine zG hX ?_ | refine zO ?_); conv => whnf)
  refine CallReq.pure (Few_fn m l _ hv' hb) hL ?_
  clear hL
  rintro u m1 w hL hm1 ⟨fb, rfl, hfew⟩
  cases fb with
  | false =>
    conv => whnf
    repeat ((first | refine zT ?_ | refine zF ?_ | refine zL hX hL ?_ | refine zB hX hL ?_ | (refine zS hX hL ?_; clear hL; intro w hL) | refine zI ?_ | refine zG hX ?_ | refine zO ?_); conv => whnf)
    refine CallReq.val (awake_fn m1 (libLe' hm1 hQ)) hL ?_
    clear hL
    intro w hL
    conv => whnf
    repeat ((first | refine zT ?_ | refine zF ?_ | refine zL hX hL ?_ | refine zB hX hL ?_ | (refine zS hX hL ?_; clear hL; intro w hL) | refine zI ?_ | refine zG hX ?_ | refine zO ?_); conv => whnf)
    exact RetReq.bool hL rfl
  | true =>
  have hF := hfew rfl
  have h25 := hF.1
  conv => whnf
  repeat ((first | refine zT ?_ | refine zF ?_ | refine zL hX hL ?_ | refine zB hX hL ?_ | (refine zS hX hL ?_; clear hL; intro w hL) | refine zI ?_ | refine zG hX ?_ | refine zO ?_); conv => whnf)
  refine CallReq.pure (Expand_fn m1 (libLe' hm1 hQ) l _ (hv'.le' hm1) (fun x hx => by have := hF.2 x hx; omega) (by omega)) hL ?_
  clear hL
  rintro u m2 w hL hm12 ⟨dv, a, p, x, rfl, hR⟩
  have hm2 := hm1.trans hm12
  have hdv : ∃ Ad nd cd, dv = .slice Ad nd cd := by
    rcases hR with ⟨-, h, -⟩ | ⟨-, -, f, h, -⟩ | ⟨-, h, -⟩
    · exact ⟨_, _, _, h⟩
    · obtain ⟨Ad, nd, cd, h, -⟩ := h; exact ⟨_, _, _, h⟩
    · exact ⟨_, _, _, h⟩
  obtain ⟨Ad, nd, cd, rfl⟩ := hdv
  conv => whnf
  repeat ((first | refine zT ?_ | refine zF ?_ | refine zL hX hL ?_ | refine zB hX hL ?_ | (refine zS hX hL ?_; clear hL; intro w hL) | refine zI ?_ | refine zG hX ?_ | refine zO ?_); conv => whnf)
  refine CallReq.pure (early_fn m2 (libLe' hm2 hQ) l _ (hv'.le' hm2) hF) hL ?_
  clear hL
  rintro u m3 w hL hm23 rfl
  have hm3 := hm2.trans hm23
  unfold ExpR at hR
  generalize hE : earlyM l = E at *
  rcases hR with ⟨h1, h2, he⟩ | ⟨h1, he, f, hsd, hms⟩ | ⟨h1, h2, hbad⟩
  · injection h2 with e1 e2 e3
    subst e1 e2 e3
    subst he
    conv => whnf
    repeat ((first | refine BrReq.yes h1 ?_ | refine BrReq.yes rfl ?_ | refine zT ?_ | refine zF ?_ | refine zL hX hL ?_ | refine zB hX hL ?_ | (refine zS hX hL ?_; clear hL; intro w hL) | refine zI ?_ | refine zG hX ?_ | refine zO ?_); conv => whnf)
    exact RetReq.bool hL rfl
  · have hr := (earlyM_zero.1 (by rw [hE]; exact h1)).1
    unfold noE at he
    injection he with e1 e2
    injection e2 with e2 e3
    subst e1 e2 e3
    have hsd' := hsd
    obtain ⟨Ad', nd', cd', ed, hnd, hcd, hmd, -⟩ := hsd'
    injection ed with ed1 ed2 ed3
    subst ed1 ed2 ed3
    rw [dsOf_len] at hnd
    subst hnd
    conv => whnf
    repeat ((first | refine BrReq.no (fun h => h h1) ?_ | refine BrReq.no (fun h => h rfl) ?_ | refine zT ?_ | refine zF ?_ | refine zL hX hL ?_ | refine zB hX hL ?_ | (refine zS hX hL ?_; clear hL; intro w hL) | refine zI ?_ | refine zG hX ?_ | refine zO ?_); conv => whnf)
    refine LoopReq.inv hX (fun k : Nat => [(89, .int .i64 k)]) [0, 3, 88]
      (fun k w => k ≤ l.length ∧ ∃ m4, Mem.Le m3 m4 ∧ Ev.Loc m [] w0 m4 [] w) (fun k => l.length - k) 0
      ⟨Nat.zero_le _, m3, Mem.Le.refl _, hL⟩ ⟨rfl, trivial⟩ ?_
    clear hL
    rintro k w g ⟨hk, m4, hm34, hL⟩
    conv => whnf
    repeat ((first | refine zT ?_ | refine zF ?_ | refine zL hX hL ?_ | refine zB hX hL ?_ | (refine zS hX hL ?_; clear hL; intro w hL) | refine zI ?_ | refine zG hX ?_ | refine zO ?_); conv => whnf)
    refine BrReq.dec (fun hlt => ?_) (fun hlt => ?_)
    rotate_left
    · conv => whnf
      repeat ((first | refine zT ?_ | refine zF ?_ | refine zL hX hL ?_ | refine zB hX hL ?_ | (refine zS hX hL ?_; clear hL; intro w hL) | refine zI ?_ | refine zG hX ?_ | refine zO ?_); conv => whnf)
      exact RetReq.bool hL rfl
    have hk1 : k < l.length := by omega
    obtain ⟨ak, eak, c0, c1⟩ := mac_at hv' rfl hk1
    have hm24 := hm23.trans hm34
    have hm4 := hm3.trans hm34
    have hra := read_all hr hms hk1
    have hpl := parse_leaf (ds := dsOf l (List.range l.length) f) (hr.words k hk1) (by rw [hra])
    rw [hra] at hpl
    have hfd := formed_deep hpl.2
    have hP := Parse_fn m4 (libLe' hm4 hQ) (txM l k) (by have := (FewM_tx hF k hk1).1; omega) _ _ (hsd.le hm24 fun cs x _ ⟨cs', h1, h2⟩ => ⟨cs', h1, h2.le hm24⟩)
    rw [hra] at hP
    obtain ⟨ad, csd, ead, -, hcd2, csd', rfl, hrd⟩ := hsd.elem k _ (dsOf_at hk1)
    obtain ⟨k2, v0, v1, v2, v3, A2, n2, c2, lo2, hi2, neg2, rfl⟩ := hrd.form
    conv => whnf
    repeat ((first | refine Idx2Req.mk k ak rfl (by omega) eak ?_ | refine LdReq.one hX rfl rfl hL (mcell_le hm4 c1) ?_ | refine zT ?_ | refine zF ?_ | refine zL hX hL ?_ | refine zB hX hL ?_ | (refine zS hX hL ?_; clear hL; intro w hL) | refine zI ?_ | refine zG hX ?_ | refine zO ?_); conv => whnf)
    refine CallReq.pure hP hL ?_
    clear hL
    rintro u m5 w hL hm45 ⟨cs, rfl, hrep⟩
    obtain ⟨k1, u0, u1, u2, u3, A1, n1, c1', lo1, hi1, neg1, rfl⟩ := hrep.form
    have hm5 := hm4.trans hm45
    have d0 := mcell_le (hm24.trans hm45) (hcd2 0 _ rfl)
    have c0' := mcell_le hm5 c0
    have dr : Cells m5 ((ad.add (scale k 10)).add 1) (reC k2 v0 v1 v2 v3 (.slice A2 n2 c2) lo2 hi2 neg2) := fun q x hx => by
      rw [Addr.add_add, Nat.add_comm 1 q]
      exact mcell_le (hm24.trans hm45) (hcd2 (q + 1) x (by simpa using hx))
    conv => whnf
    repeat ((first | refine zT ?_ | refine zF ?_ | refine zL hX hL ?_ | refine zB hX hL ?_ | (refine zS hX hL ?_; clear hL; intro w hL) | refine zI ?_ | refine zG hX ?_ | refine zO ?_); conv => whnf)
    refine NewReq.mk hL ?_
    clear hL
    intro b11 w hL
    conv => whnf
    replace hL : Ev.Loc m [] w0 m5 [(b11, .cells (toArr zRe) 36 (0, 0))] w := hL
    conv => whnf
    repeat ((first | refine zT ?_ | refine zF ?_ | refine zL hX hL ?_ | refine zB hX hL ?_ | (refine zS hX hL ?_; clear hL; intro w hL) | refine zI ?_ | refine zG hX ?_ | refine zO ?_); conv => whnf)
    refine DrawReq.plan hX (.fst 0 (.fst 1 (.fst 2 (.fst 3 (.fst 4 (.fst 5 (.fst 6 (.fst 7 (.fst 8 (.fst 9 (.fst 10 (.fst 11 (.fst 12 (.fst 13 (.fst 14 (.fst 15 (.fst 16 (.fst 17 (.fst 18 (.fst 19 (.fst 20 (.fst 21 (.alt 22 (.fst 23 (.fst 24 (.done))) (.stop)))))))))))))))))))))))) [(b11, .cells (toArr (reC k1 u0 u1 u2 u3 (.slice A1 n1 c1') lo1 hi1 neg1)) 36 (0, 0))] (by kernel_rfl) (by kernel_rfl) hL id ?_
    clear hL
    intro w hL
    conv => whnf
    repeat ((first | refine Idx2Req.mk k ad rfl (by omega) ead ?_ | refine Idx2Req.mk k ak rfl (by omega) eak ?_ | refine QLdReq.one hX rfl rfl d0 ?_ | refine QLdReq.one hX rfl rfl c0' ?_ | refine UGenReq.strNe rfl rfl rfl ?_ | refine zQ hX ?_ | refine zR hX ?_ | refine zA ?_ | refine zT ?_ | refine zF ?_ | refine zL hX hL ?_ | refine zB hX hL ?_ | (refine zS hX hL ?_; clear hL; intro w hL) | refine zI ?_ | refine zG hX ?_ | refine zO ?_); conv => whnf)
    rw [show (!(bs (nmM l k) == bs (nmM l k))) = false by rw [bs_beq, decide_eq_true rfl]; rfl]
    conv => whnf
    repeat ((first | refine Idx2Req.mk k ad rfl (by omega) ead ?_ | refine QLdReq.agg hX rfl rfl rfl dr ?_ | refine zQ hX ?_ | refine zR hX ?_ | refine zA ?_ | refine zT ?_ | refine zF ?_ | refine zL hX hL ?_ | refine zB hX hL ?_ | (refine zS hX hL ?_; clear hL; intro w hL) | refine zI ?_ | refine zG hX ?_ | refine zO ?_); conv => whnf)
    refine CallReq.val (refSame_fn 41 m5 (f k) (f k) _ _ hrep (hrd.le (hm24.trans hm45)) (by omega)) hL ?_
    clear hL
    intro w hL
    rw [sameR_refl 40 _ hfd]
    conv => whnf
    repeat ((first | refine SReq.mk hL ?_ | refine zQ hX ?_ | refine zR hX ?_ | refine zA ?_ | refine zT ?_ | refine zF ?_ | refine zL hX hL ?_ | refine zB hX hL ?_ | (refine zS hX hL ?_; clear hL; intro w hL) | refine zI ?_ | refine zG hX ?_ | refine zO ?_); conv => whnf)
    refine ⟨k + 1, ⟨by omega, m5, hm34.trans hm45, hL.drop⟩, by first | omega | (simp only; omega) | (simp only [List.length_cons, List.length_append]; omega), ?_, ?_⟩
    · repeat (first | exact trivial | (refine And.intro (by (conv => lhs; whnf) <;> (conv => rhs; whnf) <;> (first | rfl)) ?_))
    · repeat (first | exact trivial | (refine And.intro (by (conv => lhs; whnf) <;> (conv => rhs; whnf) <;> (first | rfl)) ?_))
  · injection h2 with e1 e2 e3
    subst e1 e2 e3
    obtain ⟨i, hi, ei⟩ := bad_cases hbad
    simp only at ei
    have hx := hbad.1
    simp only at hx
    subst ei
    rcases hx with rfl | rfl | rfl
    · conv => whnf
      repeat ((first | refine BrReq.no (fun h => h h1) ?_ | refine BrReq.yes (by omega) ?_ | refine zT ?_ | refine zF ?_ | refine zL hX hL ?_ | refine zB hX hL ?_ | (refine zS hX hL ?_; clear hL; intro w hL) | refine zI ?_ | refine zG hX ?_ | refine zO ?_); conv => whnf)
      exact RetReq.bool hL rfl
    · conv => whnf
      repeat ((first | refine BrReq.no (fun h => h h1) ?_ | refine BrReq.yes (by omega) ?_ | refine zT ?_ | refine zF ?_ | refine zL hX hL ?_ | refine zB hX hL ?_ | (refine zS hX hL ?_; clear hL; intro w hL) | refine zI ?_ | refine zG hX ?_ | refine zO ?_); conv => whnf)
      exact RetReq.bool hL rfl
    · conv => whnf
      repeat ((first | refine BrReq.no (fun h => h h1) ?_ | refine BrReq.yes (by omega) ?_ | refine zT ?_ | refine zF ?_ | refine zL hX hL ?_ | refine zB hX hL ?_ | (refine zS hX hL ?_; clear hL; intro w hL) | refine zI ?_ | refine zG hX ?_ | refine zO ?_); conv => whnf)
      exact RetReq.bool hL rfl
end Go.Proofs.YtemdkfohlppckaaGreatDoor.ma
