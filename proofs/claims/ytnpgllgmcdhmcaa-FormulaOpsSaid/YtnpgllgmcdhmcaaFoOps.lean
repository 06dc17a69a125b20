/- Formulas: formed, few, Or, And, Dual, walked. Conditions: none. -/
import Derived.Test.YtnpgllgmcdhmcaaFoSort

namespace Go.Proofs.Ytnpgllgmcdhmcaa.fo
open Go Go.Ev Go.Proofs

theorem clone_fn (m : Mem) (v : Value) (l : List Int) (hl : SlI m .i64 v l) (hb : l.length ≤ 1000000) :
    Ev.Fn Try.prog 46 [v] m [] fun m' L' u => m' = m ∧ OwnS 3 1 u (ints .i64 l) L' := by
  obtain ⟨A, n, c, rfl, hn, hc, hm, -⟩ := id hl
  cases A with
  | none =>
    have hl0 := hl.none_nil
    subst hl0
    refine Fn.enter (N := 8) hX Try.func46 rfl rfl (by show _ ≤ _; simp) (fun w0 hL => ?_)
    conv => whnf
    conv => whnf
    repeat ((first | refine zT ?_ | refine zF ?_ | refine zL hX hL ?_ | refine zB hX hL ?_ | (refine zS hX hL ?_; clear hL; intro w hL) | refine zI ?_ | refine zG hX ?_ | refine zO ?_); conv => whnf)
    exact RetReq.mk hL ⟨rfl, OwnS.nil _ _⟩
  | some a =>
    refine Fn.enter (N := 8) hX Try.func46 rfl rfl (by show _ ≤ _; simp) (fun w0 hL => ?_)
    conv => whnf
    conv => whnf
    repeat ((first | refine zT ?_ | refine zF ?_ | refine zL hX hL ?_ | refine zB hX hL ?_ | (refine zS hX hL ?_; clear hL; intro w hL) | refine zI ?_ | refine zG hX ?_ | refine zO ?_); conv => whnf)
    refine NewReq.mk hL ?_
    clear hL
    intro g w hL
    conv => whnf
    replace hL : Ev.Loc m [] w0 m ([(g, .cells (toArr []) 3 (0, 0))] ++ []) w := hL
    refine RunReq.append hX 34 3 rfl rfl rfl rfl rfl (OwnS.full (n := 0) (by omega) rfl) hL (hl.src hL).1 (hl.src hL).2 (ints_one _ _) (by simp only [ints, List.length_map, List.length_nil]; omega) rfl ?_
    clear hL
    intro A2 n2 c2 L2 w hn2 ho hL
    rw [List.append_nil] at hL
    conv => whnf
    repeat ((first | refine zT ?_ | refine zF ?_ | refine zL hX hL ?_ | refine zB hX hL ?_ | (refine zS hX hL ?_; clear hL; intro w hL) | refine zI ?_ | refine zG hX ?_ | refine zO ?_); conv => whnf)
    exact RetReq.mk hL ⟨rfl, ho⟩
theorem hd_freeze {m0 m : Mem} {S : List Nat} {w0 w : World} {v : Value} {us : List Value} {f : Fml} {L1 L2 : Ev.Own} (h : OwnS 34 1 v us L1) (hH : HdF m us f) (hL : Ev.Loc m0 S w0 m (L1 ++ L2) w) : ∃ m', Ev.Loc m0 S w0 m' L2 w ∧ Mem.Le m m' ∧ FmV m' v f :=
  fm_freeze h hL hH.1.symm hH.2
theorem hd_one {m : Mem} {u : Value} {p : Prt} (h : SlI m .i64 u p) : HdF m [u] [p] := ⟨rfl, fun i x hx => by
  cases i with
  | zero => cases hx; exact ⟨_, rfl, h⟩
  | succ i => cases hx⟩
set_option maxHeartbeats 2000000 in
theorem formed_fn (m : Mem) (u : Value) (us : List Value) (f : Fml) (L1 : Ev.Own) (ho : OwnS 34 1 u us L1) (hH : HdF m us f) (hb : f.length ≤ 100000) (hp : ∀ p ∈ f, p.length ≤ 100000) (hr : ∀ p ∈ f, Rises p) :
    Ev.Fn Try.prog 28 [u] m L1 fun m' L' v => L' = [] ∧ ∃ r, Canon f r ∧ FmV m' v r := by
  have hmx : maxLen = 9223372036854775807 := rfl
  obtain ⟨A, n, c, rfl, hn⟩ := ho.slice
  refine Fn.enter (N := 25) hX Try.func28 rfl rfl (by show _ ≤ _; simp) (fun w0 hL => ?_)
  conv => whnf
  generalize keys L1 = S0 at hL ⊢
  rw [← List.append_nil L1] at hL
  conv => whnf
  repeat ((first | refine zT ?_ | refine zF ?_ | refine zL hX hL ?_ | refine zB hX hL ?_ | (refine zS hX hL ?_; clear hL; intro w hL) | refine zI ?_ | refine zG hX ?_ | refine zO ?_); conv => whnf)
  refine CallReq.mk (L1 := L1) (L2 := []) (sortF_fn m A n c us f L1 ho hH (by omega)) hL ?_
  clear hL
  rintro u mx L2 w hL - ⟨hmx2, rfl, us2, d, ho2, hH2, hperm, hsort⟩
  rw [hmx2] at hL
  clear hmx2 mx ho hH
  obtain ⟨m1, hL1, hm1, hfd⟩ := hd_freeze ho2 hH2 hL
  clear hL
  have hL := hL1
  clear hL1
  have hrd : ∀ p ∈ d, Rises p := fun p h => hr p (hperm.mem_iff.1 h)
  have hpd : ∀ p ∈ d, p.length ≤ 100000 := fun p h => hp p (hperm.mem_iff.1 h)
  have hdl := hperm.length_eq
  have hcan := (mini_canon hrd hsort).perm hperm
  have hfd' := hfd
  obtain ⟨A', n', c', e, hnd, hcd, hmd, -⟩ := hfd'
  injection e with e1 e2 e3
  subst e1 e2 e3
  conv => whnf
  repeat ((first | refine zT ?_ | refine zF ?_ | refine zL hX hL ?_ | refine zB hX hL ?_ | (refine zS hX hL ?_; clear hL; intro w hL) | refine zI ?_ | refine zG hX ?_ | refine zO ?_); conv => whnf)
  refine LoopReq.inv hX (fun s : Nat × Option Addr × Nat × Nat => [(3, .slice s.2.1 s.2.2.1 s.2.2.2), (10, .int .i64 s.1)]) [8, 9]
    (fun s w => s.1 ≤ d.length ∧ ∃ m2 us L2, Mem.Le m1 m2 ∧ OwnS 34 1 (.slice s.2.1 s.2.2.1 s.2.2.2) us L2 ∧ HdF m2 us (mini (d.take s.1)) ∧ Ev.Loc m S0 w0 m2 L2 w) (fun s => d.length - s.1) (0, none, 0, 0)
    ⟨Nat.zero_le _, m1, [], [], Mem.Le.refl _, OwnS.nil _ _, HdF.nil _, hL⟩ ⟨rfl, rfl, trivial⟩ ?_
  clear hL
  rintro ⟨j, B, bn, bc⟩ w g ⟨hj, m2, us3, L3, hm12, ho3, hH3, hL⟩
  simp only at hj ho3 hH3
  conv => whnf
  repeat ((first | refine zT ?_ | refine zF ?_ | refine zL hX hL ?_ | refine zB hX hL ?_ | (refine zS hX hL ?_; clear hL; intro w hL) | refine zI ?_ | refine zG hX ?_ | refine zO ?_); conv => whnf)
  refine BrReq.dec (fun hlt => ?_) (fun hlt => ?_)
  rotate_left
  · have ej : j = d.length := by simp only at hlt; omega
    subst ej
    rw [List.take_length] at hH3
    conv => whnf
    repeat ((first | refine zT ?_ | refine zF ?_ | refine zL hX hL ?_ | refine zB hX hL ?_ | (refine zS hX hL ?_; clear hL; intro w hL) | refine zI ?_ | refine zG hX ?_ | refine zO ?_); conv => whnf)
    rw [← List.append_nil L3] at hL
    obtain ⟨m3, hL3, hm23, hf3⟩ := hd_freeze ho3 hH3 hL
    exact RetReq.mk hL3 ⟨rfl, _, hcan, hf3⟩
  have hj1 : j < d.length := by simp only at hlt; omega
  obtain ⟨a, A5, n5, c5, ea, hcell, hpq⟩ := (hfd.le hm12).at_ hj1
  conv => whnf
  repeat ((first | (refine Idx2Req.mk j a rfl (by simp only at hlt; omega) ea ?_) | refine LdReq.one hX rfl rfl hL hcell ?_ | refine zT ?_ | refine zF ?_ | refine zL hX hL ?_ | refine zB hX hL ?_ | (refine zS hX hL ?_; clear hL; intro w hL) | refine zI ?_ | refine zG hX ?_ | refine zO ?_); conv => whnf)
  refine NewReq.mk hL ?_
  clear hL
  intro b5 w hL
  conv => whnf
  replace hL : Ev.Loc m S0 w0 m2 ((b5, .cells (toArr [.slice none 0 0]) 34 (0, 0)) :: L3) w := hL
  conv => whnf
  repeat ((first | refine zT ?_ | refine zF ?_ | refine zL hX hL ?_ | refine zB hX hL ?_ | (refine zS hX hL ?_; clear hL; intro w hL) | refine zI ?_ | refine zO ?_); conv => whnf)
  replace hL : Ev.Loc m S0 w0 m2 ((b5, .cells (toArr [.slice A5 n5 c5]) 34 (0, 0)) :: L3) w := hL
  have hm23 := hL.le_add
  have hL := hL.freeze
  have hc5 : mcell (m2.add b5 (.cells (toArr [.slice A5 n5 c5]) 34 (0, 0))) ⟨b5, 0, none⟩ = some (.slice A5 n5 c5) := mcell_add rfl
  generalize (m2.add b5 (.cells (toArr [.slice A5 n5 c5]) 34 (0, 0))) = m3 at *
  have hL4 := hL
  rw [← List.append_nil L3] at hL4
  obtain ⟨mm, hLm, hmm, hfo⟩ := hd_freeze ho3 (hH3.le hm23) hL4
  have hcc := containsM_fn mm _ (mini (d.take j)) b5 A5 n5 c5 d[j] hfo (hpq.le' (hm23.trans hmm)) (mcell_le hmm hc5)
  clear hL4
  conv => whnf
  repeat ((first | refine zT ?_ | refine zF ?_ | refine zL hX hL ?_ | refine zB hX hL ?_ | (refine zS hX hL ?_; clear hL; intro w hL) | refine zI ?_ | refine zG hX ?_ | refine zO ?_); conv => whnf)
  refine CallReq.lend hcc hLm.sub hL ?_
  clear hL hLm hcc hfo hmm mm
  intro w hL
  have htk : mini (d.take (j + 1)) = addM (mini (d.take j)) d[j] := by rw [take_succ' hj1, mini_snoc]
  unfold addM at htk
  have hp3 := hpq.le' hm23
  have hH4 := hH3.le hm23
  cases hany : ((mini (d.take j)).any fun q => q.isSublist d[j]) with
  | true =>
    rw [hany, if_pos rfl] at htk
    rw [← htk] at hH4
    conv => whnf
    repeat ((first | refine zT ?_ | refine zF ?_ | refine zL hX hL ?_ | refine zB hX hL ?_ | (refine zS hX hL ?_; clear hL; intro w hL) | refine zI ?_ | refine zG hX ?_ | refine zO ?_); conv => whnf)
    refine ⟨(j + 1, B, bn, bc), ⟨by simp only; omega, m3, us3, L3, hm12.trans hm23, ho3, hH4, hL⟩, by first | omega | (simp only; omega) | (simp only [List.length_cons, List.length_append]; omega), ?_, ?_⟩
    · repeat (first | exact trivial | (refine And.intro (by (conv => lhs; whnf) <;> (conv => rhs; whnf) <;> (first | rfl)) ?_))
    · repeat (first | exact trivial | (refine And.intro (by (conv => lhs; whnf) <;> (conv => rhs; whnf) <;> (first | rfl)) ?_))
  | false =>
    rw [hany, if_neg (by decide)] at htk
    have hlen := lenF hH4
    have hml : (mini (d.take j)).length ≤ d.length := by
      have : ∀ k, k ≤ d.length → (mini (d.take k)).length ≤ k := fun k => by
        induction k with
        | zero => intro _; simp [mini]
        | succ k ih =>
          intro hk
          rw [take_succ' (by omega), mini_snoc]
          unfold addM
          have := ih (by omega)
          split
          · omega
          · rw [List.length_append, List.length_singleton]; omega
      have := this j hj; omega
    conv => whnf
    repeat ((first | refine LdReq.one hX rfl rfl hL hc5 ?_ | refine zT ?_ | refine zF ?_ | refine zL hX hL ?_ | refine zB hX hL ?_ | (refine zS hX hL ?_; clear hL; intro w hL) | refine zI ?_ | refine zG hX ?_ | refine zO ?_); conv => whnf)
    refine CallReq.mk (L1 := []) (clone_fn m3 _ _ hp3 (by have := hpd _ (List.getElem_mem hj1); omega)) hL ?_
    clear hL
    rintro u mx Lx w hL - ⟨hmx2, hox⟩
    rw [hmx2] at hL
    clear hmx2 mx
    obtain ⟨m4, hL4, hm34, hs4⟩ := OwnS.freeze hox hL
    clear hL
    have hL := hL4
    clear hL4
    obtain ⟨C, cn, cc, rfl, -⟩ := id hs4
    conv => whnf
    repeat ((first | refine zT ?_ | refine zF ?_ | refine zL hX hL ?_ | refine zB hX hL ?_ | (refine zS hX hL ?_; clear hL; intro w hL) | refine zI ?_ | refine zG hX ?_ | refine zO ?_); conv => whnf)
    refine NewReq.mk hL ?_
    clear hL
    intro b21 w hL
    conv => whnf
    replace hL : Ev.Loc m S0 w0 m4 ((b21, .cells (toArr [.slice C cn cc]) 34 (0, 0)) :: (L3 ++ [])) w := by rw [List.append_nil]; exact hL
    conv => whnf
    repeat ((first | refine zT ?_ | refine zF ?_ | refine zL hX hL ?_ | refine zB hX hL ?_ | (refine zS hX hL ?_; clear hL; intro w hL) | refine zI ?_ | refine zG hX ?_ | refine zO ?_); conv => whnf)
    refine RunReq.push hX 23 34 rfl rfl rfl rfl rfl ho3 (L2 := []) hL rfl rfl (by show _ + 1 ≤ _; omega) rfl ?_
    clear hL
    intro A6 n6 c6 L6 w hn6 ho6 hL
    rw [List.append_nil] at hL
    have hH6 := (hH4.le hm34).app (hd_one hs4)
    rw [← htk] at hH6
    conv => whnf
    repeat ((first | refine zT ?_ | refine zF ?_ | refine zL hX hL ?_ | refine zB hX hL ?_ | (refine zS hX hL ?_; clear hL; intro w hL) | refine zI ?_ | refine zG hX ?_ | refine zO ?_); conv => whnf)
    refine ⟨(j + 1, A6, n6, c6), ⟨by simp only; omega, m4, _, L6, hm12.trans (hm23.trans hm34), ho6, hH6, hL⟩, by first | omega | (simp only; omega) | (simp only [List.length_cons, List.length_append]; omega), ?_, ?_⟩
    · repeat (first | exact trivial | (refine And.intro (by (conv => lhs; whnf) <;> (conv => rhs; whnf) <;> (first | rfl)) ?_))
    · repeat (first | exact trivial | (refine And.intro (by (conv => lhs; whnf) <;> (conv => rhs; whnf) <;> (first | rfl)) ?_))

theorem fewP_fn (m : Mem) (v : Value) (f : Fml) (h : FmV m v f) (hb : f.length ≤ 200) : FnV Try.prog 27 [v] m (.tuple (toArr [v, .int .i64 0])) := by
  obtain ⟨A, n, c, rfl, hn, -⟩ := id h
  subst hn
  refine Fn.enter (N := 8) hX Try.func27 rfl rfl (by show _ ≤ _; simp) (fun w0 hL => ?_)
  conv => whnf
  conv => whnf
  repeat ((first | refine BrReq.no (by omega) ?_ | refine zT ?_ | refine zF ?_ | refine zL hX hL ?_ | refine zB hX hL ?_ | (refine zS hX hL ?_; clear hL; intro w hL) | refine zI ?_ | refine zG hX ?_ | refine zO ?_); conv => whnf)
  exact RetReq.mk hL ⟨rfl, rfl⟩
/-- The two formulas, one behind the other. -/
theorem pair_fs {m0 m : Mem} {S : List Nat} {w0 w : World} {b : Nat} {v1 v2 : Value} {f g : Fml} {L : Ev.Own} (h1 : FmV m v1 f) (h2 : FmV m v2 g) (hL : Ev.Loc m0 S w0 m ((b, .cells (toArr [v1, v2]) 23 (0, 0)) :: L) w) :
    ∃ m', Ev.Loc m0 S w0 m' L w ∧ Mem.Le m m' ∧ FsV m' (.slice (some ⟨b, 0, none⟩) 2 2) [f, g] := by
  obtain ⟨m1, hL1, hm1, hfs⟩ := freeze1 (l := [f, g]) (R := fun u x => FmV m u x) (L2 := L) (OwnS.full (te := 23) (g := b) (n := 2) (cur := [v1, v2]) (by decide) rfl) hL rfl (by
    intro i x hx
    match i, hx with
    | 0, hx => cases hx; exact ⟨_, rfl, h1⟩
    | 1, hx => cases hx; exact ⟨_, rfl, h2⟩
    | i + 2, hx => cases hx)
  exact ⟨m1, hL1, hm1, Sl.le hfs (Mem.Le.refl _) fun _ _ _ ⟨u, e, h⟩ => ⟨u, e, h.le hm1⟩⟩
theorem pair_flat (f g : Fml) : ([f, g] : List Fml).flatten = f ++ g := by simp
/-- What is looked at: numbers out of a few. -/
structure Sm (A : Prt) (f : Fml) : Prop where
  formed : FormedP f
  in_ : In A f
theorem Sm.len {A : Prt} (hA : A.length ≤ 9) {f : Fml} (h : Sm A f) : f.length ≤ 126 := anti_le hA h.formed h.in_
theorem Sm.part {A : Prt} (hA : A.length ≤ 9) {f : Fml} (h : Sm A f) {p : Prt} (hp : p ∈ f) : p.length ≤ 9 := Nat.le_trans (rises_len (h.formed.rises p hp) (h.in_ p hp)) hA

set_option maxHeartbeats 1000000 in
theorem Or_fn (m : Mem) (v1 v2 : Value) (f g : Fml) (A : Prt) (hA : A.length ≤ 9) (h1 : FmV m v1 f) (h2 : FmV m v2 g) (hf : Sm A f) (hg : Sm A g) :
    Fn0 Try.prog 9 [v1, v2] m fun m' u => ∃ v r, u = .tuple (toArr [v, .int .i64 0]) ∧ FmV m' v r ∧ Canon (f ++ g) r := by
  have k1 := Formed_fn m v1 f h1
  have k2 := Formed_fn m v2 g h2
  rw [dec_t hf.formed] at k1
  rw [dec_t hg.formed] at k2
  obtain ⟨A1, n1, c1, rfl, -⟩ := id h1
  obtain ⟨A2, n2, c2, rfl, -⟩ := id h2
  have l1 := hf.len hA
  have l2 := hg.len hA
  refine Fn.enter (N := 22) hX Try.func9 rfl rfl (by show _ ≤ _; simp) (fun w0 hL => ?_)
  conv => whnf
  conv => whnf
  repeat ((first | refine zT ?_ | refine zF ?_ | refine zL hX hL ?_ | refine zB hX hL ?_ | (refine zS hX hL ?_; clear hL; intro w hL) | refine zI ?_ | refine zG hX ?_ | refine zO ?_); conv => whnf)
  refine CallReq.val k1 hL ?_
  clear hL
  intro w hL
  conv => whnf
  repeat ((first | refine zT ?_ | refine zF ?_ | refine zL hX hL ?_ | refine zB hX hL ?_ | (refine zS hX hL ?_; clear hL; intro w hL) | refine zI ?_ | refine zG hX ?_ | refine zO ?_); conv => whnf)
  refine CallReq.val k2 hL ?_
  clear hL
  intro w hL
  conv => whnf
  repeat ((first | refine zT ?_ | refine zF ?_ | refine zL hX hL ?_ | refine zB hX hL ?_ | (refine zS hX hL ?_; clear hL; intro w hL) | refine zI ?_ | refine zG hX ?_ | refine zO ?_); conv => whnf)
  refine NewReq.mk hL ?_
  clear hL
  intro b16 w hL
  conv => whnf
  obtain ⟨m1, hL1, hm1, hfs⟩ := pair_fs h1 h2 (show Ev.Loc m [] w0 m ((b16, .cells (toArr [.slice A1 n1 c1, .slice A2 n2 c2]) 23 (0, 0)) :: []) w from hL)
  clear hL
  have hL := hL1
  clear hL1
  conv => whnf
  repeat ((first | refine zT ?_ | refine zF ?_ | refine zL hX hL ?_ | refine zB hX hL ?_ | (refine zS hX hL ?_; clear hL; intro w hL) | refine zI ?_ | refine zG hX ?_ | refine zO ?_); conv => whnf)
  refine CallReq.mk (L1 := []) (concatF_fn m1 _ _ hfs (by rw [pair_flat, List.length_append]; omega) (by simp)) hL ?_
  clear hL
  rintro u mx L1 w hL - ⟨hmx2, us, ho, hH⟩
  rw [hmx2] at hL
  clear hmx2 mx
  rw [pair_flat] at hH
  have hu := ho.slice
  obtain ⟨A3, n3, c3, rfl, -⟩ := hu
  conv => whnf
  repeat ((first | refine zT ?_ | refine zF ?_ | refine zL hX hL ?_ | refine zB hX hL ?_ | (refine zS hX hL ?_; clear hL; intro w hL) | refine zI ?_ | refine zG hX ?_ | refine zO ?_); conv => whnf)
  refine CallReq.mk (L1 := L1) (formed_fn m1 _ us (f ++ g) L1 ho hH (by rw [List.length_append]; omega) (fun p hp => (List.mem_append.1 hp).elim (fun h => by have := hf.part hA h; omega) fun h => by have := hg.part hA h; omega) (fun p hp => (List.mem_append.1 hp).elim (hf.formed.rises p) (hg.formed.rises p))) hL ?_
  clear hL
  rintro u m2 L2 w hL hm12 ⟨rfl, r, hcan, hr⟩
  have hrl := anti_le hA hcan.formed (hcan.in_ (hf.in_.app hg.in_))
  have hfw := fewP_fn m2 u r hr (by omega)
  obtain ⟨A4, n4, c4, rfl, -⟩ := id hr
  conv => whnf
  repeat ((first | refine zT ?_ | refine zF ?_ | refine zL hX hL ?_ | refine zB hX hL ?_ | (refine zS hX hL ?_; clear hL; intro w hL) | refine zI ?_ | refine zG hX ?_ | refine zO ?_); conv => whnf)
  refine CallReq.val hfw hL ?_
  clear hL
  intro w hL
  conv => whnf
  repeat ((first | refine zT ?_ | refine zF ?_ | refine zL hX hL ?_ | refine zB hX hL ?_ | (refine zS hX hL ?_; clear hL; intro w hL) | refine zI ?_ | refine zG hX ?_ | refine zO ?_); conv => whnf)
  exact RetReq.mk hL ⟨rfl, _, r, rfl, hr, hcan⟩
set_option maxHeartbeats 2000000 in
theorem And_fn (m : Mem) (v1 v2 : Value) (f g : Fml) (A : Prt) (hA : A.length ≤ 9) (h1 : FmV m v1 f) (h2 : FmV m v2 g) (hf : Sm A f) (hg : Sm A g) :
    Fn0 Try.prog 10 [v1, v2] m fun m' u => ∃ v r, u = .tuple (toArr [v, .int .i64 0]) ∧ FmV m' v r ∧ Canon (prods f g) r := by
  have k1 := Formed_fn m v1 f h1
  have k2 := Formed_fn m v2 g h2
  rw [dec_t hf.formed] at k1
  rw [dec_t hg.formed] at k2
  have h1' := h1
  obtain ⟨A1, n1, c1, rfl, hn1, hc1, hm1x, -⟩ := id h1
  obtain ⟨A2, n2, c2, rfl, -⟩ := id h2
  subst hn1
  have l1 := hf.len hA
  have l2 := hg.len hA
  have hmx : maxLen = 9223372036854775807 := rfl
  refine Fn.enter (N := 38) hX Try.func10 rfl rfl (by show _ ≤ _; simp) (fun w0 hL => ?_)
  conv => whnf
  conv => whnf
  repeat ((first | refine zT ?_ | refine zF ?_ | refine zL hX hL ?_ | refine zB hX hL ?_ | (refine zS hX hL ?_; clear hL; intro w hL) | refine zI ?_ | refine zG hX ?_ | refine zO ?_); conv => whnf)
  refine CallReq.val k1 hL ?_
  clear hL
  intro w hL
  conv => whnf
  repeat ((first | refine zT ?_ | refine zF ?_ | refine zL hX hL ?_ | refine zB hX hL ?_ | (refine zS hX hL ?_; clear hL; intro w hL) | refine zI ?_ | refine zG hX ?_ | refine zO ?_); conv => whnf)
  refine CallReq.val k2 hL ?_
  clear hL
  intro w hL
  conv => whnf
  repeat ((first | refine zT ?_ | refine zF ?_ | refine zL hX hL ?_ | refine zB hX hL ?_ | (refine zS hX hL ?_; clear hL; intro w hL) | refine zI ?_ | refine zG hX ?_ | refine zO ?_); conv => whnf)
  refine LoopReq.inv hX (fun s : Nat × Option Addr × Nat × Nat => [(6, .slice s.2.1 s.2.2.1 s.2.2.2), (19, .int .i64 s.1)]) [1, 17, 18]
    (fun s w => s.1 ≤ f.length ∧ ∃ m1 r, Mem.Le m m1 ∧ FmV m1 (.slice s.2.1 s.2.2.1 s.2.2.2) r ∧ Canon (prods (f.take s.1) g) r ∧ Ev.Loc m [] w0 m1 [] w) (fun s => f.length - s.1) (0, none, 0, 0)
    ⟨Nat.zero_le _, m, [], Mem.Le.refl m, Sl.nil _ _ _, ⟨FormedP.nil, fun q hq => by (cases hq), fun S => by simp [prods]⟩, hL⟩ ⟨rfl, rfl, trivial⟩ ?_
  clear hL
  rintro ⟨j, B, bn, bc⟩ w e ⟨hj, m1, r, hm1, hr, hcan, hL⟩
  simp only at hj hr hcan
  have hin : ∀ j, In A (prods (f.take j) g) := fun j => prods_in (fun p hp => hf.in_ p (List.mem_of_mem_take hp)) hg.in_
  have hrS : Sm A r := ⟨hcan.formed, hcan.in_ (hin j)⟩
  have hrl := hrS.len hA
  conv => whnf
  repeat ((first | refine zT ?_ | refine zF ?_ | refine zL hX hL ?_ | refine zB hX hL ?_ | (refine zS hX hL ?_; clear hL; intro w hL) | refine zI ?_ | refine zG hX ?_ | refine zO ?_); conv => whnf)
  refine BrReq.dec (fun hlt => ?_) (fun hlt => ?_)
  rotate_left
  · have ej : j = f.length := by simp only at hlt; omega
    subst ej
    rw [List.take_length] at hcan
    conv => whnf
    repeat ((first | refine zT ?_ | refine zF ?_ | refine zL hX hL ?_ | refine zB hX hL ?_ | (refine zS hX hL ?_; clear hL; intro w hL) | refine zI ?_ | refine zG hX ?_ | refine zO ?_); conv => whnf)
    refine CallReq.val (fewP_fn m1 _ r hr (by omega)) hL ?_
    clear hL
    intro w hL
    conv => whnf
    repeat ((first | refine zT ?_ | refine zF ?_ | refine zL hX hL ?_ | refine zB hX hL ?_ | (refine zS hX hL ?_; clear hL; intro w hL) | refine zI ?_ | refine zG hX ?_ | refine zO ?_); conv => whnf)
    exact RetReq.mk hL ⟨rfl, _, r, rfl, hr, hcan⟩
  have hj1 : j < f.length := by simp only at hlt; omega
  have hjm := List.getElem_mem hj1
  have hpl := hf.part hA hjm
  obtain ⟨a, A5, n5, c5, ea, hcell, hpq⟩ := (h1'.le hm1).at_ hj1
  conv => whnf
  repeat ((first | (refine Idx2Req.mk j a rfl (by simp only at hlt; omega) ea ?_) | refine LdReq.one hX rfl rfl hL hcell ?_ | refine zT ?_ | refine zF ?_ | refine zL hX hL ?_ | refine zB hX hL ?_ | (refine zS hX hL ?_; clear hL; intro w hL) | refine zI ?_ | refine zG hX ?_ | refine zO ?_); conv => whnf)
  refine CallReq.mk (L1 := []) (and_fn m1 _ _ f[j] g hpq (h2.le hm1) (fun q hq => by have := hg.part hA hq; omega) (by omega)) hL ?_
  clear hL
  rintro u m2 L1 w hL hm12 ⟨us, ho, hH⟩
  obtain ⟨m3, hL3, hm23, hfa⟩ := hd_freeze ho hH hL
  clear hL
  have hL := hL3
  clear hL3
  obtain ⟨A6, n6, c6, rfl, -⟩ := id hfa
  conv => whnf
  repeat ((first | refine zT ?_ | refine zF ?_ | refine zL hX hL ?_ | refine zB hX hL ?_ | (refine zS hX hL ?_; clear hL; intro w hL) | refine zI ?_ | refine zG hX ?_ | refine zO ?_); conv => whnf)
  refine NewReq.mk hL ?_
  clear hL
  intro b27 w hL
  conv => whnf
  obtain ⟨m4, hL4, hm34, hfs⟩ := pair_fs (hr.le (hm12.trans hm23)) hfa (show Ev.Loc m [] w0 m3 ((b27, .cells (toArr [.slice B bn bc, .slice A6 n6 c6]) 23 (0, 0)) :: []) w from hL)
  clear hL
  have hL := hL4
  clear hL4
  conv => whnf
  repeat ((first | refine zT ?_ | refine zF ?_ | refine zL hX hL ?_ | refine zB hX hL ?_ | (refine zS hX hL ?_; clear hL; intro w hL) | refine zI ?_ | refine zG hX ?_ | refine zO ?_); conv => whnf)
  refine CallReq.mk (L1 := []) (concatF_fn m4 _ _ hfs (by rw [pair_flat, List.length_append, List.length_map]; omega) (by simp)) hL ?_
  clear hL
  rintro u mx L1 w hL - ⟨hmx2, us2, ho2, hH2⟩
  rw [hmx2] at hL
  clear hmx2 mx
  rw [pair_flat] at hH2
  have hu := ho2.slice
  obtain ⟨A3, n3, c3, rfl, -⟩ := hu
  conv => whnf
  repeat ((first | refine zT ?_ | refine zF ?_ | refine zL hX hL ?_ | refine zB hX hL ?_ | (refine zS hX hL ?_; clear hL; intro w hL) | refine zI ?_ | refine zG hX ?_ | refine zO ?_); conv => whnf)
  refine CallReq.mk (L1 := L1) (formed_fn m4 _ us2 _ L1 ho2 hH2 (by rw [List.length_append, List.length_map]; omega) (fun p hp => (List.mem_append.1 hp).elim (fun h => by have := hrS.part hA h; omega) fun h => by
    obtain ⟨q, hq, rfl⟩ := List.mem_map.1 h
    have := join_len f[j] q
    have := hg.part hA hq
    omega) (fun p hp => (List.mem_append.1 hp).elim (hrS.formed.rises p) fun h => by
    obtain ⟨q, hq, rfl⟩ := List.mem_map.1 h
    exact join_rises (hf.formed.rises _ hjm) (hg.formed.rises q hq))) hL ?_
  clear hL
  rintro u m5 L2 w hL hm45 ⟨rfl, r2, hcan2, hr2⟩
  have hcan3 := and_step hcan hcan2
  rw [← take_succ' hj1] at hcan3
  have hrl2 := anti_le hA hcan3.formed (hcan3.in_ (hin (j + 1)))
  obtain ⟨A7, n7, c7, rfl, hn7, -⟩ := id hr2
  conv => whnf
  repeat ((first | refine BrReq.no (by omega) ?_ | refine zT ?_ | refine zF ?_ | refine zL hX hL ?_ | refine zB hX hL ?_ | (refine zS hX hL ?_; clear hL; intro w hL) | refine zI ?_ | refine zG hX ?_ | refine zO ?_); conv => whnf)
  refine ⟨(j + 1, A7, n7, c7), ⟨by simp only; omega, m5, r2, hm1.trans (hm12.trans (hm23.trans (hm34.trans hm45))), hr2, hcan3, hL⟩, by first | omega | (simp only; omega) | (simp only [List.length_cons, List.length_append]; omega), ?_, ?_⟩
  · repeat (first | exact trivial | (refine And.intro (by (conv => lhs; whnf) <;> (conv => rhs; whnf) <;> (first | rfl)) ?_))
  · repeat (first | exact trivial | (refine And.intro (by (conv => lhs; whnf) <;> (conv => rhs; whnf) <;> (first | rfl)) ?_))
end Go.Proofs.Ytnpgllgmcdhmcaa.fo
