/- TrackRefuses: part 12 of 14 of the proof. Conditions: none. -/
import Derived.Test.YtiololnblplloaaGreatM6
import Derived.Test.YtiololnblplloaaGreatM11
import Derived.Test.YtiololnblplloaaGreatM5
import Derived.Test.YtiololnblplloaaGreatM10
namespace Go.Proofs.YtiololnblplloaaGreat.ar
open Go Go.Ev Go.Proofs Go.Proofs.YtiololnblplloaaGreat.tree
def boO (ab : Nat) (lv : Value) (e : Int) : Obj := .cells (toArr [.pointer (some ⟨ab, 0, none⟩), lv, .int .i64 e]) 97 (0, 0)
def BQ (ab bb : Nat) (lv : Value) (r : Bs) : Mem → Own → Value → Prop := fun _ L' u => u = .int .i64 r.2 ∧ ∃ L2, L' = (bb, boO ab lv r.1.2) :: L2 ∧ Ar ab r.1.1 L2
def Bld (lk : Re → Int) (lv : Value) (m0 : Mem) (p : Re) : Prop := ∀ (m : Mem) (ab bb : Nat) (ns : List Nd) (L : Own) (e : Int) (cs : List Value), Mem.Le m0 m → RepRe m cs p → Ar ab ns L → OkA ns →
  Ev.Fn Tryz.prog 55 [.pointer (some ⟨bb, 0, none⟩), .agg (toArr cs)] m ((bb, boO ab lv e) :: L) (BQ ab bb lv (bR lk p ns e))
theorem all_fn (lk : Re → Int) (lv : Value) (hlv : lv.oneCell' = true) (m0 : Mem) (rs : List Re) (hb : ∀ p ∈ rs, Bld lk lv m0 p) (hin : ∀ p ∈ rs, InRe p) (hln : rs.length ≤ 1000) (m : Mem) (ab bb : Nat) (ns : List Nd) (L : Own) (e : Int) (v : Value)
    (hm0 : Mem.Le m0 m) (hs : Sl m 9 (RepRe m) v rs) (hA : Ar ab ns L) (hO : OkA ns) :
    Ev.Fn Tryz.prog 79 [.pointer (some ⟨bb, 0, none⟩), v] m ((bb, boO ab lv e) :: L) fun m' L' u => Mem.Le m m' ∧ ∃ Lo L2, L' = Lo ++ ((bb, boO ab lv (bL lk rs ns e).1.2) :: L2) ∧ Ar ab (bL lk rs ns e).1.1 L2 ∧ OwnS 3 1 u (ints .i64 (bL lk rs ns e).2) Lo := by
  obtain ⟨A, n, c, rfl, hn, -, hmn, -⟩ := id hs
  have hmx : maxLen = 9223372036854775807 := rfl
  refine Fn.enter (N := 22) hX Tryz.func79 rfl rfl (by show _ ≤ _; simp) (fun w0 hL => ?_)
  conv => whnf
  generalize keys ((bb, boO ab lv e) :: L) = S0 at hL ⊢
  conv => whnf
  repeat ((first | refine zT ?_ | refine zF ?_ | refine zL hX hL ?_ | refine zB hX hL ?_ | (refine zS hX hL ?_; clear hL; intro w hL) | refine zI ?_ | refine zG hX ?_ | refine zO ?_); conv => whnf)
  refine LoopReq.inv hX (fun s : Nat × Option Addr × Nat × Nat => [(5, .slice s.2.1 s.2.2.1 s.2.2.2), (10, .int .i64 s.1)]) [0, 8, 9]
    (fun s w => s.1 ≤ n ∧ ∃ m1 Lo L2, (Mem.Le m m1 ∧ Ar ab (bL lk (rs.take s.1) ns e).1.1 L2) ∧ OwnS 3 1 (.slice s.2.1 s.2.2.1 s.2.2.2) (ints .i64 (bL lk (rs.take s.1) ns e).2) Lo ∧ Ev.Loc m S0 w0 m1 (Lo ++ ((bb, boO ab lv (bL lk (rs.take s.1) ns e).1.2) :: L2)) w) (fun s => n - s.1) (0, none, 0, 0)
    ⟨by simp, m, [], L, ⟨Mem.Le.refl m, hA⟩, OwnS.nil _ _, hL⟩ ⟨rfl, rfl, trivial⟩ ?_
  clear hL
  rintro ⟨j, A1, n1, c1⟩ w f ⟨hj, m1, Lo, L2, ⟨hm1, hA⟩, ho, hL⟩
  simp only at hj hA ho hL
  conv => whnf
  repeat ((first | refine zT ?_ | refine zF ?_ | refine zL hX hL ?_ | refine zB hX hL ?_ | (refine zS hX hL ?_; clear hL; intro w hL) | refine zI ?_ | refine zG hX ?_ | refine zO ?_); conv => whnf)
  refine BrReq.dec (fun hlt => ?_) (fun hlt => ?_)
  · have hlt' : j < rs.length := by simp only at hlt; omega
    have hs1 : Sl m1 9 (RepRe m1) (.slice A n c) rs := hs.le hm1 fun _ _ _ h => h.le hm1
    obtain ⟨a, cs', eA, hl9, hcells, hrep⟩ := hs1.elem j _ (List.getElem?_eq_getElem hlt')
    have hbp := hb _ (List.getElem_mem hlt')
    have hlen := bL_len lk (rs.take j) ns e
    rw [List.length_take] at hlen
    have htk := bL_take lk rs ns e j hlt'
    have hok := okB_L lk (rs.take j) (fun p hp => hin p (List.mem_of_mem_take hp)) ns e hO
    have hok2 := okB_L lk (rs.take (j + 1)) (fun p hp => hin p (List.mem_of_mem_take hp)) ns e hO
    rw [htk] at hok2
    generalize rs[j] = p at hrep hbp htk hok2
    generalize bL lk (rs.take j) ns e = q at hA ho hL hlen htk hok hok2
    conv => whnf
    repeat ((first | (refine Idx2Req.mk j a rfl (by simp only at hlt ⊢; omega) eA ?_) | refine LdReq.agg hX rfl rfl hL hl9 hcells ?_ | refine zT ?_ | refine zF ?_ | refine zL hX hL ?_ | refine zB hX hL ?_ | (refine zS hX hL ?_; clear hL; intro w hL) | refine zI ?_ | refine zG hX ?_ | refine zO ?_); conv => whnf)
    obtain ⟨kp, sp0, sp1, sp2, sp3, Ap, np, cp, lop, hip, negp, rfl⟩ := hrep.form
    refine NewReq.mk hL ?_
    clear hL
    intro b7 w hL
    conv => whnf
    conv => whnf
    repeat ((first | refine zT ?_ | refine zF ?_ | refine zL hX hL ?_ | refine zB hX hL ?_ | (refine zS hX hL ?_; clear hL; intro w hL) | refine zI ?_ | refine zG hX ?_ | refine zO ?_); conv => whnf)
    replace hL : Ev.Loc m S0 w0 m1 (((b7, .cells (toArr (reC kp sp0 sp1 sp2 sp3 (.slice Ap np cp) lop hip negp)) 30 (0, 0)) :: Lo) ++ ((bb, boO ab lv q.1.2) :: L2)) w := hL
    refine CallReq.mk (L1 := (bb, boO ab lv q.1.2) :: L2) (L2 := (b7, .cells (toArr (reC kp sp0 sp1 sp2 sp3 (.slice Ap np cp) lop hip negp)) 30 (0, 0)) :: Lo) (hbp m1 ab bb q.1.1 L2 q.1.2 _ (hm0.trans hm1) hrep hA hok.1) (Loc.back hL) ?_
    clear hL
    rintro u m2 Lx w hL hm2 ⟨rfl, L3, rfl, hA3⟩
    have hL := Loc.back (L1 := (bb, boO ab lv (bR lk p q.1.1 q.1.2).1.2) :: L3) hL
    replace hL := hL.drop
    generalize bR lk p q.1.1 q.1.2 = r at hA3 hL htk hok2 ⊢
    conv => whnf
    repeat ((first | refine zT ?_ | refine zF ?_ | refine zL hX hL ?_ | refine zB hX hL ?_ | (refine zS hX hL ?_; clear hL; intro w hL) | refine zI ?_ | refine zG hX ?_ | refine zO ?_); conv => whnf)
    refine NewReq.mk hL ?_
    clear hL
    intro g2 w hL
    conv => whnf
    replace hL : Ev.Loc m S0 w0 m2 ((g2, .cells (toArr [.int .i64 r.2]) 3 (0, 0)) :: (Lo ++ ((bb, boO ab lv r.1.2) :: L3))) w := hL
    conv => whnf
    repeat ((first | refine zT ?_ | refine zF ?_ | refine zL hX hL ?_ | refine zB hX hL ?_ | (refine zS hX hL ?_; clear hL; intro w hL) | refine zI ?_ | refine zG hX ?_ | refine zO ?_); conv => whnf)
    refine RunReq.push hX 108 3 rfl rfl rfl rfl rfl ho (L2 := (bb, boO ab lv r.1.2) :: L3) hL rfl rfl (by simp [ints]; omega) rfl ?_
    clear hL
    intro A2 n2 c2 Lo2 w hn2 ho2 hL
    rw [← show ints .i64 (q.2 ++ [r.2]) = ints .i64 q.2 ++ [Value.int .i64 r.2] from ints_append ..] at ho2
    conv => whnf
    repeat ((first | refine zT ?_ | refine zF ?_ | refine zL hX hL ?_ | refine zB hX hL ?_ | (refine zS hX hL ?_; clear hL; intro w hL) | refine zI ?_ | refine zG hX ?_ | refine zO ?_); conv => whnf)
    refine ⟨(j + 1, A2, n2, c2), ⟨by simp only at hlt ⊢; omega, m2, Lo2, L3, ⟨hm1.trans hm2, by simp only [htk]; exact hA3⟩, by simp only [htk]; exact ho2, by simp only [htk]; exact hL⟩, by first | omega | (simp only; omega) | (simp only [List.length_cons, List.length_append]; omega), ?_, ?_⟩
    · repeat (first | exact trivial | (refine And.intro (by (conv => lhs; whnf) <;> (conv => rhs; whnf) <;> (first | rfl)) ?_))
    · repeat (first | exact trivial | (refine And.intro (by (conv => lhs; whnf) <;> (conv => rhs; whnf) <;> (first | rfl)) ?_))
  · have ej : j = n := by simp only at hlt; omega
    subst ej
    rw [List.take_of_length_le (by omega)] at hA ho hL
    conv => whnf
    repeat ((first | refine zT ?_ | refine zF ?_ | refine zL hX hL ?_ | refine zB hX hL ?_ | (refine zS hX hL ?_; clear hL; intro w hL) | refine zI ?_ | refine zG hX ?_ | refine zO ?_); conv => whnf)
    exact RetReq.mk hL ⟨hm1, Lo, L2, rfl, hA, ho⟩
set_option maxHeartbeats 4000000 in
theorem times_fn (lk : Re → Int) (lv : Value) (m0 : Mem) (p : Re) (hb : Bld lk lv m0 p) (hinp : InRe p) (m : Mem) (ab bb : Nat) (ns : List Nd) (L : Own) (e : Int) (kd s0 s1 s2 s3 lo hi : Int) (neg : Bool) (A : Option Addr) (n c : Nat)
    (hm0 : Mem.Le m0 m) (hs : Sl m 9 (RepRe m) (.slice A n c) [p]) (hlo : 0 ≤ lo ∧ lo ≤ 1000) (hhi : -1 ≤ hi ∧ hi ≤ 1000) (hA : Ar ab ns L) (hO : OkA ns) :
    Ev.Fn Tryz.prog 84 [.pointer (some ⟨bb, 0, none⟩), .agg (toArr (reC kd s0 s1 s2 s3 (.slice A n c) lo hi neg))] m ((bb, boO ab lv e) :: L)
      (BQ ab bb lv (((timesN lo hi (bR lk p ns e).1.1 (bR lk p ns e).2).1, (bR lk p ns e).1.2), (timesN lo hi (bR lk p ns e).1.1 (bR lk p ns e).2).2)) := by
  obtain ⟨a, cs', eA, hl9, hcells, hrep⟩ := hs.elem 0 p rfl
  have hn1 : n = 1 := by obtain ⟨_, _, _, h1, h2, -⟩ := hs; cases h1; exact h2
  have hok := okB_R lk p hinp ns e hO
  obtain ⟨rc, hrc⟩ : ∃ rc, rc = reC kd s0 s1 s2 s3 (.slice A n c) lo hi neg := ⟨_, rfl⟩
  refine Fn.enter (N := 67) hX Tryz.func84 rfl rfl (by show _ ≤ _; simp) (fun w0 hL => ?_)
  conv => whnf
  generalize keys ((bb, boO ab lv e) :: L) = S0 at hL ⊢
  refine NewReq.mk hL ?_
  clear hL
  intro b3 w hL
  conv => whnf
  replace hL : Ev.Loc m S0 w0 m ((b3, .cells (toArr (reC kd s0 s1 s2 s3 (.slice A n c) lo hi neg)) 30 (0, 0)) :: (bb, boO ab lv e) :: L) w := hL
  have hbp := hb m ab bb ns L e cs' hm0 hrep hA hO
  have hq : ∃ q, q = bR lk p ns e := ⟨_, rfl⟩
  conv => whnf
  repeat ((first | refine Idx2Req.mk 0 a rfl (by omega) eA ?_ | refine LdReq.agg hX rfl rfl hL hl9 hcells ?_ | refine zT ?_ | refine zF ?_ | refine zL hX hL ?_ | refine zB hX hL ?_ | (refine zS hX hL ?_; clear hL; intro w hL) | refine zI ?_ | refine zG hX ?_ | refine zO ?_); conv => whnf)
  refine CallReq.mk (L1 := (bb, boO ab lv e) :: L) (L2 := [_]) hbp (Loc.back (L1 := [_]) hL) ?_
  clear hL hq
  rintro u m1 Lx w hL hm1 ⟨rfl, L2, rfl, hA2⟩
  have hL := Loc.back (L1 := (bb, boO ab lv (bR lk p ns e).1.2) :: L2) (L2 := [_]) hL
  generalize bR lk p ns e = q at hA2 hL hok ⊢
  obtain ⟨⟨ns1, e1⟩, x⟩ := q
  obtain ⟨hok1, hx⟩ := hok
  simp only at hA2 hL hok1 hx ⊢
  replace hL : Ev.Loc m S0 w0 m1 ((b3, .cells (toArr (reC kd s0 s1 s2 s3 (.slice A n c) lo hi neg)) 30 (0, 0)) :: (bb, boO ab lv e1) :: L2) w := hL
  clear hbp hA hrc
  conv => whnf
  repeat ((first | refine zT ?_ | refine zF ?_ | refine zL hX hL ?_ | refine zB hX hL ?_ | (refine zS hX hL ?_; clear hL; intro w hL) | refine zI ?_ | refine zG hX ?_ | refine zO ?_); conv => whnf)
  refine CallReq.mk (L1 := L2) (L2 := [_, _]) (Empty_fn m1 ab ns1 L2 hA2 hok1) (Loc.back (L1 := [_, _]) hL) ?_
  clear hL
  rintro u mx L3 w hL - ⟨hmx, rfl, hA3⟩
  rw [hmx] at hL
  clear hmx mx
  have hL := Loc.back (L1 := L3) (L2 := [_, _]) hL
  unfold timesN
  rw [show putI ns1 (ndK 1) = (emptyN ns1).2 from rfl]
  change Ar ab (emptyN ns1).1 L3 at hA3
  have hem := okB_empty hok1
  generalize emptyN ns1 = em at hA3 hem ⊢
  obtain ⟨ns2, out⟩ := em
  obtain ⟨hok2, hout⟩ := hem
  simp only at hA3 hok2 hout ⊢
  clear hA2
  replace hL : Ev.Loc m S0 w0 m1 ((b3, .cells (toArr (reC kd s0 s1 s2 s3 (.slice A n c) lo hi neg)) 30 (0, 0)) :: (bb, boO ab lv e1) :: L3) w := hL
  have hst : OkB (if hi < 0 then starN ns2 x else (ns2, out)) := by split; exact okB_star hok2 hx; exact ⟨hok2, hout⟩
  by_cases hneg : hi < 0
  · rw [if_pos hneg] at hst
    rw [if_pos hneg]
    conv => whnf
    repeat ((first | refine BrReq.yes hneg ?_ | refine zT ?_ | refine zF ?_ | refine zL hX hL ?_ | refine zB hX hL ?_ | (refine zS hX hL ?_; clear hL; intro w hL) | refine zI ?_ | refine zG hX ?_ | refine zO ?_); conv => whnf)
    refine CallReq.mk (L1 := L3) (L2 := [_, _]) (StarG_fn m1 ab ns2 L3 hA3 hok2 x) (Loc.back (L1 := [_, _]) hL) ?_
    clear hL
    rintro u m2 L4 w hL hm2 ⟨rfl, hA4⟩
    have hL := Loc.back (L1 := L4) (L2 := [_, _]) hL
    replace hL : Ev.Loc m S0 w0 m2 ((b3, .cells (toArr (reC kd s0 s1 s2 s3 (.slice A n c) lo hi neg)) 30 (0, 0)) :: (bb, boO ab lv e1) :: L4) w := hL
    generalize starN ns2 x = st at hA4 hst ⊢
    conv => whnf
    repeat ((first | refine zT ?_ | refine zF ?_ | refine zL hX hL ?_ | refine zB hX hL ?_ | (refine zS hX hL ?_; clear hL; intro w hL) | refine zI ?_ | refine zG hX ?_ | refine zO ?_); conv => whnf)
    generalize hR : repN x lo.toNat (optN x (hi - lo).toNat st.1 st.2).1 (optN x (hi - lo).toNat st.1 st.2).2 = R
    refine LoopReq.inv hX (fun s : Nat × Int × Int => [(6, .int .i64 s.2.2), (7, .int .i64 s.2.1)]) [0, 3, 5]
      (fun s w => (s.1 = (hi - s.2.1).toNat ∧ (0 ≤ s.2.1 ∧ s.2.1 ≤ 1000) ∧ i64 s.2.2) ∧ ∃ m1 ns' L', (Mem.Le m m1 ∧ Ar ab ns' L' ∧ OkA ns' ∧ repN x lo.toNat (optN x s.1 ns' s.2.2).1 (optN x s.1 ns' s.2.2).2 = R) ∧ Ev.Loc m S0 w0 m1 ((b3, .cells (toArr (reC kd s0 s1 s2 s3 (.slice A n c) lo hi neg)) 30 (0, 0)) :: (bb, boO ab lv e1) :: L') w) (fun s => s.1) ((hi - lo).toNat, lo, st.2)
      ⟨⟨rfl, hlo, hst.2⟩, m2, st.1, L4, ⟨(hm1.trans hm2), hA4, hst.1, hR⟩, hL⟩ ⟨rfl, rfl, trivial⟩ ?_
    clear hL hR hA4 hm2
    rintro ⟨k, i, out⟩ w f ⟨⟨hk, hir, hout⟩, m1, ns', L', ⟨hm1, hA', hO', hR⟩, hL⟩
    simp only at hk hir hout hR
    conv => whnf
    repeat ((first | refine zT ?_ | refine zF ?_ | refine zL hX hL ?_ | refine zB hX hL ?_ | (refine zS hX hL ?_; clear hL; intro w hL) | refine zI ?_ | refine zG hX ?_ | refine zO ?_); conv => whnf)
    refine BrReq.dec (fun hlt => ?_) (fun hlt => ?_)
    · simp only at hlt
      obtain ⟨k', rfl⟩ : ∃ k', k = k' + 1 := ⟨k - 1, by omega⟩
      rw [optN] at hR
      conv => whnf
      repeat ((first | refine zT ?_ | refine zF ?_ | refine zL hX hL ?_ | refine zB hX hL ?_ | (refine zS hX hL ?_; clear hL; intro w hL) | refine zI ?_ | refine zG hX ?_ | refine zO ?_); conv => whnf)
      refine DrawReq.plan hX (.fst 0 (.fst 1 (.fst 2 (.fst 3 (.fst 4 (.fst 5 (.fst 6 (.fst 7 (.fst 9 (.fst 10 (.fst 11 (.fst 12 (.fst 13 (.fst 14 (.alt 8 (.alt 15 (.alt 16 (.alt 17 (.fst 18 (.done)) (.stop)) (.stop)) (.stop)) (.stop)))))))))))))))) [(bb, boO ab lv e1)] (by kernel_rfl) (by kernel_rfl) hL (fun h => h.one 1 rfl) ?_
      clear hL
      intro w hL
      have hem := okB_empty hO'
      have hct := okB_cat hem.1 hx hout
      have hor := okB_or hct.1 false [(emptyN ns').2, (catN (emptyN ns').1 x out).2]
      conv => whnf
      repeat ((first | refine zQ hX ?_ | refine zR hX ?_ | refine zA ?_ | refine zT ?_ | refine zF ?_ | refine zL hX hL ?_ | refine zB hX hL ?_ | (refine zS hX hL ?_; clear hL; intro w hL) | refine zI ?_ | refine zG hX ?_ | refine zO ?_); conv => whnf)
      refine CallReq.mk (L1 := L') (L2 := [_, _]) (Empty_fn m1 ab ns' L' hA' hO') (Loc.back (L1 := [_, _]) hL) ?_
      clear hL
      rintro u mx La w hL - ⟨hmx, rfl, hA3⟩
      rw [hmx] at hL
      clear hmx mx
      have hL := Loc.back (L1 := La) (L2 := [_, _]) hL
      rw [show putI ns' (ndK 1) = (emptyN ns').2 from rfl]
      change Ar ab (emptyN ns').1 La at hA3
      refine SReq.mk (hL.one 1 rfl) ?_
      conv => whnf
      repeat ((first | refine zQ hX ?_ | refine zR hX ?_ | refine zA ?_ | refine zT ?_ | refine zF ?_ | refine zL hX hL ?_ | refine zB hX hL ?_ | (refine zS hX hL ?_; clear hL; intro w hL) | refine zI ?_ | refine zG hX ?_ | refine zO ?_); conv => whnf)
      generalize emptyN ns' = em at hA3 hem hct hor hR ⊢
      refine CallReq.mk (L1 := La) (L2 := [_, _]) (CatF_fn ab (x.toNat + 1) m1 em.1 La hA3 hem.1 x out hx hout (fun _ => Nat.lt_succ_self _) (by omega)) (Loc.back (L1 := [_, _]) hL) ?_
      clear hL
      rintro u m2 Lb w hL hm2 ⟨rfl, hA4⟩
      have hL := Loc.back (L1 := Lb) (L2 := [_, _]) hL
      refine SReq.mk ((hL.one 1 rfl).weaken hm2 hm1) ?_
      conv => whnf
      repeat ((first | refine zQ hX ?_ | refine zR hX ?_ | refine zA ?_ | refine zT ?_ | refine zF ?_ | refine zL hX hL ?_ | refine zB hX hL ?_ | (refine zS hX hL ?_; clear hL; intro w hL) | refine zI ?_ | refine zG hX ?_ | refine zO ?_); conv => whnf)
      rw [show catF (x.toNat + 1) em.1 x out = catN em.1 x out from rfl] at hA4 ⊢
      generalize catN em.1 x out = ct at hA4 hct hor hR ⊢
      refine NewReq.mk hL ?_
      clear hL
      intro g w hL
      conv => whnf
      refine SReq.mk ((hL.one 2 rfl).weaken hm2 hm1) ?_
      obtain ⟨m3, hL1, hm3, hs3⟩ := there_row (l := [em.2, ct.2]) hL (by simp)
      clear hL
      have hL := hL1
      clear hL1
      conv => whnf
      repeat ((first | refine zQ hX ?_ | refine zR hX ?_ | refine zA ?_ | refine zT ?_ | refine zF ?_ | refine zL hX hL ?_ | refine zB hX hL ?_ | (refine zS hX hL ?_; clear hL; intro w hL) | refine zI ?_ | refine zG hX ?_ | refine zO ?_); conv => whnf)
      refine CallReq.mk (L1 := Lb) (L2 := [_, _]) (OrG_fn m3 ab ct.1 Lb hA4 hct.1 _ [em.2, ct.2] hs3 (by simp)) (Loc.back (L1 := [_, _]) hL) ?_
      clear hL
      rintro u m4 Lc w hL hm4 ⟨rfl, hA5⟩
      have hL := Loc.back (L1 := Lc) (L2 := [_, _]) hL
      refine SReq.mk ((hL.one 1 rfl).weaken ((hm2.trans hm3).trans hm4) hm1) ?_
      rw [show gputN false ct.1 [em.2, ct.2] = orN ct.1 [em.2, ct.2] from rfl] at hA5 hor ⊢
      generalize orN ct.1 [em.2, ct.2] = o at hA5 hor hR ⊢
      conv => whnf
      repeat ((first | (refine ArReq.i64 (by simp only; omega) (by simp only; omega) ?_) | refine zQ hX ?_ | refine zR hX ?_ | refine zA ?_ | refine zT ?_ | refine zF ?_ | refine zL hX hL ?_ | refine zB hX hL ?_ | (refine zS hX hL ?_; clear hL; intro w hL) | refine zI ?_ | refine zG hX ?_ | refine zO ?_); conv => whnf)
      refine ⟨(k', i + 1, o.2), ⟨⟨by simp only; omega, by simp only; omega, hor.2⟩, m4, o.1, Lc, ⟨((hm1.trans hm2).trans hm3).trans hm4, hA5, hor.1, hR⟩, hL⟩, by first | omega | (simp only; omega) | (simp only [List.length_cons, List.length_append]; omega), ?_, ?_⟩
      · repeat (first | exact trivial | (refine And.intro (by (conv => lhs; whnf) <;> (conv => rhs; whnf) <;> (first | rfl)) ?_))
      · repeat (first | exact trivial | (refine And.intro (by (conv => lhs; whnf) <;> (conv => rhs; whnf) <;> (first | rfl)) ?_))
    · simp only at hlt
      have hk0 : k = 0 := by omega
      subst hk0
      rw [show optN x 0 ns' out = (ns', out) from rfl] at hR
      simp only at hR
      conv => whnf
      repeat ((first | refine zT ?_ | refine zF ?_ | refine zL hX hL ?_ | refine zB hX hL ?_ | (refine zS hX hL ?_; clear hL; intro w hL) | refine zI ?_ | refine zG hX ?_ | refine zO ?_); conv => whnf)
      refine LoopReq.inv hX (fun s : Nat × Int => [(6, .int .i64 s.2), (56, .int .i64 (lo - s.1))]) [0, 5, 55]
        (fun s w => (s.1 ≤ lo.toNat ∧ i64 s.2) ∧ ∃ m1 ns' L', (Ar ab ns' L' ∧ OkA ns' ∧ repN x s.1 ns' s.2 = R) ∧ Ev.Loc m S0 w0 m1 ((b3, .cells (toArr (reC kd s0 s1 s2 s3 (.slice A n c) lo hi neg)) 30 (0, 0)) :: (bb, boO ab lv e1) :: L') w) (fun s => s.1) (lo.toNat, out)
        ⟨⟨Nat.le_refl _, hout⟩, m1, ns', L', ⟨hA', hO', hR⟩, hL⟩ ⟨rfl, by simp only; rw [show lo - (lo.toNat : Int) = 0 by omega]; rfl, trivial⟩ ?_
      clear hL hR hA' hO' hout
      rintro ⟨k, out⟩ w f ⟨⟨hk, hout⟩, m1, ns', L', ⟨hA', hO', hR⟩, hL⟩
      simp only at hk hout hR
      conv => whnf
      repeat ((first | refine zT ?_ | refine zF ?_ | refine zL hX hL ?_ | refine zB hX hL ?_ | (refine zS hX hL ?_; clear hL; intro w hL) | refine zI ?_ | refine zG hX ?_ | refine zO ?_); conv => whnf)
      refine BrReq.dec (fun hlt => ?_) (fun hlt => ?_)
      · simp only at hlt
        obtain ⟨k', rfl⟩ : ∃ k', k = k' + 1 := ⟨k - 1, by omega⟩
        rw [repN] at hR
        have hct := okB_cat hO' hx hout
        conv => whnf
        repeat ((first | refine zT ?_ | refine zF ?_ | refine zL hX hL ?_ | refine zB hX hL ?_ | (refine zS hX hL ?_; clear hL; intro w hL) | refine zI ?_ | refine zG hX ?_ | refine zO ?_); conv => whnf)
        refine CallReq.mk (L1 := L') (L2 := [_, _]) (CatF_fn ab (x.toNat + 1) m1 ns' L' hA' hO' x out hx hout (fun _ => Nat.lt_succ_self _) (by omega)) (Loc.back (L1 := [_, _]) hL) ?_
        clear hL
        rintro u m2 Lb w hL hm2 ⟨rfl, hA4⟩
        have hL := Loc.back (L1 := Lb) (L2 := [_, _]) hL
        rw [show catF (x.toNat + 1) ns' x out = catN ns' x out from rfl] at hA4 ⊢
        generalize catN ns' x out = ct at hA4 hct hR ⊢
        conv => whnf
        repeat ((first | (refine ArReq.i64 (by simp only; omega) (by simp only; omega) ?_) | refine zT ?_ | refine zF ?_ | refine zL hX hL ?_ | refine zB hX hL ?_ | (refine zS hX hL ?_; clear hL; intro w hL) | refine zI ?_ | refine zG hX ?_ | refine zO ?_); conv => whnf)
        refine ⟨(k', ct.2), ⟨⟨by simp only; omega, hct.2⟩, m2, ct.1, Lb, ⟨hA4, hct.1, hR⟩, hL⟩, by first | omega | (simp only; omega) | (simp only [List.length_cons, List.length_append]; omega), ?_, ?_⟩
        · repeat (first | exact trivial | (refine And.intro (by (conv => lhs; whnf) <;> (conv => rhs; whnf) <;> (first | rfl | ((congr 1; simp only; omega)))) ?_))
        · repeat (first | exact trivial | (refine And.intro (by (conv => lhs; whnf) <;> (conv => rhs; whnf) <;> (first | rfl | ((congr 1; simp only; omega)))) ?_))
      · simp only at hlt
        have hk0 : k = 0 := by omega
        subst hk0
        have hR : (ns', out) = R := hR
        subst hR
        conv => whnf
        repeat ((first | refine zT ?_ | refine zF ?_ | refine zL hX hL ?_ | refine zB hX hL ?_ | (refine zS hX hL ?_; clear hL; intro w hL) | refine zI ?_ | refine zG hX ?_ | refine zO ?_); conv => whnf)
        exact RetReq.mk (hL.sublist (.cons _ (List.Sublist.refl _))) ⟨rfl, L', rfl, hA'⟩
  · rw [if_neg hneg] at hst
    rw [if_neg hneg]
    conv => whnf
    repeat ((first | refine BrReq.no hneg ?_ | refine zT ?_ | refine zF ?_ | refine zL hX hL ?_ | refine zB hX hL ?_ | (refine zS hX hL ?_; clear hL; intro w hL) | refine zI ?_ | refine zG hX ?_ | refine zO ?_); conv => whnf)
    generalize hR : repN x lo.toNat (optN x (hi - lo).toNat ns2 out).1 (optN x (hi - lo).toNat ns2 out).2 = R
    refine LoopReq.inv hX (fun s : Nat × Int × Int => [(6, .int .i64 s.2.2), (7, .int .i64 s.2.1)]) [0, 3, 5]
      (fun s w => (s.1 = (hi - s.2.1).toNat ∧ (0 ≤ s.2.1 ∧ s.2.1 ≤ 1000) ∧ i64 s.2.2) ∧ ∃ m1 ns' L', (Mem.Le m m1 ∧ Ar ab ns' L' ∧ OkA ns' ∧ repN x lo.toNat (optN x s.1 ns' s.2.2).1 (optN x s.1 ns' s.2.2).2 = R) ∧ Ev.Loc m S0 w0 m1 ((b3, .cells (toArr (reC kd s0 s1 s2 s3 (.slice A n c) lo hi neg)) 30 (0, 0)) :: (bb, boO ab lv e1) :: L') w) (fun s => s.1) ((hi - lo).toNat, lo, out)
      ⟨⟨rfl, hlo, hout⟩, m1, ns2, L3, ⟨hm1, hA3, hok2, hR⟩, hL⟩ ⟨rfl, rfl, trivial⟩ ?_
    clear hL hR hA3
    rintro ⟨k, i, out⟩ w f ⟨⟨hk, hir, hout⟩, m1, ns', L', ⟨hm1, hA', hO', hR⟩, hL⟩
    simp only at hk hir hout hR
    conv => whnf
    repeat ((first | refine zT ?_ | refine zF ?_ | refine zL hX hL ?_ | refine zB hX hL ?_ | (refine zS hX hL ?_; clear hL; intro w hL) | refine zI ?_ | refine zG hX ?_ | refine zO ?_); conv => whnf)
    refine BrReq.dec (fun hlt => ?_) (fun hlt => ?_)
    · simp only at hlt
      obtain ⟨k', rfl⟩ : ∃ k', k = k' + 1 := ⟨k - 1, by omega⟩
      rw [optN] at hR
      conv => whnf
      repeat ((first | refine zT ?_ | refine zF ?_ | refine zL hX hL ?_ | refine zB hX hL ?_ | (refine zS hX hL ?_; clear hL; intro w hL) | refine zI ?_ | refine zG hX ?_ | refine zO ?_); conv => whnf)
      refine DrawReq.plan hX (.fst 0 (.fst 1 (.fst 2 (.fst 3 (.fst 4 (.fst 5 (.fst 6 (.fst 7 (.fst 9 (.fst 10 (.fst 11 (.fst 12 (.fst 13 (.fst 14 (.alt 8 (.alt 15 (.alt 16 (.alt 17 (.fst 18 (.done)) (.stop)) (.stop)) (.stop)) (.stop)))))))))))))))) [(bb, boO ab lv e1)] (by kernel_rfl) (by kernel_rfl) hL (fun h => h.one 1 rfl) ?_
      clear hL
      intro w hL
      have hem := okB_empty hO'
      have hct := okB_cat hem.1 hx hout
      have hor := okB_or hct.1 false [(emptyN ns').2, (catN (emptyN ns').1 x out).2]
      conv => whnf
      repeat ((first | refine zQ hX ?_ | refine zR hX ?_ | refine zA ?_ | refine zT ?_ | refine zF ?_ | refine zL hX hL ?_ | refine zB hX hL ?_ | (refine zS hX hL ?_; clear hL; intro w hL) | refine zI ?_ | refine zG hX ?_ | refine zO ?_); conv => whnf)
      refine CallReq.mk (L1 := L') (L2 := [_, _]) (Empty_fn m1 ab ns' L' hA' hO') (Loc.back (L1 := [_, _]) hL) ?_
      clear hL
      rintro u mx La w hL - ⟨hmx, rfl, hA3⟩
      rw [hmx] at hL
      clear hmx mx
      have hL := Loc.back (L1 := La) (L2 := [_, _]) hL
      rw [show putI ns' (ndK 1) = (emptyN ns').2 from rfl]
      change Ar ab (emptyN ns').1 La at hA3
      refine SReq.mk (hL.one 1 rfl) ?_
      conv => whnf
      repeat ((first | refine zQ hX ?_ | refine zR hX ?_ | refine zA ?_ | refine zT ?_ | refine zF ?_ | refine zL hX hL ?_ | refine zB hX hL ?_ | (refine zS hX hL ?_; clear hL; intro w hL) | refine zI ?_ | refine zG hX ?_ | refine zO ?_); conv => whnf)
      generalize emptyN ns' = em at hA3 hem hct hor hR ⊢
      refine CallReq.mk (L1 := La) (L2 := [_, _]) (CatF_fn ab (x.toNat + 1) m1 em.1 La hA3 hem.1 x out hx hout (fun _ => Nat.lt_succ_self _) (by omega)) (Loc.back (L1 := [_, _]) hL) ?_
      clear hL
      rintro u m2 Lb w hL hm2 ⟨rfl, hA4⟩
      have hL := Loc.back (L1 := Lb) (L2 := [_, _]) hL
      refine SReq.mk ((hL.one 1 rfl).weaken hm2 hm1) ?_
      conv => whnf
      repeat ((first | refine zQ hX ?_ | refine zR hX ?_ | refine zA ?_ | refine zT ?_ | refine zF ?_ | refine zL hX hL ?_ | refine zB hX hL ?_ | (refine zS hX hL ?_; clear hL; intro w hL) | refine zI ?_ | refine zG hX ?_ | refine zO ?_); conv => whnf)
      rw [show catF (x.toNat + 1) em.1 x out = catN em.1 x out from rfl] at hA4 ⊢
      generalize catN em.1 x out = ct at hA4 hct hor hR ⊢
      refine NewReq.mk hL ?_
      clear hL
      intro g w hL
      conv => whnf
      refine SReq.mk ((hL.one 2 rfl).weaken hm2 hm1) ?_
      obtain ⟨m3, hL1, hm3, hs3⟩ := there_row (l := [em.2, ct.2]) hL (by simp)
      clear hL
      have hL := hL1
      clear hL1
      conv => whnf
      repeat ((first | refine zQ hX ?_ | refine zR hX ?_ | refine zA ?_ | refine zT ?_ | refine zF ?_ | refine zL hX hL ?_ | refine zB hX hL ?_ | (refine zS hX hL ?_; clear hL; intro w hL) | refine zI ?_ | refine zG hX ?_ | refine zO ?_); conv => whnf)
      refine CallReq.mk (L1 := Lb) (L2 := [_, _]) (OrG_fn m3 ab ct.1 Lb hA4 hct.1 _ [em.2, ct.2] hs3 (by simp)) (Loc.back (L1 := [_, _]) hL) ?_
      clear hL
      rintro u m4 Lc w hL hm4 ⟨rfl, hA5⟩
      have hL := Loc.back (L1 := Lc) (L2 := [_, _]) hL
      refine SReq.mk ((hL.one 1 rfl).weaken ((hm2.trans hm3).trans hm4) hm1) ?_
      rw [show gputN false ct.1 [em.2, ct.2] = orN ct.1 [em.2, ct.2] from rfl] at hA5 hor ⊢
      generalize orN ct.1 [em.2, ct.2] = o at hA5 hor hR ⊢
      conv => whnf
      repeat ((first | (refine ArReq.i64 (by simp only; omega) (by simp only; omega) ?_) | refine zQ hX ?_ | refine zR hX ?_ | refine zA ?_ | refine zT ?_ | refine zF ?_ | refine zL hX hL ?_ | refine zB hX hL ?_ | (refine zS hX hL ?_; clear hL; intro w hL) | refine zI ?_ | refine zG hX ?_ | refine zO ?_); conv => whnf)
      refine ⟨(k', i + 1, o.2), ⟨⟨by simp only; omega, by simp only; omega, hor.2⟩, m4, o.1, Lc, ⟨((hm1.trans hm2).trans hm3).trans hm4, hA5, hor.1, hR⟩, hL⟩, by first | omega | (simp only; omega) | (simp only [List.length_cons, List.length_append]; omega), ?_, ?_⟩
      · repeat (first | exact trivial | (refine And.intro (by (conv => lhs; whnf) <;> (conv => rhs; whnf) <;> (first | rfl)) ?_))
      · repeat (first | exact trivial | (refine And.intro (by (conv => lhs; whnf) <;> (conv => rhs; whnf) <;> (first | rfl)) ?_))
    · simp only at hlt
      have hk0 : k = 0 := by omega
      subst hk0
      rw [show optN x 0 ns' out = (ns', out) from rfl] at hR
      simp only at hR
      conv => whnf
      repeat ((first | refine zT ?_ | refine zF ?_ | refine zL hX hL ?_ | refine zB hX hL ?_ | (refine zS hX hL ?_; clear hL; intro w hL) | refine zI ?_ | refine zG hX ?_ | refine zO ?_); conv => whnf)
      refine LoopReq.inv hX (fun s : Nat × Int => [(6, .int .i64 s.2), (56, .int .i64 (lo - s.1))]) [0, 5, 55]
        (fun s w => (s.1 ≤ lo.toNat ∧ i64 s.2) ∧ ∃ m1 ns' L', (Ar ab ns' L' ∧ OkA ns' ∧ repN x s.1 ns' s.2 = R) ∧ Ev.Loc m S0 w0 m1 ((b3, .cells (toArr (reC kd s0 s1 s2 s3 (.slice A n c) lo hi neg)) 30 (0, 0)) :: (bb, boO ab lv e1) :: L') w) (fun s => s.1) (lo.toNat, out)
        ⟨⟨Nat.le_refl _, hout⟩, m1, ns', L', ⟨hA', hO', hR⟩, hL⟩ ⟨rfl, by simp only; rw [show lo - (lo.toNat : Int) = 0 by omega]; rfl, trivial⟩ ?_
      clear hL hR hA' hO' hout
      rintro ⟨k, out⟩ w f ⟨⟨hk, hout⟩, m1, ns', L', ⟨hA', hO', hR⟩, hL⟩
      simp only at hk hout hR
      conv => whnf
      repeat ((first | refine zT ?_ | refine zF ?_ | refine zL hX hL ?_ | refine zB hX hL ?_ | (refine zS hX hL ?_; clear hL; intro w hL) | refine zI ?_ | refine zG hX ?_ | refine zO ?_); conv => whnf)
      refine BrReq.dec (fun hlt => ?_) (fun hlt => ?_)
      · simp only at hlt
        obtain ⟨k', rfl⟩ : ∃ k', k = k' + 1 := ⟨k - 1, by omega⟩
        rw [repN] at hR
        have hct := okB_cat hO' hx hout
        conv => whnf
        repeat ((first | refine zT ?_ | refine zF ?_ | refine zL hX hL ?_ | refine zB hX hL ?_ | (refine zS hX hL ?_; clear hL; intro w hL) | refine zI ?_ | refine zG hX ?_ | refine zO ?_); conv => whnf)
        refine CallReq.mk (L1 := L') (L2 := [_, _]) (CatF_fn ab (x.toNat + 1) m1 ns' L' hA' hO' x out hx hout (fun _ => Nat.lt_succ_self _) (by omega)) (Loc.back (L1 := [_, _]) hL) ?_
        clear hL
        rintro u m2 Lb w hL hm2 ⟨rfl, hA4⟩
        have hL := Loc.back (L1 := Lb) (L2 := [_, _]) hL
        rw [show catF (x.toNat + 1) ns' x out = catN ns' x out from rfl] at hA4 ⊢
        generalize catN ns' x out = ct at hA4 hct hR ⊢
        conv => whnf
        repeat ((first | (refine ArReq.i64 (by simp only; omega) (by simp only; omega) ?_) | refine zT ?_ | refine zF ?_ | refine zL hX hL ?_ | refine zB hX hL ?_ | (refine zS hX hL ?_; clear hL; intro w hL) | refine zI ?_ | refine zG hX ?_ | refine zO ?_); conv => whnf)
        refine ⟨(k', ct.2), ⟨⟨by simp only; omega, hct.2⟩, m2, ct.1, Lb, ⟨hA4, hct.1, hR⟩, hL⟩, by first | omega | (simp only; omega) | (simp only [List.length_cons, List.length_append]; omega), ?_, ?_⟩
        · repeat (first | exact trivial | (refine And.intro (by (conv => lhs; whnf) <;> (conv => rhs; whnf) <;> (first | rfl | ((congr 1; simp only; omega)))) ?_))
        · repeat (first | exact trivial | (refine And.intro (by (conv => lhs; whnf) <;> (conv => rhs; whnf) <;> (first | rfl | ((congr 1; simp only; omega)))) ?_))
      · simp only at hlt
        have hk0 : k = 0 := by omega
        subst hk0
        have hR : (ns', out) = R := hR
        subst hR
        conv => whnf
        repeat ((first | refine zT ?_ | refine zF ?_ | refine zL hX hL ?_ | refine zB hX hL ?_ | (refine zS hX hL ?_; clear hL; intro w hL) | refine zI ?_ | refine zG hX ?_ | refine zO ?_); conv => whnf)
        exact RetReq.mk (hL.sublist (.cons _ (List.Sublist.refl _))) ⟨rfl, L', rfl, hA'⟩
theorem run_eq_nilFunc {P : Program} {t : Nat} {a b : Array TypeId} {c : Bool} (hu : P.underlying t = some (.func a b c)) (v : Value) (r : Bool) (hv : v = .nilFunc ∧ r = true ∨ (∃ f x y, v = .func f x y) ∧ r = false) (w : World) : (Op.equal t v .nilFunc).run P w = .ok r w := by
  have h : ∀ d : Nat, (Op.equalIn (d + 1) t v .nilFunc).run P w = .ok r w := fun d => by
    rcases hv with ⟨rfl, rfl⟩ | ⟨⟨f, x, y, rfl⟩, rfl⟩ <;> simp [Op.equalIn, run_underlying hu]
  exact h 9999
theorem UGenReq.nilFuncNe {P : Program} {o : Oper} {ρ : Operand → Value} {t yt : Nat} {x y : Operand} {a b : Array TypeId} {c : Bool} {v : Value} {K : Value → Prop} (ho : o.op = .binOp .neq t x y yt) (hx : ρ x = v) (hy : ρ y = .nilFunc)
    (hu : P.underlying t = some (.func a b c)) (r : Bool) (hv : v = .nilFunc ∧ r = true ∨ (∃ f x y, v = .func f x y) ∧ r = false) (h : K (.bool (!r))) : UGenReq P o ρ K := by
  have hex : execOp ρ o = (do pure (.value (← (do eqGuard .neq t x y v .nilFunc; binOp .neq t v .nilFunc : Sem Value)))) := by
    simp only [execOp, ho, hx, hy]
  have hg : eqGuard .neq t x y v .nilFunc = pure () := by
    rcases hv with ⟨rfl, -⟩ | ⟨⟨f, p, q, rfl⟩, -⟩ <;> simp [eqGuard]
  refine ⟨UOk.of_run (.bool (!r)) hex (fun w => ?_) h⟩
  rw [hg]
  simp only [Sem.run_bind, Sem.run_pure, Result.andThen_ok, binOp, run_eq_nilFunc hu v r hv]
theorem QLdReq.toldA {P : Program} {X : Tab} (hX : TabsOk P X) {t : Nat} {ti : TI} (ht : Ev.look X.T t = some (some ti)) (hd : ti.d.isAgg = true) {a : Addr} {vs : List Value} {T : World → Prop} {K : Value → Prop} (hl : vs.length = ti.size) (hv : ∀ w, T w → ∀ (j : Nat) (v : Value), vs[j]? = some v → w.cell? (a.add j) = some v) (h : K (.agg (toArr vs))) :
    QLdReq P t T a K := ⟨_, fun w hw => run_loadVar_agg (hX.t _ _ ht) hd hl (fun j v hj => hv w hw j v hj), h⟩
def TB (m : Mem) (S : List Nat) (w0 : World) (b3 bb ab : Nat) (lv : Value) (rc : List Value) (w : World) : Prop := ∃ e, Ev.Loc m S w0 m [(b3, .cells (toArr rc) 30 (0, 0)), (bb, boO ab lv e)] w
theorem TB.ab {m : Mem} {S : List Nat} {w0 : World} {b3 bb ab : Nat} {lv : Value} {rc : List Value} (w : World) (h : TB m S w0 b3 bb ab lv rc w) : w.cell? ⟨bb, 0, none⟩ = some (.pointer (some ⟨ab, 0, none⟩)) := by
  obtain ⟨e, h⟩ := h
  rw [h.ownCell (b := bb) (List.mem_cons_of_mem _ List.mem_cons_self)]; rfl
theorem TB.parts {m : Mem} {S : List Nat} {w0 : World} {b3 bb ab : Nat} {lv : Value} {k s0 s1 s2 s3 lo hi : Int} {v : Value} {neg : Bool} (w : World) (h : TB m S w0 b3 bb ab lv (reC k s0 s1 s2 s3 v lo hi neg) w) : w.cell? ((⟨b3, 0, none⟩ : Addr).add 5) = some v := by
  obtain ⟨e, h⟩ := h
  rw [addr_add, h.ownCell (b := b3) List.mem_cons_self]; rfl
theorem TB.of {m m' : Mem} {S : List Nat} {w0 : World} {b3 bb ab : Nat} {lv : Value} {rc : List Value} {e : Int} {L : Own} {w : World} (h : Ev.Loc m S w0 m' ((b3, .cells (toArr rc) 30 (0, 0)) :: (bb, boO ab lv e) :: L) w) (hm : Mem.Le m m') : TB m S w0 b3 bb ab lv rc w :=
  ⟨e, (h.sublist (.cons_cons _ (.cons_cons _ (List.nil_sublist _)))).weaken hm (Mem.Le.refl _)⟩
def Lkd (lk : Re → Int) (lv : Value) (m0 : Mem) (r : Re) : Prop := ∀ (m : Mem) (ab bb : Nat) (ns : List Nd) (L : Own) (e k s0 s1 s2 s3 lo hi : Int) (neg : Bool) (A : Option Addr) (n c : Nat), Mem.Le m0 m → RepRe m (reC k s0 s1 s2 s3 (.slice A n c) lo hi neg) r → Ar ab ns L → OkA ns →
  Ev.Fn Tryz.prog 85 [.pointer (some ⟨bb, 0, none⟩), .agg (toArr (reC k s0 s1 s2 s3 (.slice A n c) lo hi neg))] m ((bb, boO ab lv e) :: L)
    (BQ ab bb lv (lookedN ns e (lk (.mk k s0 s1 s2 s3 r.parts lo hi false)) neg))
set_option maxHeartbeats 4000000 in
theorem build_fn (lk : Re → Int) (lv : Value) (hlv : lv.oneCell' = true) (m0 : Mem) (r : Re) (hlk : ∀ q : Re, InRe q → Lkd lk lv m0 q) : allR r = true → sizeR r ≤ 1000 → InRe r → Bld lk lv m0 r := by
  induction r using Re.ind with
  | h k s0 s1 s2 s3 rs lo hi neg ih =>
  intro hall hsz hin m ab bb ns L e cs hm0 hrep hA hO
  obtain ⟨A, n, c, rfl, hs, hrng⟩ := hrep.open
  have hsS : InS ⟨s0, s1, s2, s3⟩ := by cases hin; assumption
  have hpi : ∀ p ∈ rs, InRe p := by cases hin; assumption
  have hlk := hlk (.mk k s0 s1 s2 s3 rs lo hi neg) hin m ab bb ns L e k s0 s1 s2 s3 lo hi neg A n c hm0 hrep hA hO
  simp only [allR, Bool.and_eq_true, decide_eq_true_eq] at hall
  obtain ⟨hOw, hall⟩ := hall
  rw [allL_eq, List.all_eq_true] at hall
  have hszL : sizeL rs ≤ 1000 ∧ ∀ p ∈ rs, sizeR p ≤ 1000 := by
    have hc : capR k lo hi (sizeL rs) ≤ 1000 := hsz
    have h1 : sizeL rs ≤ 1000 := by
      unfold capR at hc
      split at hc <;> omega
    refine ⟨h1, fun p hp => ?_⟩
    obtain ⟨i, hi, rfl⟩ := List.getElem_of_mem hp
    have h2 := sizeL_take_le rs (i + 1)
    rw [sizeL_take_succ rs i hi] at h2
    omega
  have hlen : rs.length ≤ 1000 := by
    have : ∀ l : List Re, l.length ≤ sizeL l := fun l => by
      induction l with
      | nil => simp
      | cons p l ih =>
        have : 1 ≤ sizeR p := by
          obtain ⟨k, s0, s1, s2, s3, rs, lo, hi, neg⟩ := p
          simp only [sizeR]
          have := timesR_pos k lo hi
          unfold capR
          split
          · omega
          · have : 0 ≤ (sizeL rs : Int) * timesR k lo hi := Int.mul_nonneg (by omega) (by omega)
            omega
        simp only [sizeL, List.length_cons]; omega
    have := this rs
    omega
  have hb : ∀ p ∈ rs, Bld lk lv m0 p := fun p hp => ih p hp (hall p hp) (hszL.2 p hp) (hpi p hp)
  clear ih
  obtain ⟨hOk, hOp, -, -, hO7, -⟩ := hOw
  have hn1 : n = rs.length := by obtain ⟨_, _, _, h1, h2, -⟩ := hs; cases h1; exact h2
  have hsl := fun m' (hm' : Mem.Le m m') => (hs.le hm' fun _ _ _ h => RepRe.le hm' h : Sl m' 9 (RepRe m') (.slice A n c) rs)
  rw [bR]
  refine Fn.enter (N := 105) hX Tryz.func55 rfl rfl (by show _ ≤ _; simp) (fun w0 hL => ?_)
  conv => whnf
  generalize keys ((bb, boO ab lv e) :: L) = S0 at hL ⊢
  refine NewReq.mk hL ?_
  clear hL
  intro b3 w hL
  conv => whnf
  replace hL : Ev.Loc m S0 w0 m ((b3, .cells (toArr (reC k s0 s1 s2 s3 (.slice A n c) lo hi neg)) 30 (0, 0)) :: (bb, boO ab lv e) :: L) w := hL
  by_cases k0 : k = 0
  · subst k0
    rw [if_pos rfl]
    conv => whnf
    repeat ((first | refine zT ?_ | refine zF ?_ | refine zL hX hL ?_ | refine zB hX hL ?_ | (refine zS hX hL ?_; clear hL; intro w hL) | refine zI ?_ | refine zG hX ?_ | refine zO ?_); conv => whnf)
    refine CallReq.mk (L1 := L) (L2 := [_, _]) (None_fn m ab ns L hA hO) (Loc.back (L1 := [_, _]) hL) ?_
    clear hL
    rintro u mx L2 w hL - ⟨hmx, rfl, hA2⟩
    rw [hmx] at hL
    clear hmx mx
    have hL := Loc.back (L1 := L2) (L2 := [_, _]) hL
    conv => whnf
    repeat ((first | refine zT ?_ | refine zF ?_ | refine zL hX hL ?_ | refine zB hX hL ?_ | (refine zS hX hL ?_; clear hL; intro w hL) | refine zI ?_ | refine zG hX ?_ | refine zO ?_); conv => whnf)
    exact RetReq.mk hL.drop ⟨rfl, L2, rfl, hA2⟩
  rw [if_neg k0]
  by_cases k1 : k = 1
  · subst k1
    rw [if_pos rfl]
    conv => whnf
    repeat ((first | refine zT ?_ | refine zF ?_ | refine zL hX hL ?_ | refine zB hX hL ?_ | (refine zS hX hL ?_; clear hL; intro w hL) | refine zI ?_ | refine zG hX ?_ | refine zO ?_); conv => whnf)
    refine CallReq.mk (L1 := L) (L2 := [_, _]) (Empty_fn m ab ns L hA hO) (Loc.back (L1 := [_, _]) hL) ?_
    clear hL
    rintro u mx L2 w hL - ⟨hmx, rfl, hA2⟩
    rw [hmx] at hL
    clear hmx mx
    have hL := Loc.back (L1 := L2) (L2 := [_, _]) hL
    conv => whnf
    repeat ((first | refine zT ?_ | refine zF ?_ | refine zL hX hL ?_ | refine zB hX hL ?_ | (refine zS hX hL ?_; clear hL; intro w hL) | refine zI ?_ | refine zG hX ?_ | refine zO ?_); conv => whnf)
    exact RetReq.mk hL.drop ⟨rfl, L2, rfl, hA2⟩
  rw [if_neg k1]
  by_cases k2 : k = 2
  · subst k2
    rw [if_pos rfl]
    conv => whnf
    repeat ((first | refine zT ?_ | refine zF ?_ | refine zL hX hL ?_ | refine zB hX hL ?_ | (refine zS hX hL ?_; clear hL; intro w hL) | refine zI ?_ | refine zG hX ?_ | refine zO ?_); conv => whnf)
    refine DrawReq.plan hX (.fst 0 (.fst 1 (.fst 2 (.fst 3 (.fst 4 (.fst 5 (.alt 6 (.fst 7 (.done)) (.stop)))))))) [(b3, .cells (toArr (reC 2 s0 s1 s2 s3 (.slice A n c) lo hi neg)) 30 (0, 0)), (bb, boO ab lv e)] (by kernel_rfl) (by kernel_rfl) hL (fun h => h.sublist (.cons_cons _ (.cons_cons _ (List.nil_sublist _)))) ?_
    clear hL
    intro w hL
    conv => whnf
    repeat ((first | refine zQ hX ?_ | refine zR hX ?_ | refine zA ?_ | refine zT ?_ | refine zF ?_ | refine zL hX hL ?_ | refine zB hX hL ?_ | (refine zS hX hL ?_; clear hL; intro w hL) | refine zI ?_ | refine zG hX ?_ | refine zO ?_); conv => whnf)
    refine CallReq.mk (L1 := L) (L2 := [_, _]) (Bytes_fn m ab ns L hA hO ⟨s0, s1, s2, s3⟩ hsS) (Loc.back (L1 := [_, _]) hL) ?_
    clear hL
    rintro u mx L2 w hL - ⟨hmx, rfl, hA2⟩
    rw [hmx] at hL
    clear hmx mx
    have hL := Loc.back (L1 := L2) (L2 := [_, _]) hL
    refine SReq.mk (hL.sublist (.cons_cons _ (.cons_cons _ (List.nil_sublist _)))) ?_
    conv => whnf
    repeat ((first | refine zQ hX ?_ | refine zR hX ?_ | refine zA ?_ | refine zT ?_ | refine zF ?_ | refine zL hX hL ?_ | refine zB hX hL ?_ | (refine zS hX hL ?_; clear hL; intro w hL) | refine zI ?_ | refine zG hX ?_ | refine zO ?_); conv => whnf)
    exact RetReq.mk hL.drop ⟨rfl, L2, rfl, hA2⟩
  rw [if_neg k2]
  by_cases k3 : k = 3
  · subst k3
    rw [if_pos rfl]
    conv => whnf
    repeat ((first | refine zT ?_ | refine zF ?_ | refine zL hX hL ?_ | refine zB hX hL ?_ | (refine zS hX hL ?_; clear hL; intro w hL) | refine zI ?_ | refine zG hX ?_ | refine zO ?_); conv => whnf)
    refine CallReq.mk (L1 := L) (L2 := [_, _]) (Empty_fn m ab ns L hA hO) (Loc.back (L1 := [_, _]) hL) ?_
    clear hL
    rintro u mx L2 w hL - ⟨hmx, rfl, hA2⟩
    rw [hmx] at hL
    clear hmx mx
    have hL := Loc.back (L1 := L2) (L2 := [_, _]) hL
    rw [show putI ns (ndK 1) = (emptyN ns).2 from rfl]
    change Ar ab (emptyN ns).1 L2 at hA2
    have hem := okB_empty hO
    generalize emptyN ns = em at hA2 hem ⊢
    replace hL : Ev.Loc m S0 w0 m ((b3, .cells (toArr (reC 3 s0 s1 s2 s3 (.slice A n c) lo hi neg)) 30 (0, 0)) :: (bb, boO ab lv e) :: L2) w := hL
    clear hA
    conv => whnf
    repeat ((first | refine zT ?_ | refine zF ?_ | refine zL hX hL ?_ | refine zB hX hL ?_ | (refine zS hX hL ?_; clear hL; intro w hL) | refine zI ?_ | refine zG hX ?_ | refine zO ?_); conv => whnf)
    refine CallReq.mk (L1 := (bb, boO ab lv e) :: L2) (L2 := [_]) (all_fn lk lv hlv m0 rs hb hpi hlen m ab bb em.1 L2 e _ hm0 hs hA2 hem.1) (Loc.back (L1 := [_]) hL) ?_
    clear hL
    rintro u m1 Lx w hL hm1 ⟨-, Lo, L3, rfl, hA3, ho⟩
    have hok := okB_L lk rs hpi em.1 e hem.1
    have hln := bL_len lk rs em.1 e
    generalize bL lk rs em.1 e = q at hA3 ho hL hok hln ⊢
    obtain ⟨A1, n2, c1, rfl, hn2⟩ := ho.slice
    rw [List.append_assoc] at hL
    obtain ⟨m2, hL1, hm2, hsl⟩ := OwnS.freeze ho hL
    clear hL ho
    have hL := Loc.back (L1 := (bb, boO ab lv q.1.2) :: L3) (L2 := [_]) hL1
    clear hL1
    replace hL : Ev.Loc m S0 w0 m2 ((b3, .cells (toArr (reC 3 s0 s1 s2 s3 (.slice A n c) lo hi neg)) 30 (0, 0)) :: (bb, boO ab lv q.1.2) :: L3) w := hL
    obtain ⟨hq2, hcl⟩ := hsl.cell
    dsimp only
    generalize hR : catsN q.1.1 q.2.reverse em.2 = R
    have hmx : maxLen = 9223372036854775807 := rfl
    conv => whnf
    repeat ((first | refine zT ?_ | refine zF ?_ | refine zL hX hL ?_ | refine zB hX hL ?_ | (refine zS hX hL ?_; clear hL; intro w hL) | refine zI ?_ | refine zG hX ?_ | refine zO ?_); conv => whnf)
    refine LoopReq.inv hX (fun s : Nat × Int × Int => [(5, .int .i64 s.2.1), (7, .int .i64 s.2.2)]) [0, 6]
      (fun s w => (s.1 ≤ q.2.length ∧ i64 s.2.1 ∧ s.2.2 = (s.1 : Int) - 1) ∧ ∃ m3 ns' L', (Mem.Le m2 m3 ∧ Ar ab ns' L' ∧ OkA ns' ∧ catsN ns' (q.2.take s.1).reverse s.2.1 = R) ∧ Ev.Loc m S0 w0 m3 ((b3, .cells (toArr (reC 3 s0 s1 s2 s3 (.slice A n c) lo hi neg)) 30 (0, 0)) :: (bb, boO ab lv q.1.2) :: L') w) (fun s => s.1) (q.2.length, em.2, (n2 : Int) - 1)
      ⟨⟨Nat.le_refl _, hem.2, by simp only; omega⟩, m2, q.1.1, L3, ⟨Mem.Le.refl m2, hA3, hok.1, by rw [List.take_length]; exact hR⟩, hL⟩ ⟨rfl, rfl, trivial⟩ ?_
    clear hL hR hA3
    rintro ⟨j, out, i⟩ w f ⟨⟨hj, hout, hi⟩, m3, ns', L', ⟨hm3, hA', hO', hR⟩, hL⟩
    simp only at hj hout hi hR
    conv => whnf
    repeat ((first | refine zT ?_ | refine zF ?_ | refine zL hX hL ?_ | refine zB hX hL ?_ | (refine zS hX hL ?_; clear hL; intro w hL) | refine zI ?_ | refine zG hX ?_ | refine zO ?_); conv => whnf)
    cases j with
    | zero =>
      refine BrReq.no (by simp only; omega) ?_
      conv => whnf
      repeat ((first | refine zT ?_ | refine zF ?_ | refine zL hX hL ?_ | refine zB hX hL ?_ | (refine zS hX hL ?_; clear hL; intro w hL) | refine zI ?_ | refine zG hX ?_ | refine zO ?_); conv => whnf)
      have hR : (ns', out) = R := hR
      subst hR
      exact RetReq.mk hL.drop ⟨rfl, L', rfl, hA'⟩
    | succ j =>
      refine BrReq.yes (by simp only; omega) ?_
      have hjl : j < q.2.length := by omega
      have hsl3 : SlI m3 .i64 (.slice A1 n2 c1) q.2 := hsl.le hm3 (fun _ _ _ h => h)
      obtain ⟨a, ea, hc3⟩ := hsl3.cell.2 j _ (List.getElem?_eq_getElem hjl)
      have hzi := hok.2 _ (List.getElem_mem hjl)
      rw [List.take_succ_eq_append_getElem hjl, List.reverse_append] at hR
      generalize q.2[j] = z at hc3 hzi hR
      replace hR : catsN (catN ns' z out).1 (q.2.take j).reverse (catN ns' z out).2 = R := hR
      have hct := okB_cat hO' hzi hout
      conv => whnf
      repeat ((first | refine zT ?_ | refine zF ?_ | refine zL hX hL ?_ | refine zB hX hL ?_ | (refine zS hX hL ?_; clear hL; intro w hL) | refine zI ?_ | refine zG hX ?_ | refine zO ?_); conv => whnf)
      refine DrawReq.plan hX (.fst 0 (.fst 1 (.fst 2 (.fst 3 (.fst 4 (.fst 5 (.fst 6 (.fst 7 (.fst 8 (.alt 9 (.fst 10 (.done)) (.stop))))))))))) [(bb, boO ab lv q.1.2)] (by kernel_rfl) (by kernel_rfl) hL (fun h => h.one 1 rfl) ?_
      clear hL
      intro w hL
      conv => whnf
      repeat ((first | (refine Idx2Req.mk j a (by simp only; omega) (by omega) ea ?_) | refine LdReq.one hX rfl rfl hL hc3 ?_ | refine QLdReq.one hX rfl rfl hc3 ?_ | refine zQ hX ?_ | refine zR hX ?_ | refine zA ?_ | refine zT ?_ | refine zF ?_ | refine zL hX hL ?_ | refine zB hX hL ?_ | (refine zS hX hL ?_; clear hL; intro w hL) | refine zI ?_ | refine zG hX ?_ | refine zO ?_); conv => whnf)
      refine CallReq.mk (L1 := L') (L2 := [_, _]) (CatF_fn ab (z.toNat + 1) m3 ns' L' hA' hO' z out hzi hout (fun _ => Nat.lt_succ_self _) (by omega)) (Loc.back (L1 := [_, _]) hL) ?_
      clear hL
      rintro u m4 Lb w hL hm4 ⟨rfl, hA4⟩
      have hL := Loc.back (L1 := Lb) (L2 := [_, _]) hL
      rw [show catF (z.toNat + 1) ns' z out = catN ns' z out from rfl] at hA4 ⊢
      generalize catN ns' z out = ct at hA4 hct hR ⊢
      refine SReq.mk ((hL.one 1 rfl).weaken hm4 (hm1.trans (hm2.trans hm3))) ?_
      conv => whnf
      repeat ((first | (refine ArReq.i64 (by simp only; omega) (by simp only; omega) ?_) | refine zQ hX ?_ | refine zR hX ?_ | refine zA ?_ | refine zT ?_ | refine zF ?_ | refine zL hX hL ?_ | refine zB hX hL ?_ | (refine zS hX hL ?_; clear hL; intro w hL) | refine zI ?_ | refine zG hX ?_ | refine zO ?_); conv => whnf)
      refine ⟨(j, ct.2, i - 1), ⟨⟨by simp only; omega, hct.2, by simp only; omega⟩, m4, ct.1, Lb, ⟨hm3.trans hm4, hA4, hct.1, hR⟩, hL⟩, by first | omega | (simp only; omega) | (simp only [List.length_cons, List.length_append]; omega), ?_, ?_⟩
      · repeat (first | exact trivial | (refine And.intro (by (conv => lhs; whnf) <;> (conv => rhs; whnf) <;> (first | rfl)) ?_))
      · repeat (first | exact trivial | (refine And.intro (by (conv => lhs; whnf) <;> (conv => rhs; whnf) <;> (first | rfl)) ?_))
  rw [if_neg k3]
  by_cases k4 : k = 4
  · subst k4
    rw [if_pos rfl]
    conv => whnf
    repeat ((first | refine zT ?_ | refine zF ?_ | refine zL hX hL ?_ | refine zB hX hL ?_ | (refine zS hX hL ?_; clear hL; intro w hL) | refine zI ?_ | refine zG hX ?_ | refine zO ?_); conv => whnf)
    refine DrawReq.planS hX (.fst 0 (.fst 1 (.fst 2 (.fst 3 (.fst 4 (.fst 5 (.fst 6 (.alt 7 (.alt 8 (.fst 9 (.done)) (.stop)) (.stop))))))))) (TB m S0 w0 b3 bb ab lv (reC 4 s0 s1 s2 s3 (.slice A n c) lo hi neg)) (by kernel_rfl) (by kernel_rfl) hL (fun w h => TB.of h (Mem.Le.refl _)) ?_
    clear hL
    intro w hL
    conv => whnf
    repeat ((first | refine QLdReq.told hX rfl rfl TB.ab ?_ | refine QLdReq.told hX rfl rfl TB.parts ?_ | refine zQ hX ?_ | refine zR hX ?_ | refine zA ?_ | refine zT ?_ | refine zF ?_ | refine zL hX hL ?_ | refine zB hX hL ?_ | (refine zS hX hL ?_; clear hL; intro w hL) | refine zI ?_ | refine zG hX ?_ | refine zO ?_); conv => whnf)
    refine CallReq.mk (L1 := (bb, boO ab lv e) :: L) (L2 := [_]) (all_fn lk lv hlv m0 rs hb hpi hlen m ab bb ns L e _ hm0 hs hA hO) (Loc.back (L1 := [_]) hL) ?_
    clear hL
    rintro u m1 Lx w hL hm1 ⟨-, Lo, L3, rfl, hA3, ho⟩
    have hok := okB_L lk rs hpi ns e hO
    have hln := bL_len lk rs ns e
    generalize bL lk rs ns e = q at hA3 ho hL hok hln ⊢
    obtain ⟨A1, n1, c1, rfl, hn1⟩ := ho.slice
    rw [List.append_assoc] at hL
    obtain ⟨m2, hL1, hm2, hsl⟩ := OwnS.freeze ho hL
    clear hL ho
    have hL := Loc.back (L1 := (bb, boO ab lv q.1.2) :: L3) (L2 := [_]) hL1
    clear hL1
    replace hL : Ev.Loc m S0 w0 m2 ((b3, .cells (toArr (reC 4 s0 s1 s2 s3 (.slice A n c) lo hi neg)) 30 (0, 0)) :: (bb, boO ab lv q.1.2) :: L3) w := hL
    refine SReq.mk (TB.of hL (hm1.trans hm2)) ?_
    dsimp only
    conv => whnf
    repeat ((first | refine zQ hX ?_ | refine zR hX ?_ | refine zA ?_ | refine zT ?_ | refine zF ?_ | refine zL hX hL ?_ | refine zB hX hL ?_ | (refine zS hX hL ?_; clear hL; intro w hL) | refine zI ?_ | refine zG hX ?_ | refine zO ?_); conv => whnf)
    refine CallReq.mk (L1 := L3) (L2 := [_, _]) (OrG_fn m2 ab q.1.1 L3 hA3 hok.1 _ q.2 hsl (by omega)) (Loc.back (L1 := [_, _]) hL) ?_
    clear hL
    rintro u m3 L4 w hL hm3 ⟨rfl, hA4⟩
    have hL := Loc.back (L1 := L4) (L2 := [_, _]) hL
    refine SReq.mk (TB.of hL ((hm1.trans hm2).trans hm3)) ?_
    conv => whnf
    repeat ((first | refine zQ hX ?_ | refine zR hX ?_ | refine zA ?_ | refine zT ?_ | refine zF ?_ | refine zL hX hL ?_ | refine zB hX hL ?_ | (refine zS hX hL ?_; clear hL; intro w hL) | refine zI ?_ | refine zG hX ?_ | refine zO ?_); conv => whnf)
    exact RetReq.mk hL.drop ⟨rfl, L4, rfl, hA4⟩
  rw [if_neg k4]
  by_cases k5 : k = 5
  · subst k5
    rw [if_pos rfl]
    conv => whnf
    repeat ((first | refine zT ?_ | refine zF ?_ | refine zL hX hL ?_ | refine zB hX hL ?_ | (refine zS hX hL ?_; clear hL; intro w hL) | refine zI ?_ | refine zG hX ?_ | refine zO ?_); conv => whnf)
    refine DrawReq.planS hX (.fst 0 (.fst 1 (.fst 2 (.fst 3 (.fst 4 (.fst 5 (.fst 6 (.alt 7 (.alt 8 (.fst 9 (.done)) (.stop)) (.stop))))))))) (TB m S0 w0 b3 bb ab lv (reC 5 s0 s1 s2 s3 (.slice A n c) lo hi neg)) (by kernel_rfl) (by kernel_rfl) hL (fun w h => TB.of h (Mem.Le.refl _)) ?_
    clear hL
    intro w hL
    conv => whnf
    repeat ((first | refine QLdReq.told hX rfl rfl TB.ab ?_ | refine QLdReq.told hX rfl rfl TB.parts ?_ | refine zQ hX ?_ | refine zR hX ?_ | refine zA ?_ | refine zT ?_ | refine zF ?_ | refine zL hX hL ?_ | refine zB hX hL ?_ | (refine zS hX hL ?_; clear hL; intro w hL) | refine zI ?_ | refine zG hX ?_ | refine zO ?_); conv => whnf)
    refine CallReq.mk (L1 := (bb, boO ab lv e) :: L) (L2 := [_]) (all_fn lk lv hlv m0 rs hb hpi hlen m ab bb ns L e _ hm0 hs hA hO) (Loc.back (L1 := [_]) hL) ?_
    clear hL
    rintro u m1 Lx w hL hm1 ⟨-, Lo, L3, rfl, hA3, ho⟩
    have hok := okB_L lk rs hpi ns e hO
    have hln := bL_len lk rs ns e
    generalize bL lk rs ns e = q at hA3 ho hL hok hln ⊢
    obtain ⟨A1, n1, c1, rfl, hn1⟩ := ho.slice
    rw [List.append_assoc] at hL
    obtain ⟨m2, hL1, hm2, hsl⟩ := OwnS.freeze ho hL
    clear hL ho
    have hL := Loc.back (L1 := (bb, boO ab lv q.1.2) :: L3) (L2 := [_]) hL1
    clear hL1
    replace hL : Ev.Loc m S0 w0 m2 ((b3, .cells (toArr (reC 5 s0 s1 s2 s3 (.slice A n c) lo hi neg)) 30 (0, 0)) :: (bb, boO ab lv q.1.2) :: L3) w := hL
    refine SReq.mk (TB.of hL (hm1.trans hm2)) ?_
    dsimp only
    conv => whnf
    repeat ((first | refine zQ hX ?_ | refine zR hX ?_ | refine zA ?_ | refine zT ?_ | refine zF ?_ | refine zL hX hL ?_ | refine zB hX hL ?_ | (refine zS hX hL ?_; clear hL; intro w hL) | refine zI ?_ | refine zG hX ?_ | refine zO ?_); conv => whnf)
    refine CallReq.mk (L1 := L3) (L2 := [_, _]) (AndG_fn m2 ab q.1.1 L3 hA3 hok.1 _ q.2 hsl (by omega)) (Loc.back (L1 := [_, _]) hL) ?_
    clear hL
    rintro u m3 L4 w hL hm3 ⟨rfl, hA4⟩
    have hL := Loc.back (L1 := L4) (L2 := [_, _]) hL
    refine SReq.mk (TB.of hL ((hm1.trans hm2).trans hm3)) ?_
    conv => whnf
    repeat ((first | refine zQ hX ?_ | refine zR hX ?_ | refine zA ?_ | refine zT ?_ | refine zF ?_ | refine zL hX hL ?_ | refine zB hX hL ?_ | (refine zS hX hL ?_; clear hL; intro w hL) | refine zI ?_ | refine zG hX ?_ | refine zO ?_); conv => whnf)
    exact RetReq.mk hL.drop ⟨rfl, L4, rfl, hA4⟩
  rw [if_neg k5]
  have hone : k = 6 ∨ k = 7 → ∃ p, rs = [p] := fun h => by
    have e : partsK k = 1 := by unfold partsK; rw [if_neg (by omega), if_pos (by omega)]
    rw [e] at hOp
    have := hOp (by omega)
    match rs, this with
    | [p], _ => exact ⟨p, rfl⟩
    | [], h => simp at h
    | _ :: _ :: _, h => simp at h; omega
  have hbl : ∀ p, bL lk [p] ns e = ((bR lk p ns e).1, [(bR lk p ns e).2]) := fun p => by simp [bL]
  by_cases k6 : k = 6
  · subst k6
    obtain ⟨p, rfl⟩ := hone (.inl rfl)
    obtain ⟨a, cs', eA, hl9, hcells, hrep'⟩ := hs.elem 0 p rfl
    rw [if_pos rfl, hbl]
    dsimp only
    rw [show ([(bR lk p ns e).2] : List Int).headD 0 = (bR lk p ns e).2 from rfl]
    have hok := okB_R lk p (hpi p (by simp)) ns e hO
    have hbp := hb p (by simp) m ab bb ns L e cs' hm0 hrep' hA hO
    have hcw : ∀ w, TB m S0 w0 b3 bb ab lv (reC 6 s0 s1 s2 s3 (.slice A n c) lo hi neg) w → ∀ (j : Nat) (v : Value), cs'[j]? = some v → w.cell? ((a.add (scale 0 9)).add j) = some v := fun w ⟨_, h⟩ j v hj => h.cell (hcells j v hj)
    conv => whnf
    repeat ((first | refine zT ?_ | refine zF ?_ | refine zL hX hL ?_ | refine zB hX hL ?_ | (refine zS hX hL ?_; clear hL; intro w hL) | refine zI ?_ | refine zG hX ?_ | refine zO ?_); conv => whnf)
    refine DrawReq.planS hX (.fst 0 (.fst 1 (.fst 2 (.fst 3 (.fst 4 (.fst 5 (.fst 6 (.fst 7 (.fst 8 (.alt 9 (.alt 10 (.fst 11 (.done)) (.stop)) (.stop))))))))))) (TB m S0 w0 b3 bb ab lv (reC 6 s0 s1 s2 s3 (.slice A n c) lo hi neg)) (by kernel_rfl) (by kernel_rfl) hL (fun w h => TB.of h (Mem.Le.refl _)) ?_
    clear hL
    intro w hL
    conv => whnf
    repeat ((first | refine QLdReq.told hX rfl rfl TB.ab ?_ | refine QLdReq.told hX rfl rfl TB.parts ?_ | (refine Idx2Req.mk 0 a rfl (by rw [hn1]; simp) eA ?_) | refine QLdReq.toldA hX rfl rfl hl9 hcw ?_ | refine zQ hX ?_ | refine zR hX ?_ | refine zA ?_ | refine zT ?_ | refine zF ?_ | refine zL hX hL ?_ | refine zB hX hL ?_ | (refine zS hX hL ?_; clear hL; intro w hL) | refine zI ?_ | refine zG hX ?_ | refine zO ?_); conv => whnf)
    refine CallReq.mk (L1 := (bb, boO ab lv e) :: L) (L2 := [_]) hbp (Loc.back (L1 := [_]) hL) ?_
    clear hL
    rintro u m1 Lx w hL hm1 ⟨rfl, L3, rfl, hA3⟩
    generalize bR lk p ns e = q at hA3 hL hok ⊢
    have hL := Loc.back (L1 := (bb, boO ab lv q.1.2) :: L3) (L2 := [_]) hL
    refine SReq.mk (TB.of hL hm1) ?_
    conv => whnf
    repeat ((first | refine zQ hX ?_ | refine zR hX ?_ | refine zA ?_ | refine zT ?_ | refine zF ?_ | refine zL hX hL ?_ | refine zB hX hL ?_ | (refine zS hX hL ?_; clear hL; intro w hL) | refine zI ?_ | refine zG hX ?_ | refine zO ?_); conv => whnf)
    refine CallReq.mk (L1 := L3) (L2 := [_, _]) (NotG_fn m1 ab q.1.1 L3 hA3 hok.1 q.2) (Loc.back (L1 := [_, _]) hL) ?_
    clear hL
    rintro u m3 L4 w hL hm3 ⟨rfl, hA4⟩
    have hL := Loc.back (L1 := L4) (L2 := [_, _]) hL
    refine SReq.mk (TB.of hL (hm1.trans hm3)) ?_
    conv => whnf
    repeat ((first | refine zQ hX ?_ | refine zR hX ?_ | refine zA ?_ | refine zT ?_ | refine zF ?_ | refine zL hX hL ?_ | refine zB hX hL ?_ | (refine zS hX hL ?_; clear hL; intro w hL) | refine zI ?_ | refine zG hX ?_ | refine zO ?_); conv => whnf)
    exact RetReq.mk hL.drop ⟨rfl, L4, rfl, hA4⟩
  rw [if_neg k6]
  by_cases k7 : k = 7
  · subst k7
    obtain ⟨p, rfl⟩ := hone (.inr rfl)
    obtain ⟨h71, h72, h73⟩ := hO7 rfl
    rw [if_pos rfl, hbl]
    dsimp only
    rw [show ([(bR lk p ns e).2] : List Int).headD 0 = (bR lk p ns e).2 from rfl]
    have htf := times_fn lk lv m0 p (hb p (by simp)) (hpi p (by simp)) m ab bb ns L e 7 s0 s1 s2 s3 lo hi neg A n c hm0 hs (by omega) (by omega) hA hO
    conv => whnf
    repeat ((first | refine zT ?_ | refine zF ?_ | refine zL hX hL ?_ | refine zB hX hL ?_ | (refine zS hX hL ?_; clear hL; intro w hL) | refine zI ?_ | refine zG hX ?_ | refine zO ?_); conv => whnf)
    refine CallReq.mk (L1 := (bb, boO ab lv e) :: L) (L2 := [_]) htf (Loc.back (L1 := [_]) hL) ?_
    clear hL
    rintro u m1 Lx w hL hm1 ⟨rfl, L3, rfl, hA3⟩
    have hL := Loc.back (L2 := [_]) hL
    conv => whnf
    repeat ((first | refine zT ?_ | refine zF ?_ | refine zL hX hL ?_ | refine zB hX hL ?_ | (refine zS hX hL ?_; clear hL; intro w hL) | refine zI ?_ | refine zG hX ?_ | refine zO ?_); conv => whnf)
    exact RetReq.mk hL.drop ⟨rfl, L3, rfl, hA3⟩
  rw [if_neg k7]
  obtain ⟨hr0, hr11⟩ := hOk
  conv => whnf
  repeat ((first | refine BrReq.no (by omega) ?_ | refine zT ?_ | refine zF ?_ | refine zL hX hL ?_ | refine zB hX hL ?_ | (refine zS hX hL ?_; clear hL; intro w hL) | refine zI ?_ | refine zG hX ?_ | refine zO ?_); conv => whnf)
  refine CallReq.mk (L1 := (bb, boO ab lv e) :: L) (L2 := [_]) hlk (Loc.back (L1 := [_]) hL) ?_
  clear hL
  rintro u m1 Lx w hL hm1 ⟨rfl, L3, rfl, hA3⟩
  have hL := Loc.back (L2 := [_]) hL
  conv => whnf
  repeat ((first | refine zT ?_ | refine zF ?_ | refine zL hX hL ?_ | refine zB hX hL ?_ | (refine zS hX hL ?_; clear hL; intro w hL) | refine zI ?_ | refine zG hX ?_ | refine zO ?_); conv => whnf)
  exact RetReq.mk hL.drop ⟨rfl, L3, rfl, hA3⟩
def buildN (lk : Re → Int) (ns : List Nd) (r : Re) : List Nd × Int × Int :=
  if formedR r = false then (ns, 0, 1) else
  let b := bR lk r ns 0
  if b.1.2 ≠ 0 then (b.1.1, 0, b.1.2) else if b.2 < 0 then (b.1.1, 0, 4) else (b.1.1, b.2, 0)
theorem formed_size {r : Re} (h : formedR r = true) : allR r = true ∧ sizeR r ≤ 1000 := by
  unfold formedR at h
  simp only [Bool.and_eq_true, decide_eq_true_eq] at h
  exact ⟨h.1.2, h.2⟩
theorem Build_fn (lk : Re → Int) (lv : Value) (hlv : lv = .nilFunc ∨ ∃ f x y, lv = .func f x y) (m : Mem) (r : Re) (hlk : ∀ q : Re, InRe q → Lkd lk lv m q) (cs : List Value) (hrep : RepRe m cs r) (ab : Nat) (ns : List Nd) (L : Own) (hA : Ar ab ns L) (hO : OkA ns) :
    Ev.Fn Tryz.prog 39 [.pointer (some ⟨ab, 0, none⟩), .agg (toArr cs), lv] m L fun _ L' u => u = .tuple (toArr [.int .i64 (buildN lk ns r).2.1, .int .i64 (buildN lk ns r).2.2]) ∧ Ar ab (buildN lk ns r).1 L' := by
  obtain ⟨k, s0, s1, s2, s3, A, n, c, lo, hi, neg, rfl⟩ := hrep.form
  have hl1 : lv.oneCell' = true := by rcases hlv with rfl | ⟨f, x, y, rfl⟩ <;> rfl
  have hbf := fun (h1 : allR r = true) (h2 : sizeR r ≤ 1000) => build_fn lk lv hl1 m r hlk h1 h2 (rep_in r hrep)
  have hok := okB_R lk r (rep_in r hrep) ns 0 hO
  clear hl1 hlk
  rcases hlv with rfl | ⟨f, x, y, rfl⟩
  · refine Fn.enter (N := 38) hX Tryz.func39 rfl rfl (by show _ ≤ _; simp) (fun w0 hL => ?_)
    conv => whnf
    generalize keys L = S0 at hL ⊢
    refine NewReq.mk hL ?_
    clear hL
    intro b4 w hL
    conv => whnf
    replace hL : Ev.Loc m S0 w0 m ((b4, .cells (toArr (reC k s0 s1 s2 s3 (.slice A n c) lo hi neg)) 30 (0, 0)) :: L) w := hL
    conv => whnf
    repeat ((first | refine UGenReq.nilPtr hX rfl rfl rfl rfl rfl ?_ | refine zT ?_ | refine zF ?_ | refine zL hX hL ?_ | refine zB hX hL ?_ | (refine zS hX hL ?_; clear hL; intro w hL) | refine zI ?_ | refine zG hX ?_ | refine zO ?_); conv => whnf)
    refine CallReq.val (Formed_fn m r _ hrep) hL ?_
    clear hL
    intro w hL
    unfold buildN
    cases hf : formedR r with
    | false =>
      rw [if_pos rfl]
      conv => whnf
      repeat ((first | refine zT ?_ | refine zF ?_ | refine zL hX hL ?_ | refine zB hX hL ?_ | (refine zS hX hL ?_; clear hL; intro w hL) | refine zI ?_ | refine zG hX ?_ | refine zO ?_); conv => whnf)
      exact RetReq.mk hL.drop ⟨rfl, hA⟩
    | true =>
    rw [if_neg (by decide)]
    obtain ⟨hall, hsz⟩ := formed_size hf
    have hbf := hbf hall hsz m ab
    conv => whnf
    repeat ((first | refine zT ?_ | refine zF ?_ | refine zL hX hL ?_ | refine zB hX hL ?_ | (refine zS hX hL ?_; clear hL; intro w hL) | refine zI ?_ | refine zG hX ?_ | refine zO ?_); conv => whnf)
    refine NewReq.mk hL ?_
    clear hL
    intro bb w hL
    conv => whnf
    replace hL : Ev.Loc m S0 w0 m ([(b4, .cells (toArr (reC k s0 s1 s2 s3 (.slice A n c) lo hi neg)) 30 (0, 0))] ++ ((bb, boO ab .nilFunc 0) :: L)) w := hL.perm (List.Perm.swap _ _ _)
    conv => whnf
    repeat ((first | refine zT ?_ | refine zF ?_ | refine zL hX hL ?_ | refine zB hX hL ?_ | (refine zS hX hL ?_; clear hL; intro w hL) | refine zI ?_ | refine zG hX ?_ | refine zO ?_); conv => whnf)
    refine CallReq.mk (L1 := (bb, boO ab .nilFunc 0) :: L) (L2 := [_]) (hbf bb ns L 0 _ (Mem.Le.refl m) hrep hA hO) (Loc.back (L1 := [_]) hL) ?_
    clear hL
    rintro u m2 Lx w hL hm2 ⟨rfl, L2, rfl, hA2⟩
    generalize bR lk r ns 0 = b at hA2 hL hok ⊢
    dsimp only
    replace hL : Ev.Loc m S0 w0 m2 ((bb, boO ab .nilFunc b.1.2) :: (L2 ++ [(b4, .cells (toArr (reC k s0 s1 s2 s3 (.slice A n c) lo hi neg)) 30 (0, 0))])) w := hL
    by_cases he : b.1.2 = 0
    · rw [if_neg (fun h => h he)]
      by_cases hb : b.2 < 0
      · rw [if_pos hb]
        conv => whnf
        repeat ((first | refine BrReq.no (fun h => h he) ?_ | refine BrReq.yes hb ?_ | refine zT ?_ | refine zF ?_ | refine zL hX hL ?_ | refine zB hX hL ?_ | (refine zS hX hL ?_; clear hL; intro w hL) | refine zI ?_ | refine zG hX ?_ | refine zO ?_); conv => whnf)
        exact RetReq.mk (hL.drop.sublist (List.sublist_append_left _ _)) ⟨rfl, hA2⟩
      · rw [if_neg hb]
        conv => whnf
        repeat ((first | refine BrReq.no (fun h => h he) ?_ | refine BrReq.no hb ?_ | refine zT ?_ | refine zF ?_ | refine zL hX hL ?_ | refine zB hX hL ?_ | (refine zS hX hL ?_; clear hL; intro w hL) | refine zI ?_ | refine zG hX ?_ | refine zO ?_); conv => whnf)
        exact RetReq.mk (hL.drop.sublist (List.sublist_append_left _ _)) ⟨rfl, hA2⟩
    · rw [if_pos he]
      conv => whnf
      repeat ((first | refine BrReq.yes he ?_ | refine zT ?_ | refine zF ?_ | refine zL hX hL ?_ | refine zB hX hL ?_ | (refine zS hX hL ?_; clear hL; intro w hL) | refine zI ?_ | refine zG hX ?_ | refine zO ?_); conv => whnf)
      refine DrawReq.plan hX (.fst 0 (.fst 1 (.fst 2 (.fst 3 (.fst 4 (.fst 5 (.done))))))) [(bb, boO ab .nilFunc b.1.2)] (by kernel_rfl) (by kernel_rfl) hL (fun h => h.one 0 rfl) ?_
      clear hL
      intro w hL
      conv => whnf
      repeat ((first | refine zQ hX ?_ | refine zR hX ?_ | refine zA ?_ | refine zT ?_ | refine zF ?_ | refine zL hX hL ?_ | refine zB hX hL ?_ | (refine zS hX hL ?_; clear hL; intro w hL) | refine zI ?_ | refine zG hX ?_ | refine zO ?_); conv => whnf)
      exact RetReq.mk (hL.drop.sublist (List.sublist_append_left _ _)) ⟨rfl, hA2⟩
  · refine Fn.enter (N := 38) hX Tryz.func39 rfl rfl (by show _ ≤ _; simp) (fun w0 hL => ?_)
    conv => whnf
    generalize keys L = S0 at hL ⊢
    refine NewReq.mk hL ?_
    clear hL
    intro b4 w hL
    conv => whnf
    replace hL : Ev.Loc m S0 w0 m ((b4, .cells (toArr (reC k s0 s1 s2 s3 (.slice A n c) lo hi neg)) 30 (0, 0)) :: L) w := hL
    conv => whnf
    repeat ((first | refine UGenReq.nilPtr hX rfl rfl rfl rfl rfl ?_ | refine zT ?_ | refine zF ?_ | refine zL hX hL ?_ | refine zB hX hL ?_ | (refine zS hX hL ?_; clear hL; intro w hL) | refine zI ?_ | refine zG hX ?_ | refine zO ?_); conv => whnf)
    refine CallReq.val (Formed_fn m r _ hrep) hL ?_
    clear hL
    intro w hL
    unfold buildN
    cases hf : formedR r with
    | false =>
      rw [if_pos rfl]
      conv => whnf
      repeat ((first | refine zT ?_ | refine zF ?_ | refine zL hX hL ?_ | refine zB hX hL ?_ | (refine zS hX hL ?_; clear hL; intro w hL) | refine zI ?_ | refine zG hX ?_ | refine zO ?_); conv => whnf)
      exact RetReq.mk hL.drop ⟨rfl, hA⟩
    | true =>
    rw [if_neg (by decide)]
    obtain ⟨hall, hsz⟩ := formed_size hf
    have hbf := hbf hall hsz m ab
    conv => whnf
    repeat ((first | refine zT ?_ | refine zF ?_ | refine zL hX hL ?_ | refine zB hX hL ?_ | (refine zS hX hL ?_; clear hL; intro w hL) | refine zI ?_ | refine zG hX ?_ | refine zO ?_); conv => whnf)
    refine NewReq.mk hL ?_
    clear hL
    intro bb w hL
    conv => whnf
    replace hL : Ev.Loc m S0 w0 m ([(b4, .cells (toArr (reC k s0 s1 s2 s3 (.slice A n c) lo hi neg)) 30 (0, 0))] ++ ((bb, boO ab (.func f x y) 0) :: L)) w := hL.perm (List.Perm.swap _ _ _)
    conv => whnf
    repeat ((first | refine zT ?_ | refine zF ?_ | refine zL hX hL ?_ | refine zB hX hL ?_ | (refine zS hX hL ?_; clear hL; intro w hL) | refine zI ?_ | refine zG hX ?_ | refine zO ?_); conv => whnf)
    refine CallReq.mk (L1 := (bb, boO ab (.func f x y) 0) :: L) (L2 := [_]) (hbf bb ns L 0 _ (Mem.Le.refl m) hrep hA hO) (Loc.back (L1 := [_]) hL) ?_
    clear hL
    rintro u m2 Lx w hL hm2 ⟨rfl, L2, rfl, hA2⟩
    generalize bR lk r ns 0 = b at hA2 hL hok ⊢
    dsimp only
    replace hL : Ev.Loc m S0 w0 m2 ((bb, boO ab (.func f x y) b.1.2) :: (L2 ++ [(b4, .cells (toArr (reC k s0 s1 s2 s3 (.slice A n c) lo hi neg)) 30 (0, 0))])) w := hL
    by_cases he : b.1.2 = 0
    · rw [if_neg (fun h => h he)]
      by_cases hb : b.2 < 0
      · rw [if_pos hb]
        conv => whnf
        repeat ((first | refine BrReq.no (fun h => h he) ?_ | refine BrReq.yes hb ?_ | refine zT ?_ | refine zF ?_ | refine zL hX hL ?_ | refine zB hX hL ?_ | (refine zS hX hL ?_; clear hL; intro w hL) | refine zI ?_ | refine zG hX ?_ | refine zO ?_); conv => whnf)
        exact RetReq.mk (hL.drop.sublist (List.sublist_append_left _ _)) ⟨rfl, hA2⟩
      · rw [if_neg hb]
        conv => whnf
        repeat ((first | refine BrReq.no (fun h => h he) ?_ | refine BrReq.no hb ?_ | refine zT ?_ | refine zF ?_ | refine zL hX hL ?_ | refine zB hX hL ?_ | (refine zS hX hL ?_; clear hL; intro w hL) | refine zI ?_ | refine zG hX ?_ | refine zO ?_); conv => whnf)
        exact RetReq.mk (hL.drop.sublist (List.sublist_append_left _ _)) ⟨rfl, hA2⟩
    · rw [if_pos he]
      conv => whnf
      repeat ((first | refine BrReq.yes he ?_ | refine zT ?_ | refine zF ?_ | refine zL hX hL ?_ | refine zB hX hL ?_ | (refine zS hX hL ?_; clear hL; intro w hL) | refine zI ?_ | refine zG hX ?_ | refine zO ?_); conv => whnf)
      refine DrawReq.plan hX (.fst 0 (.fst 1 (.fst 2 (.fst 3 (.fst 4 (.fst 5 (.done))))))) [(bb, boO ab (.func f x y) b.1.2)] (by kernel_rfl) (by kernel_rfl) hL (fun h => h.one 0 rfl) ?_
      clear hL
      intro w hL
      conv => whnf
      repeat ((first | refine zQ hX ?_ | refine zR hX ?_ | refine zA ?_ | refine zT ?_ | refine zF ?_ | refine zL hX hL ?_ | refine zB hX hL ?_ | (refine zS hX hL ?_; clear hL; intro w hL) | refine zI ?_ | refine zG hX ?_ | refine zO ?_); conv => whnf)
      exact RetReq.mk (hL.drop.sublist (List.sublist_append_left _ _)) ⟨rfl, hA2⟩
end Go.Proofs.YtiololnblplloaaGreat.ar
namespace Go.Proofs.YtiololnblplloaaGreat.looks
open Go Go.Ev Go.Proofs Go.Proofs.YtiololnblplloaaGreat.tree Go.Proofs.YtiololnblplloaaGreat.ar
def ixV (v : Value) : Value := .func (.func 40) #[.agg (toArr [v])] #[]
theorem rep_bare {m : Mem} {k s0 s1 s2 s3 lo hi : Int} {neg : Bool} {A : Option Addr} {n c : Nat} {r : Re} (h : RepRe m (reC k s0 s1 s2 s3 (.slice A n c) lo hi neg) r) : r = .mk k s0 s1 s2 s3 r.parts lo hi neg := by
  obtain ⟨k', t0, t1, t2, t3, rs, lo', hi', neg'⟩ := r
  obtain ⟨A', n', c', e, hs, hr⟩ := h.open
  injection e with e0 e; injection e with e1 e; injection e with e2 e; injection e with e3 e; injection e with e4 e; injection e with e5 e; injection e with e6 e; injection e with e7 e; injection e with e8 e
  cases e0; cases e1; cases e2; cases e3; cases e4; cases e5; cases e6; cases e7; cases e8
  rfl
theorem looked_ix (m0 : Mem) (v : Value) (ls : List Re) (hs : Sl m0 9 (RepRe m0) v ls) (r : Re) : Lkd (lkR ls) (ixV v) m0 r := by
  intro m ab bb ns L e k s0 s1 s2 s3 lo hi neg A n c hm0 hr hA hO
  have hsm : Sl m 9 (RepRe m) v ls := hs.le hm0 fun _ _ _ h => h.le hm0
  have hrb := bare_rep hr
  have hre := rep_bare hr
  have hbe : bareR r = .mk k s0 s1 s2 s3 r.parts lo hi false := by rw [hre]; rfl
  have hix := Index_fn m v ls (bareR r) _ hsm hrb
  rw [show idxR (fun x => likeR x (bareR r)) ls = lkR ls (bareR r) from rfl, hbe] at hix
  generalize lkR ls (.mk k s0 s1 s2 s3 r.parts lo hi false) = q at hix ⊢
  obtain ⟨V, hV⟩ : ∃ V, V = ixV v := ⟨_, rfl⟩
  have hVf : V = .func (.func 40) #[.agg (toArr [v])] #[] := hV
  rw [← hV]
  refine Fn.enter (N := 42) hX Tryz.func85 rfl rfl (by show _ ≤ _; simp) (fun w0 hL => ?_)
  conv => whnf
  generalize keys ((bb, boO ab V e) :: L) = S0 at hL ⊢
  refine NewReq.mk hL ?_
  clear hL
  intro b3 w hL
  conv => whnf
  replace hL : Ev.Loc m S0 w0 m ((b3, .cells (toArr (reC k s0 s1 s2 s3 (.slice A n c) lo hi neg)) 30 (0, 0)) :: (bb, boO ab V e) :: L) w := hL
  subst hVf
  conv => whnf
  repeat ((first | refine UGenReq.nilFuncNe rfl rfl rfl Tryz.underlying44 false (.inr ⟨⟨_, _, _, rfl⟩, rfl⟩) ?_ | refine zT ?_ | refine zF ?_ | refine zL hX hL ?_ | refine zB hX hL ?_ | (refine zS hX hL ?_; clear hL; intro w hL) | refine zI ?_ | refine zG hX ?_ | refine zO ?_); conv => whnf)
  refine DrawReq.plan hX (.fst 0 (.fst 1 (.fst 2 (.fst 3 (.fst 4 (.alt 5 (.fst 6 (.done)) (.stop))))))) [(b3, .cells (toArr (reC k s0 s1 s2 s3 (.slice A n c) lo hi false)) 30 (0, 0)), (bb, boO ab (.func (.func 40) #[.agg (toArr [v])] #[]) e)] (by kernel_rfl) (by kernel_rfl) hL (fun h => h.sublist (.cons_cons _ (.cons_cons _ (List.nil_sublist _)))) ?_
  clear hL
  intro w hL
  conv => whnf
  repeat ((first | refine zQ hX ?_ | refine zR hX ?_ | refine zA ?_ | refine zT ?_ | refine zF ?_ | refine zL hX hL ?_ | refine zB hX hL ?_ | (refine zS hX hL ?_; clear hL; intro w hL) | refine zI ?_ | refine zG hX ?_ | refine zO ?_); conv => whnf)
  refine CallReq.val hix hL ?_
  clear hL
  intro w hL
  refine SReq.mk (hL.sublist (.cons_cons _ (.cons_cons _ (List.nil_sublist _)))) ?_
  conv => whnf
  repeat ((first | refine zQ hX ?_ | refine zR hX ?_ | refine zA ?_ | refine zT ?_ | refine zF ?_ | refine zL hX hL ?_ | refine zB hX hL ?_ | (refine zS hX hL ?_; clear hL; intro w hL) | refine zI ?_ | refine zG hX ?_ | refine zO ?_); conv => whnf)
  unfold lookedN
  by_cases hq : q < 0
  · rw [if_pos (.inl hq)]
    conv => whnf
    repeat ((first | refine BrReq.yes hq ?_ | refine zQ hX ?_ | refine zR hX ?_ | refine zA ?_ | refine zT ?_ | refine zF ?_ | refine zL hX hL ?_ | refine zB hX hL ?_ | (refine zS hX hL ?_; clear hL; intro w hL) | refine zI ?_ | refine zG hX ?_ | refine zO ?_); conv => whnf)
    refine CallReq.mk (L1 := L) (L2 := [_, _]) (None_fn m ab ns L hA hO) (Loc.back (L1 := [_, _]) hL) ?_
    clear hL
    rintro u mx L2 w hL - ⟨hmx, rfl, hA2⟩
    rw [hmx] at hL
    clear hmx mx
    have hL := Loc.back (L1 := L2) (L2 := [_, _]) hL
    conv => whnf
    repeat ((first | refine zT ?_ | refine zF ?_ | refine zL hX hL ?_ | refine zB hX hL ?_ | (refine zS hX hL ?_; clear hL; intro w hL) | refine zI ?_ | refine zG hX ?_ | refine zO ?_); conv => whnf)
    exact RetReq.mk hL.drop ⟨rfl, L2, rfl, hA2⟩
  by_cases hq4 : 4 ≤ q
  · rw [if_pos (.inr hq4)]
    conv => whnf
    repeat ((first | refine BrReq.no hq ?_ | refine BrReq.yes (show 4 ≤ q from hq4) ?_ | refine zQ hX ?_ | refine zR hX ?_ | refine zA ?_ | refine zT ?_ | refine zF ?_ | refine zL hX hL ?_ | refine zB hX hL ?_ | (refine zS hX hL ?_; clear hL; intro w hL) | refine zI ?_ | refine zG hX ?_ | refine zO ?_); conv => whnf)
    refine CallReq.mk (L1 := L) (L2 := [_, _]) (None_fn m ab ns L hA hO) (Loc.back (L1 := [_, _]) hL) ?_
    clear hL
    rintro u mx L2 w hL - ⟨hmx, rfl, hA2⟩
    rw [hmx] at hL
    clear hmx mx
    have hL := Loc.back (L1 := L2) (L2 := [_, _]) hL
    conv => whnf
    repeat ((first | refine zT ?_ | refine zF ?_ | refine zL hX hL ?_ | refine zB hX hL ?_ | (refine zS hX hL ?_; clear hL; intro w hL) | refine zI ?_ | refine zG hX ?_ | refine zO ?_); conv => whnf)
    exact RetReq.mk hL.drop ⟨rfl, L2, rfl, hA2⟩
  · rw [if_neg (by omega)]
    conv => whnf
    repeat ((first | refine BrReq.no hq ?_ | refine BrReq.no (show ¬ 4 ≤ q from hq4) ?_ | refine zQ hX ?_ | refine zR hX ?_ | refine zA ?_ | refine zT ?_ | refine zF ?_ | refine zL hX hL ?_ | refine zB hX hL ?_ | (refine zS hX hL ?_; clear hL; intro w hL) | refine zI ?_ | refine zG hX ?_ | refine zO ?_); conv => whnf)
    refine CallReq.mk (L1 := L) (L2 := [_, _]) (Look_fn m ab ns L hA hO q (by unfold i64; omega) neg) (Loc.back (L1 := [_, _]) hL) ?_
    clear hL
    rintro u mx L2 w hL - ⟨hmx, rfl, hA2⟩
    rw [hmx] at hL
    clear hmx mx
    have hL := Loc.back (L1 := L2) (L2 := [_, _]) hL
    conv => whnf
    repeat ((first | refine zT ?_ | refine zF ?_ | refine zL hX hL ?_ | refine zB hX hL ?_ | (refine zS hX hL ?_; clear hL; intro w hL) | refine zI ?_ | refine zG hX ?_ | refine zO ?_); conv => whnf)
    exact RetReq.mk hL.drop ⟨rfl, L2, rfl, hA2⟩
theorem PlanBuild_fn (m : Mem) (v : Value) (ls : List Re) (hs : Sl m 9 (RepRe m) v ls) (r : Re) (cs : List Value) (hrep : RepRe m cs r) (ab : Nat) (ns : List Nd) (L : Ev.Own) (hA : Ar ab ns L) (hO : OkA ns) :
    Ev.Fn Tryz.prog 27 [.agg (toArr [v]), .pointer (some ⟨ab, 0, none⟩), .agg (toArr cs)] m L fun _ L' u => u = .tuple (toArr [.int .i64 (buildN (lkR ls) ns r).2.1, .int .i64 (buildN (lkR ls) ns r).2.2]) ∧ Ar ab (buildN (lkR ls) ns r).1 L' := by
  have hbf := Build_fn (lkR ls) (ixV v) (.inr ⟨_, _, _, rfl⟩) m r (fun q _ => looked_ix m v ls hs q) cs hrep ab ns L hA hO
  obtain ⟨k, s0, s1, s2, s3, A, n, c, lo, hi, neg, rfl⟩ := hrep.form
  obtain ⟨A1, n1, c1, rfl, -⟩ := id hs
  refine Fn.enter (N := 15) hX Tryz.func27 rfl rfl (by show _ ≤ _; simp) (fun w0 hL => ?_)
  conv => whnf
  generalize keys L = S0 at hL ⊢
  refine NewReq.mk hL ?_
  clear hL
  intro b3 w hL
  conv => whnf
  refine NewReq.mk hL ?_
  clear hL
  intro b5 w hL
  conv => whnf
  replace hL : Ev.Loc m S0 w0 m ((b5, .cells (toArr (reC k s0 s1 s2 s3 (.slice A n c) lo hi neg)) 30 (0, 0)) :: (b3, .cells (toArr [.slice A1 n1 c1]) 35 (0, 0)) :: L) w := hL
  conv => whnf
  repeat ((first | refine zT ?_ | refine zF ?_ | refine zL hX hL ?_ | refine zB hX hL ?_ | (refine zS hX hL ?_; clear hL; intro w hL) | refine zI ?_ | refine zG hX ?_ | refine zO ?_); conv => whnf)
  refine CallReq.mk (L1 := L) (L2 := [_, _]) hbf (Loc.back (L1 := [_, _]) hL) ?_
  clear hL
  rintro u m2 L2 w hL hm2 ⟨rfl, hA2⟩
  have hL := Loc.back (L1 := L2) (L2 := [_, _]) hL
  conv => whnf
  repeat ((first | refine zT ?_ | refine zF ?_ | refine zL hX hL ?_ | refine zB hX hL ?_ | (refine zS hX hL ?_; clear hL; intro w hL) | refine zI ?_ | refine zG hX ?_ | refine zO ?_); conv => whnf)
  exact RetReq.mk hL.drop.drop ⟨rfl, hA2⟩
end Go.Proofs.YtiololnblplloaaGreat.looks
namespace Go.Proofs.YtiololnblplloaaGreat.ar
open Go Go.Ev Go.Proofs Go.Proofs.YtiololnblplloaaGreat.tree
theorem cats_pre : ∀ (l : List Int) (ns : List Nd) (out : Int), ns <+: (catsN ns l out).1
  | [], ns, out => List.prefix_refl _
  | z :: l, ns, out => (catF_pre _ ns z out).trans (cats_pre l _ _)
theorem opt_pre (x : Int) : ∀ (n : Nat) (ns : List Nd) (out : Int), ns <+: (optN x n ns out).1
  | 0, ns, out => List.prefix_refl _
  | n + 1, ns, out => ((pN_pre ns (ndK 1)).trans ((catF_pre _ _ _ _).trans (gput_pre _ _ _))).trans (opt_pre x n _ _)
theorem rep_pre (x : Int) : ∀ (n : Nat) (ns : List Nd) (out : Int), ns <+: (repN x n ns out).1
  | 0, ns, out => List.prefix_refl _
  | n + 1, ns, out => (catF_pre _ ns x out).trans (rep_pre x n _ _)
theorem times_pre (lo hi : Int) (ns : List Nd) (x : Int) : ns <+: (timesN lo hi ns x).1 := by
  unfold timesN
  have h1 : ns <+: (emptyN ns).1 := pN_pre _ _
  have h2 : (emptyN ns).1 <+: (if hi < 0 then starN (emptyN ns).1 x else emptyN ns).1 := by
    split
    · exact starN_pre _ _
    · exact List.prefix_refl _
  exact h1.trans (h2.trans ((opt_pre x _ _ _).trans (rep_pre x _ _ _)))
theorem looked_pre (ns : List Nd) (e k : Int) (neg : Bool) : ns <+: (lookedN ns e k neg).1.1 := by
  unfold lookedN
  split
  · exact none_pre ns
  · exact pN_pre _ _
mutual
theorem bR_pre (lk : Re → Int) : ∀ (r : Re) (ns : List Nd) (e : Int), ns <+: (bR lk r ns e).1.1
  | .mk k s0 s1 s2 s3 rs lo hi neg, ns, e => by
    rw [bR]
    split
    · exact none_pre ns
    split
    · exact pN_pre _ _
    split
    · exact bytesN_pre _ _
    split
    · exact (pN_pre ns (ndK 1)).trans ((bL_pre lk rs _ e).trans (cats_pre _ _ _))
    split
    · exact (bL_pre lk rs ns e).trans (gput_pre _ _ _)
    split
    · exact (bL_pre lk rs ns e).trans (gput_pre _ _ _)
    split
    · exact (bL_pre lk rs ns e).trans (notN_pre _ _)
    split
    · exact (bL_pre lk rs ns e).trans (times_pre _ _ _ _)
    · exact looked_pre _ _ _ _
theorem bL_pre (lk : Re → Int) : ∀ (l : List Re) (ns : List Nd) (e : Int), ns <+: (bL lk l ns e).1.1
  | [], ns, e => List.prefix_refl _
  | r :: l, ns, e => by
    rw [bL]
    exact (bR_pre lk r ns e).trans (bL_pre lk l _ _)
end
end Go.Proofs.YtiololnblplloaaGreat.ar
namespace Go.Proofs.YtiololnblplloaaGreat.tk
open Go Go.Ev Go.Proofs Go.Proofs.YtiololnblplloaaGreat.ar Go.Proofs.YtiololnblplloaaGreat.tree Go.Proofs.YtiololnblplloaaGreat.looks
theorem build_any {lk : Re → Int} {r : Re} {ns : List Nd} (hO : OkA ns) (hin : InRe r) (hf : formedR r = true) (he : (bR lk r ns 0).1.2 = 0) :
    ns <+: (buildN lk ns r).1 ∧ OkA (buildN lk ns r).1 ∧ i64 (buildN lk ns r).2.1 ∧ ((buildN lk ns r).2.2 = 0 ∨ (buildN lk ns r).2.2 = 4) := by
  have h1 := bR_pre lk r ns 0
  have h2 := okB_R lk r hin ns 0 hO
  unfold buildN
  rw [if_neg (by rw [hf]; decide)]
  dsimp only
  rw [if_neg (by rw [he]; decide)]
  split
  · exact ⟨h1, h2.1, by simp [i64], .inr rfl⟩
  · exact ⟨h1, h2.1, h2.2, .inl rfl⟩
theorem TurnBad_fn (m : Mem) (ab : Nat) (ns : List Nd) (La : Ev.Own) (hA : Ar ab ns La) (z : Int) (hz : ¬ (0 ≤ z ∧ z < ns.length)) :
    FnM Tryz.prog 28 [.pointer (some ⟨ab, 0, none⟩), .int .i64 z] m La (.int .i64 (-1)) := by
  have hnode := Node_fn m ab ns La hA z
  have h2 : (nodeN ns z).2 = false := by unfold nodeN; rw [if_neg hz]
  rw [h2] at hnode
  generalize (nodeN ns z).1 = x at hnode
  refine Fn.enter (N := 20) hX Tryz.func28 rfl rfl (by show _ ≤ _; simp) (fun w0 hL => ?_)
  conv => whnf
  generalize keys La = S0 at hL ⊢
  conv => whnf
  repeat ((first | refine zT ?_ | refine zF ?_ | refine zL hX hL ?_ | refine zB hX hL ?_ | (refine zS hX hL ?_; clear hL; intro w hL) | refine zI ?_ | refine zG hX ?_ | refine zO ?_); conv => whnf)
  refine CallReq.lo hnode hL ?_
  clear hL
  intro w hL
  conv => whnf
  repeat ((first | refine zT ?_ | refine zF ?_ | refine zL hX hL ?_ | refine zB hX hL ?_ | (refine zS hX hL ?_; clear hL; intro w hL) | refine zI ?_ | refine zG hX ?_ | refine zO ?_); conv => whnf)
  refine NewReq.mk hL ?_
  clear hL
  intro bn w hL
  conv => whnf
  conv => whnf
  repeat ((first | refine zT ?_ | refine zF ?_ | refine zL hX hL ?_ | refine zB hX hL ?_ | (refine zS hX hL ?_; clear hL; intro w hL) | refine zI ?_ | refine zG hX ?_ | refine zO ?_); conv => whnf)
  replace hL := hL.drop
  exact RetReq.mk hL ⟨rfl, rfl⟩
theorem OfBad_fn (m : Mem) (ab : Nat) (ns : List Nd) (La : Ev.Own) (hA : Ar ab ns La) (z : Int) (hz : ¬ (0 ≤ z ∧ z < ns.length)) :
    FnM Tryz.prog 29 [.pointer (some ⟨ab, 0, none⟩), .int .i64 z] m La (.tuple (toArr [.slice none 0 0, .int .i64 1])) := by
  have hnode := Node_fn m ab ns La hA z
  have h2 : (nodeN ns z).2 = false := by unfold nodeN; rw [if_neg hz]
  rw [h2] at hnode
  generalize (nodeN ns z).1 = x at hnode
  refine Fn.enter (N := 26) hX Tryz.func29 rfl rfl (by show _ ≤ _; simp) (fun w0 hL => ?_)
  conv => whnf
  generalize keys La = S0 at hL ⊢
  conv => whnf
  repeat ((first | refine zT ?_ | refine zF ?_ | refine zL hX hL ?_ | refine zB hX hL ?_ | (refine zS hX hL ?_; clear hL; intro w hL) | refine zI ?_ | refine zG hX ?_ | refine zO ?_); conv => whnf)
  refine CallReq.lo hnode hL ?_
  clear hL
  intro w hL
  conv => whnf
  repeat ((first | refine zT ?_ | refine zF ?_ | refine zL hX hL ?_ | refine zB hX hL ?_ | (refine zS hX hL ?_; clear hL; intro w hL) | refine zI ?_ | refine zG hX ?_ | refine zO ?_); conv => whnf)
  refine NewReq.mk hL ?_
  clear hL
  intro bn w hL
  conv => whnf
  conv => whnf
  repeat ((first | refine zT ?_ | refine zF ?_ | refine zL hX hL ?_ | refine zB hX hL ?_ | (refine zS hX hL ?_; clear hL; intro w hL) | refine zI ?_ | refine zG hX ?_ | refine zO ?_); conv => whnf)
  replace hL := hL.drop
  exact RetReq.mk hL ⟨rfl, rfl⟩
def ruO (ab : Nat) (g f : Value) : Obj := .cells (toArr [.pointer (some ⟨ab, 0, none⟩), g, f]) 73 (0, 0)
def NewQ (ab : Nat) (ns : List Nd) : Mem → Ev.Own → Value → Prop := fun m' L' u => ∃ ns' La', (ns <+: ns' ∧ OkA ns' ∧ Ar ab ns' La') ∧
  ((u = .tuple (toArr [.pointer none, .int .i64 4]) ∧ L' = La') ∨ ∃ rb fv f, u = .tuple (toArr [.pointer (some ⟨rb, 0, none⟩), .int .i64 0]) ∧ L' = (rb, ruO ab fv fv) :: La' ∧ fo.FmV m' fv f ∧ fo.FB ns'.length f)
set_option maxHeartbeats 1000000 in
theorem newRunner_fn (m : Mem) (ab : Nat) (ns : List Nd) (La : Ev.Own) (hA : Ar ab ns La) (hO : OkA ns) (v : Value) (ls : List Re) (hs : Sl m 9 (RepRe m) v ls) (h4 : ls.length ≤ 4) (r : Re) (cs : List Value) (hrep : RepRe m cs r) (hf : formedR r = true) (hfnd : fndR ls r) (back : Bool) :
    Ev.Fn Tryz.prog 19 [.pointer (some ⟨ab, 0, none⟩), .agg (toArr [v]), .agg (toArr cs), .bool back] m La (NewQ ab ns) := by
  have hin := rep_in r hrep
  have herr := err_fnd h4 r hfnd ns 0 (fun _ _ _ _ _ _ _ _ _ _ => trivial) (formed_size hf).1
  have hb := PlanBuild_fn m v ls hs r cs hrep ab ns La hA hO
  obtain ⟨hp1, hO1, hi1, he1⟩ := build_any hO hin hf herr
  generalize buildN (lkR ls) ns r = q at hb hp1 hO1 hi1 he1
  obtain ⟨ns1, z, e⟩ := q
  dsimp only at hb hp1 hO1 hi1 he1
  obtain ⟨k, s0, s1, s2, s3, A, n, c, lo, hi, neg, rfl⟩ := hrep.form
  obtain ⟨A1, n1, c1, rfl, -⟩ := id hs
  refine Fn.enter (N := 40) hX Tryz.func19 rfl rfl (by show _ ≤ _; simp) (fun w0 hL => ?_)
  conv => whnf
  generalize keys La = S0 at hL ⊢
  refine NewReq.mk hL ?_
  clear hL
  intro b5 w hL
  conv => whnf
  refine NewReq.mk hL ?_
  clear hL
  intro b6 w hL
  conv => whnf
  conv => whnf
  repeat ((first | refine zT ?_ | refine zF ?_ | refine zL hX hL ?_ | refine zB hX hL ?_ | (refine zS hX hL ?_; clear hL; intro w hL) | refine zI ?_ | refine zG hX ?_ | refine zO ?_); conv => whnf)
  refine CallReq.mk (L1 := La) (L2 := [_, _]) hb (Loc.back (L1 := [_, _]) hL) ?_
  clear hL
  rintro u m1 L1 w hL hm1 ⟨rfl, hA1⟩
  have hL := Loc.back (L1 := L1) (L2 := [_, _]) hL
  rcases he1 with rfl | rfl
  rotate_left
  · conv => whnf
    repeat ((first | refine zT ?_ | refine zF ?_ | refine zL hX hL ?_ | refine zB hX hL ?_ | (refine zS hX hL ?_; clear hL; intro w hL) | refine zI ?_ | refine zG hX ?_ | refine zO ?_); conv => whnf)
    exact RetReq.mk hL.drop.drop ⟨ns1, L1, ⟨hp1, hO1, hA1⟩, .inl ⟨rfl, rfl⟩⟩
  replace hL := hL.drop.drop
  cases back with
  | false =>
    conv => whnf
    repeat ((first | refine zT ?_ | refine zF ?_ | refine zL hX hL ?_ | refine zB hX hL ?_ | (refine zS hX hL ?_; clear hL; intro w hL) | refine zI ?_ | refine zG hX ?_ | refine zO ?_); conv => whnf)
    by_cases hok : 0 ≤ z ∧ z < (ns1).length
    · refine CallReq.mk (L1 := L1) (L2 := []) (li.Of_fn m1 ab ns1 L1 hA1 hO1 z hi1 hok) (by rw [List.append_nil]; exact hL) ?_
      clear hL
      rintro u m3 L3 w hL hm3 ⟨ns3, e, fv, f, rfl, he, hp3, hO3, hA3, hf3, hb3⟩
      rw [List.append_nil] at hL
      obtain ⟨A3, n3, c3, rfl, -⟩ := id hf3
      rcases he with rfl | rfl
      · conv => whnf
        repeat ((first | refine zT ?_ | refine zF ?_ | refine zL hX hL ?_ | refine zB hX hL ?_ | (refine zS hX hL ?_; clear hL; intro w hL) | refine zI ?_ | refine zG hX ?_ | refine zO ?_); conv => whnf)
        refine NewReq.mk hL ?_
        clear hL
        intro rb w hL
        conv => whnf
        exact RetReq.mk hL ⟨ns3, L3, ⟨hp1.trans hp3, hO3, hA3⟩, .inr ⟨rb, _, f, rfl, rfl, hf3, hb3⟩⟩
      · conv => whnf
        repeat ((first | refine zT ?_ | refine zF ?_ | refine zL hX hL ?_ | refine zB hX hL ?_ | (refine zS hX hL ?_; clear hL; intro w hL) | refine zI ?_ | refine zG hX ?_ | refine zO ?_); conv => whnf)
        exact RetReq.mk hL ⟨ns3, L3, ⟨hp1.trans hp3, hO3, hA3⟩, .inl ⟨rfl, rfl⟩⟩
    · refine CallReq.lm (L1 := L1) (L2 := []) (OfBad_fn m1 ab ns1 L1 hA1 z hok) (by rw [List.append_nil]; exact hL) ?_
      clear hL
      intro m3 w hm3 hL
      rw [List.append_nil] at hL
      conv => whnf
      repeat ((first | refine zT ?_ | refine zF ?_ | refine zL hX hL ?_ | refine zB hX hL ?_ | (refine zS hX hL ?_; clear hL; intro w hL) | refine zI ?_ | refine zG hX ?_ | refine zO ?_); conv => whnf)
      exact RetReq.mk hL ⟨ns1, L1, ⟨hp1, hO1, hA1⟩, .inl ⟨rfl, rfl⟩⟩
  | true =>
    conv => whnf
    repeat ((first | refine zT ?_ | refine zF ?_ | refine zL hX hL ?_ | refine zB hX hL ?_ | (refine zS hX hL ?_; clear hL; intro w hL) | refine zI ?_ | refine zG hX ?_ | refine zO ?_); conv => whnf)
    by_cases hok1 : 0 ≤ z ∧ z < ns1.length
    · refine CallReq.mk (L1 := L1) (L2 := []) (Turn_fn m1 ab ns1 L1 hA1 hO1 z hok1) (by rw [List.append_nil]; exact hL) ?_
      clear hL
      rintro u mx L2 w hL - ⟨hmx, z2, ns2, rfl, hi2, hp2, hO2, hA2⟩
      rw [hmx, List.append_nil] at hL
      clear hmx mx
      conv => whnf
      repeat ((first | refine zT ?_ | refine zF ?_ | refine zL hX hL ?_ | refine zB hX hL ?_ | (refine zS hX hL ?_; clear hL; intro w hL) | refine zI ?_ | refine zG hX ?_ | refine zO ?_); conv => whnf)
      by_cases hok : 0 ≤ z2 ∧ z2 < (ns2).length
      · refine CallReq.mk (L1 := L2) (L2 := []) (li.Of_fn m1 ab ns2 L2 hA2 hO2 z2 hi2 hok) (by rw [List.append_nil]; exact hL) ?_
        clear hL
        rintro u m3 L3 w hL hm3 ⟨ns3, e, fv, f, rfl, he, hp3, hO3, hA3, hf3, hb3⟩
        rw [List.append_nil] at hL
        obtain ⟨A3, n3, c3, rfl, -⟩ := id hf3
        rcases he with rfl | rfl
        · conv => whnf
          repeat ((first | refine zT ?_ | refine zF ?_ | refine zL hX hL ?_ | refine zB hX hL ?_ | (refine zS hX hL ?_; clear hL; intro w hL) | refine zI ?_ | refine zG hX ?_ | refine zO ?_); conv => whnf)
          refine NewReq.mk hL ?_
          clear hL
          intro rb w hL
          conv => whnf
          exact RetReq.mk hL ⟨ns3, L3, ⟨(hp1.trans hp2).trans hp3, hO3, hA3⟩, .inr ⟨rb, _, f, rfl, rfl, hf3, hb3⟩⟩
        · conv => whnf
          repeat ((first | refine zT ?_ | refine zF ?_ | refine zL hX hL ?_ | refine zB hX hL ?_ | (refine zS hX hL ?_; clear hL; intro w hL) | refine zI ?_ | refine zG hX ?_ | refine zO ?_); conv => whnf)
          exact RetReq.mk hL ⟨ns3, L3, ⟨(hp1.trans hp2).trans hp3, hO3, hA3⟩, .inl ⟨rfl, rfl⟩⟩
      · refine CallReq.lm (L1 := L2) (L2 := []) (OfBad_fn m1 ab ns2 L2 hA2 z2 hok) (by rw [List.append_nil]; exact hL) ?_
        clear hL
        intro m3 w hm3 hL
        rw [List.append_nil] at hL
        conv => whnf
        repeat ((first | refine zT ?_ | refine zF ?_ | refine zL hX hL ?_ | refine zB hX hL ?_ | (refine zS hX hL ?_; clear hL; intro w hL) | refine zI ?_ | refine zG hX ?_ | refine zO ?_); conv => whnf)
        exact RetReq.mk hL ⟨ns2, L2, ⟨(hp1.trans hp2), hO2, hA2⟩, .inl ⟨rfl, rfl⟩⟩
    · refine CallReq.lm (L1 := L1) (L2 := []) (TurnBad_fn m1 ab ns1 L1 hA1 z hok1) (by rw [List.append_nil]; exact hL) ?_
      clear hL
      intro m2 w hm2 hL
      rw [List.append_nil] at hL
      conv => whnf
      repeat ((first | refine zT ?_ | refine zF ?_ | refine zL hX hL ?_ | refine zB hX hL ?_ | (refine zS hX hL ?_; clear hL; intro w hL) | refine zI ?_ | refine zG hX ?_ | refine zO ?_); conv => whnf)
      refine CallReq.lm (L1 := L1) (L2 := []) (OfBad_fn m2 ab ns1 L1 hA1 (-1) (by omega)) (by rw [List.append_nil]; exact hL) ?_
      clear hL
      intro m3 w hm3 hL
      rw [List.append_nil] at hL
      conv => whnf
      repeat ((first | refine zT ?_ | refine zF ?_ | refine zL hX hL ?_ | refine zB hX hL ?_ | (refine zS hX hL ?_; clear hL; intro w hL) | refine zI ?_ | refine zG hX ?_ | refine zO ?_); conv => whnf)
      exact RetReq.mk hL ⟨ns1, L1, ⟨hp1, hO1, hA1⟩, .inl ⟨rfl, rfl⟩⟩
end Go.Proofs.YtiololnblplloaaGreat.tk
namespace Go.Proofs.YtiololnblplloaaGreat.tk
open Go Go.Ev Go.Proofs Go.Proofs.YtiololnblplloaaGreat.ar Go.Proofs.YtiololnblplloaaGreat.tree Go.Proofs.YtiololnblplloaaGreat.looks
noncomputable def isB (ns : List Nd) (bits : Nat) (f : fo.Fml) : Bool := fo.dec (fo.holdsP f (li.keepQ ns bits (li.atomsP f)))
theorem is_fn (m : Mem) (ab rb : Nat) (ns : List Nd) (La : Ev.Own) (hA : Ar ab ns La) (hO : OkA ns) (bits : Nat) (hb : bits < 256) (gv fv : Value) (f : fo.Fml) (hg : gv.oneCell' = true) (hf : fo.FmV m fv f) (hF : fo.FB ns.length f) :
    FnM Tryz.prog 30 [.pointer (some ⟨rb, 0, none⟩), .int .u8 bits] m ((rb, ruO ab gv fv) :: La) (.bool (isB ns bits f)) := by
  have hacc := li.Accepts_fn m ab bits ns La hA hO hb fv f hf hF
  obtain ⟨A, n, c, rfl, -⟩ := id hf
  refine Fn.enter (N := 15) hX Tryz.func30 rfl rfl (by show _ ≤ _; simp) (fun w0 hL => ?_)
  conv => whnf
  generalize keys ((rb, ruO ab gv (.slice A n c)) :: La) = S0 at hL ⊢
  conv => whnf
  refine DrawReq.plan hX (.fst 0 (.fst 1 (.fst 2 (.fst 3 (.fst 4 (.fst 5 (.fst 6 (.fst 7 (.fst 8 (.alt 9 (.fst 10 (.done)) (.stop))))))))))) [(rb, ruO ab gv (.slice A n c))] (by kernel_rfl) (by kernel_rfl) hL (fun h => h.one 0 rfl) ?_
  clear hL
  intro w hL
  conv => whnf
  repeat ((first | refine zQ hX ?_ | refine zR hX ?_ | refine zA ?_ | refine zT ?_ | refine zF ?_ | refine zL hX hL ?_ | refine zB hX hL ?_ | (refine zS hX hL ?_; clear hL; intro w hL) | refine zI ?_ | refine zG hX ?_ | refine zO ?_); conv => whnf)
  refine CallReq.lm (L1 := La) (L2 := [_]) hacc (Loc.back (L1 := [_]) hL) ?_
  clear hL
  intro m1 w hm1 hL
  have hL := Loc.back (L1 := La) (L2 := [_]) hL
  refine SReq.mk ((hL.one 0 rfl).weaken hm1 (Mem.Le.refl m)) ?_
  conv => whnf
  repeat ((first | refine zQ hX ?_ | refine zR hX ?_ | refine zA ?_ | refine zT ?_ | refine zF ?_ | refine zL hX hL ?_ | refine zB hX hL ?_ | (refine zS hX hL ?_; clear hL; intro w hL) | refine zI ?_ | refine zG hX ?_ | refine zO ?_); conv => whnf)
  exact RetReq.mk hL ⟨rfl, rfl⟩
def RunS (m : Mem) (ab rb : Nat) (f : fo.Fml) : Prop := ∃ gv fv, Cells m ⟨rb, 0, none⟩ [.pointer (some ⟨ab, 0, none⟩), gv, fv] ∧ fo.FmV m fv f
theorem RunS.le {m m' : Mem} {ab rb : Nat} {f : fo.Fml} (h : RunS m ab rb f) (hm : Mem.Le m m') : RunS m' ab rb f := by
  obtain ⟨gv, fv, h1, h2⟩ := h
  exact ⟨gv, fv, h1.le hm, h2.le hm⟩
theorem isS_fn (m : Mem) (ab rb : Nat) (ns : List Nd) (La : Ev.Own) (hA : Ar ab ns La) (hO : OkA ns) (bits : Nat) (hb : bits < 256) (f : fo.Fml) (hr : RunS m ab rb f) (hF : fo.FB ns.length f) :
    FnM Tryz.prog 30 [.pointer (some ⟨rb, 0, none⟩), .int .u8 bits] m La (.bool (isB ns bits f)) := by
  obtain ⟨gv, fv, hc, hf⟩ := hr
  have hacc := li.Accepts_fn m ab bits ns La hA hO hb fv f hf hF
  obtain ⟨A, n, c, rfl, -⟩ := id hf
  have h0 := hc 0 _ rfl
  have h2 := hc 2 _ rfl
  refine Fn.enter (N := 15) hX Tryz.func30 rfl rfl (by show _ ≤ _; simp) (fun w0 hL => ?_)
  conv => whnf
  generalize keys La = S0 at hL ⊢
  conv => whnf
  refine DrawReq.plan hX (.fst 0 (.fst 1 (.fst 2 (.fst 3 (.fst 4 (.fst 5 (.fst 6 (.fst 7 (.fst 8 (.alt 9 (.fst 10 (.done)) (.stop))))))))))) [] (by kernel_rfl) (by kernel_rfl) hL (fun h => h.sublist (List.nil_sublist _)) ?_
  clear hL
  intro w hL
  conv => whnf
  repeat ((first | refine QLdReq.one hX rfl rfl h0 ?_ | refine QLdReq.one hX rfl rfl h2 ?_ | refine zQ hX ?_ | refine zR hX ?_ | refine zA ?_ | refine zT ?_ | refine zF ?_ | refine zL hX hL ?_ | refine zB hX hL ?_ | (refine zS hX hL ?_; clear hL; intro w hL) | refine zI ?_ | refine zG hX ?_ | refine zO ?_); conv => whnf)
  refine CallReq.lm (L1 := La) (L2 := []) hacc (by rw [List.append_nil]; exact hL) ?_
  clear hL
  intro m1 w hm1 hL
  rw [List.append_nil] at hL
  refine SReq.mk ((hL.sublist (List.nil_sublist _)).weaken hm1 (Mem.Le.refl m)) ?_
  conv => whnf
  repeat ((first | refine zQ hX ?_ | refine zR hX ?_ | refine zA ?_ | refine zT ?_ | refine zF ?_ | refine zL hX hL ?_ | refine zB hX hL ?_ | (refine zS hX hL ?_; clear hL; intro w hL) | refine zI ?_ | refine zG hX ?_ | refine zO ?_); conv => whnf)
  exact RetReq.mk hL ⟨rfl, rfl⟩
def FeedQ (ab rb : Nat) (gv : Value) (ns : List Nd) : Mem → Ev.Own → Value → Prop := fun m' L' u => ∃ e fv f ns' La', u = .int .i64 e ∧ (e = 0 ∨ e = 4) ∧ L' = (rb, ruO ab gv fv) :: La' ∧ ns <+: ns' ∧ OkA ns' ∧ Ar ab ns' La' ∧ fo.FmV m' fv f ∧ fo.FB ns'.length f
theorem feed_fn (m : Mem) (ab rb : Nat) (ns : List Nd) (La : Ev.Own) (hA : Ar ab ns La) (hO : OkA ns) (b bits : Nat) (hb8 : b < 256) (hb : bits < 256) (gv fv : Value) (g f : fo.Fml) (hg : fo.FmV m gv g) (hG : fo.FB ns.length g) (hf : fo.FmV m fv f) (hF : fo.FB ns.length f) :
    Ev.Fn Tryz.prog 31 [.pointer (some ⟨rb, 0, none⟩), .int .u8 b, .int .u8 bits] m ((rb, ruO ab gv fv) :: La) (FeedQ ab rb gv ns) := by
  have hnx := li.Next_fn m ab b bits ns La hA hO hb8 hb fv f hf hF
  obtain ⟨A, n, c, rfl, -⟩ := id hf
  obtain ⟨Ag, ng, cg, rfl, -⟩ := id hg
  refine Fn.enter (N := 39) hX Tryz.func31 rfl rfl (by show _ ≤ _; simp) (fun w0 hL => ?_)
  conv => whnf
  generalize keys ((rb, ruO ab (.slice Ag ng cg) (.slice A n c)) :: La) = S0 at hL ⊢
  conv => whnf
  refine DrawReq.plan hX (.fst 0 (.fst 1 (.fst 2 (.fst 3 (.fst 4 (.fst 5 (.fst 6 (.fst 7 (.fst 8 (.fst 9 (.alt 10 (.fst 11 (.fst 12 (.fst 13 (.fst 14 (.fst 15 (.done)))))) (.stop)))))))))))) [(rb, ruO ab (.slice Ag ng cg) (.slice A n c))] (by kernel_rfl) (by kernel_rfl) hL (fun h => h.one 0 rfl) ?_
  clear hL
  intro w hL
  conv => whnf
  repeat ((first | refine zQ hX ?_ | refine zR hX ?_ | refine zA ?_ | refine zT ?_ | refine zF ?_ | refine zL hX hL ?_ | refine zB hX hL ?_ | (refine zS hX hL ?_; clear hL; intro w hL) | refine zI ?_ | refine zG hX ?_ | refine zO ?_); conv => whnf)
  refine CallReq.mk (L1 := La) (L2 := [_]) hnx (Loc.back (L1 := [_]) hL) ?_
  clear hL
  rintro u m1 L1 w hL hm1 ⟨ns1, e, v1, f1, rfl, he, hp1, hO1, hA1, hf1, hF1⟩
  have hL := Loc.back (L1 := L1) (L2 := [_]) hL
  obtain ⟨A1, n1, c1, rfl, -⟩ := id hf1
  refine SReq.mk ((hL.one 0 rfl).weaken hm1 (Mem.Le.refl m)) ?_
  rcases he with rfl | rfl
  rotate_left
  · conv => whnf
    repeat ((first | refine zQ hX ?_ | refine zR hX ?_ | refine zA ?_ | refine zT ?_ | refine zF ?_ | refine zL hX hL ?_ | refine zB hX hL ?_ | (refine zS hX hL ?_; clear hL; intro w hL) | refine zI ?_ | refine zG hX ?_ | refine zO ?_); conv => whnf)
    exact RetReq.mk hL ⟨4, _, f, ns1, L1, rfl, .inr rfl, rfl, hp1, hO1, hA1, hf.le hm1, hF.mono hp1.length_le⟩
  conv => whnf
  repeat ((first | refine zQ hX ?_ | refine zR hX ?_ | refine zA ?_ | refine zT ?_ | refine zF ?_ | refine zL hX hL ?_ | refine zB hX hL ?_ | (refine zS hX hL ?_; clear hL; intro w hL) | refine zI ?_ | refine zG hX ?_ | refine zO ?_); conv => whnf)
  refine CallReq.pure (fo.OrW_fn m1 _ _ f1 g ns1.length hO1.len hf1 (hg.le hm1) hF1 (hG.mono hp1.length_le)) hL ?_
  clear hL
  rintro u m2 w hL hm2 ⟨v2, e2, r, rfl, hr, hR, he2⟩
  obtain ⟨A2, n2, c2, rfl, -⟩ := id hr
  conv => whnf
  repeat ((first | refine zT ?_ | refine zF ?_ | refine zL hX hL ?_ | refine zB hX hL ?_ | (refine zS hX hL ?_; clear hL; intro w hL) | refine zI ?_ | refine zG hX ?_ | refine zO ?_); conv => whnf)
  exact RetReq.mk hL ⟨e2, _, r, ns1, L1, rfl, he2, rfl, hp1, hO1, hA1, hr, hR⟩
theorem edge_fn (m : Mem) (wv : Value) (ws : List Int) (hw : SlI m .u8 wv ws) (at_ : Nat) (h : at_ ≤ ws.length) (step : Int) : Fn0 Tryz.prog 18 [wv, .int .i64 at_, .int .i64 step] m fun _ u => ∃ b, u = .bool b := by
  obtain ⟨W, wn, wc, rfl, hwn, hwc, hwm, -⟩ := id hw
  have hmx : maxLen = 9223372036854775807 := rfl
  have hwl : wn ≤ 9223372036854775807 := by omega
  have hel := hw.elem
  refine Fn.enter (N := 28) hX Tryz.func18 rfl rfl (by show _ ≤ _; simp) (fun w0 hL => ?_)
  conv => whnf
  conv => whnf
  repeat ((first | refine zT ?_ | refine zF ?_ | refine zL hX hL ?_ | refine zB hX hL ?_ | (refine zS hX hL ?_; clear hL; intro w hL) | refine zI ?_ | refine zG hX ?_ | refine zO ?_); conv => whnf)
  by_cases hs : step < 0
  · conv => whnf
    repeat ((first | refine BrReq.yes hs ?_ | refine zT ?_ | refine zF ?_ | refine zL hX hL ?_ | refine zB hX hL ?_ | (refine zS hX hL ?_; clear hL; intro w hL) | refine zI ?_ | refine zG hX ?_ | refine zO ?_); conv => whnf)
    · by_cases h0 : (at_-1 : Int) < 0
      · conv => whnf
        repeat ((first | refine BrReq.yes h0 ?_ | refine zT ?_ | refine zF ?_ | refine zL hX hL ?_ | refine zB hX hL ?_ | (refine zS hX hL ?_; clear hL; intro w hL) | refine zI ?_ | refine zG hX ?_ | refine zO ?_); conv => whnf)
        exact RetReq.mk hL ⟨rfl, _, rfl⟩
      · by_cases h1 : (wn : Int) ≤ at_-1
        · conv => whnf
          repeat ((first | refine BrReq.no h0 ?_ | refine BrReq.yes h1 ?_ | refine zT ?_ | refine zF ?_ | refine zL hX hL ?_ | refine zB hX hL ?_ | (refine zS hX hL ?_; clear hL; intro w hL) | refine zI ?_ | refine zG hX ?_ | refine zO ?_); conv => whnf)
          exact RetReq.mk hL ⟨rfl, _, rfl⟩
        · obtain ⟨j, hj⟩ : ∃ j : Nat, (at_-1 : Int) = j := ⟨(at_-1 : Int).toNat, by omega⟩
          obtain ⟨a, cs, rfl, hl, hc, rfl⟩ := hel j _ (List.getElem?_eq_getElem (by omega))
          have h2 := hc 0 _ rfl
          have add0 : ∀ x : Addr, x.add 0 = x := fun x => by cases x; rfl
          rw [add0] at h2
          conv => whnf
          repeat ((first | refine BrReq.no h0 ?_ | refine BrReq.no h1 ?_ | refine Idx2Req.mk j a (by rw [hj]) (by omega) rfl ?_ | refine LdReq.one hX rfl rfl hL h2 ?_ | refine zT ?_ | refine zF ?_ | refine zL hX hL ?_ | refine zB hX hL ?_ | (refine zS hX hL ?_; clear hL; intro w hL) | refine zI ?_ | refine zG hX ?_ | refine zO ?_); conv => whnf)
          exact RetReq.mk hL ⟨rfl, _, rfl⟩
  · conv => whnf
    repeat ((first | refine BrReq.no hs ?_ | refine zT ?_ | refine zF ?_ | refine zL hX hL ?_ | refine zB hX hL ?_ | (refine zS hX hL ?_; clear hL; intro w hL) | refine zI ?_ | refine zG hX ?_ | refine zO ?_); conv => whnf)
    · by_cases h0 : (at_ : Int) < 0
      · exact absurd h0 (by omega)
      · by_cases h1 : (wn : Int) ≤ at_
        · conv => whnf
          repeat ((first | refine BrReq.no h0 ?_ | refine BrReq.yes h1 ?_ | refine zT ?_ | refine zF ?_ | refine zL hX hL ?_ | refine zB hX hL ?_ | (refine zS hX hL ?_; clear hL; intro w hL) | refine zI ?_ | refine zG hX ?_ | refine zO ?_); conv => whnf)
          exact RetReq.mk hL ⟨rfl, _, rfl⟩
        · obtain ⟨j, hj⟩ : ∃ j : Nat, (at_ : Int) = j := ⟨(at_ : Int).toNat, by omega⟩
          obtain ⟨a, cs, rfl, hl, hc, rfl⟩ := hel j _ (List.getElem?_eq_getElem (by omega))
          have h2 := hc 0 _ rfl
          have add0 : ∀ x : Addr, x.add 0 = x := fun x => by cases x; rfl
          rw [add0] at h2
          conv => whnf
          repeat ((first | refine BrReq.no h0 ?_ | refine BrReq.no h1 ?_ | refine Idx2Req.mk j a (by rw [hj]) (by omega) rfl ?_ | refine LdReq.one hX rfl rfl hL h2 ?_ | refine zT ?_ | refine zF ?_ | refine zL hX hL ?_ | refine zB hX hL ?_ | (refine zS hX hL ?_; clear hL; intro w hL) | refine zI ?_ | refine zG hX ?_ | refine zO ?_); conv => whnf)
          exact RetReq.mk hL ⟨rfl, _, rfl⟩
end Go.Proofs.YtiololnblplloaaGreat.tk
