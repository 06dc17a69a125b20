/- TrackRefuses: part 13 of 14 of the proof. Conditions: none. -/
import Derived.Test.YtiololnblplloaaGreatM12
import Derived.Test.YtiololnblplloaaGreatM11
namespace Go.Proofs.YtiololnblplloaaGreat.tk
open Go Go.Ev Go.Proofs Go.Proofs.YtiololnblplloaaGreat.ar Go.Proofs.YtiololnblplloaaGreat.tree Go.Proofs.YtiololnblplloaaGreat.looks
theorem wrap8 (n : Int) : ∃ q : Nat, IntKind.wrap .u8 n = (q : Int) ∧ q < 256 := by
  have h : IntKind.wrap .u8 n = n % 256 := by
    simp only [IntKind.wrap]
    first | rfl | skip
  refine ⟨(n % 256).toNat, ?_, by omega⟩
  rw [h]; omega
theorem ArReq.any8 {n : Int} {K : Int → Prop} (h : ∀ q : Nat, q < 256 → K q) : ArReq .u8 n K := by
  obtain ⟨q, e, hq⟩ := wrap8 n
  exact ⟨by rw [e]; exact h q hq⟩
theorem ShlReq.any8 {a b : Int} {K : Int → Prop} (hb : 0 ≤ b) (h : ∀ q : Nat, q < 256 → K q) : ShlReq .u8 a b K := by
  obtain ⟨q, e, hq⟩ := wrap8 (a * 2 ^ (min b.toNat (IntKind.bits .u8)))
  exact ⟨hb, by rw [e]; exact h q hq⟩
theorem BitReq.or8 {a b : Int} {K : Int → Prop} (h : ∀ q : Nat, q < 256 → K q) : BitReq .or .u8 a b K := by
  obtain ⟨q, e, hq⟩ := wrap8 ((BitVec.ofInt (IntKind.bits .u8) a ||| BitVec.ofInt (IntKind.bits .u8) b).toNat : Int)
  exact ⟨by show K (IntKind.wrap .u8 _); rw [e]; exact h q hq⟩
theorem BitReq.and8 {a b : Int} {K : Int → Prop} (h : ∀ q : Nat, q < 256 → K q) : BitReq .and .u8 a b K := by
  obtain ⟨q, e, hq⟩ := wrap8 ((BitVec.ofInt (IntKind.bits .u8) a &&& BitVec.ofInt (IntKind.bits .u8) b).toNat : Int)
  exact ⟨by show K (IntKind.wrap .u8 _); rw [e]; exact h q hq⟩
def u8s (bs : List Nat) : List Value := bs.map fun q : Nat => .int .u8 q
def biO (bs : List Nat) : Obj := .cells (toArr (u8s bs)) 5 (0, 0)
def Small8 (bs : List Nat) : Prop := ∀ q ∈ bs, q < 256
theorem Small8.set {bs : List Nat} (h : Small8 bs) {q : Nat} (hq : q < 256) (i : Nat) : Small8 (bs.set i q) := fun x hx => by
  rcases List.mem_or_eq_of_mem_set hx with hx | hx
  · exact h x hx
  · rw [hx]; exact hq
theorem u8s_get {bs : List Nat} {i : Nat} (h : i < bs.length) : (u8s bs)[i]? = some (.int .u8 bs[i]) := by
  unfold u8s; rw [List.getElem?_map, List.getElem?_eq_getElem h]; rfl
theorem u8s_set (bs : List Nat) (i q : Nat) : (u8s bs).set i (.int .u8 q) = u8s (bs.set i q) := by
  unfold u8s; rw [List.map_set]
def PassQ (ab rb g : Nat) (gv : Value) (n : Nat) (ns : List Nd) : Mem → Ev.Own → Value → Prop := fun m' L' u => ∃ e bs fv f ns' La', u = .int .i64 e ∧ (e = 0 ∨ e = 4) ∧ L' = (g, biO bs) :: (rb, ruO ab gv fv) :: La' ∧ (bs.length = n ∧ Small8 bs) ∧
  ns <+: ns' ∧ OkA ns' ∧ Ar ab ns' La' ∧ fo.FmV m' fv f ∧ fo.FB ns'.length f
set_option maxHeartbeats 1000000 in
theorem behind_fn (m : Mem) (ab rb g : Nat) (ns : List Nd) (La : Ev.Own) (hA : Ar ab ns La) (hO : OkA ns) (wv : Value) (ws : List Int) (hw : SlI m .u8 wv ws) (hwb : ∀ z ∈ ws, 0 ≤ z ∧ z ≤ 255) (hwl : ws.length ≤ 100)
    (bs : List Nat) (hbl : bs.length = ws.length + 1) (hb8 : Small8 bs) (mark : Nat) (hmk : mark < 256) (gv fv : Value) (gf f : fo.Fml) (hg : fo.FmV m gv gf) (hG : fo.FB ns.length gf) (hf : fo.FmV m fv f) (hF : fo.FB ns.length f) :
    Ev.Fn Tryz.prog 20 [.pointer (some ⟨rb, 0, none⟩), wv, .slice (some ⟨g, 0, none⟩) (ws.length + 1) (ws.length + 1), .int .u8 mark] m ((g, biO bs) :: (rb, ruO ab gv fv) :: La) (PassQ ab rb g gv (ws.length + 1) ns) := by
  obtain ⟨W, wn, wc, rfl, hwn, hwc, hwm, -⟩ := id hw
  have hmx : maxLen = 9223372036854775807 := rfl
  have hwn' : wn = ws.length := hwn
  obtain ⟨Ag, ng, cg, rfl, -⟩ := id hg
  refine Fn.enter (N := 51) hX Tryz.func20 rfl rfl (by show _ ≤ _; simp) (fun w0 hL => ?_)
  conv => whnf
  generalize keys ((g, biO bs) :: (rb, ruO ab (.slice Ag ng cg) fv) :: La) = S0 at hL ⊢
  conv => whnf
  repeat ((first | refine zT ?_ | refine zF ?_ | refine zL hX hL ?_ | refine zB hX hL ?_ | (refine zS hX hL ?_; clear hL; intro w hL) | refine zI ?_ | refine zG hX ?_ | refine zO ?_); conv => whnf)
  refine LoopReq.inv hX (fun j : Nat => [(14, .int .i64 j)]) [0, 1, 2, 3, 13]
    (fun j w => j ≤ wn + 1 ∧ ∃ m1 bs1 fv1 f1 ns1 La1, (Mem.Le m m1 ∧ bs1.length = ws.length + 1 ∧ Small8 bs1) ∧ (ns <+: ns1 ∧ OkA ns1 ∧ Ar ab ns1 La1 ∧ fo.FmV m1 fv1 f1 ∧ fo.FB ns1.length f1) ∧
      Ev.Loc m S0 w0 m1 ((g, biO bs1) :: (rb, ruO ab (.slice Ag ng cg) fv1) :: La1) w) (fun j => wn + 1 - j) 0
    ⟨by omega, m, bs, fv, f, ns, La, ⟨Mem.Le.refl m, hbl, hb8⟩, ⟨List.prefix_refl _, hO, hA, hf, hF⟩, hL⟩ ⟨rfl, trivial⟩ ?_
  clear hL hf hF hA hO hbl hb8
  rintro j w f0 ⟨hj, m1, bs1, fv1, f1, ns1, La1, ⟨hm1, hbl, hb8⟩, ⟨hp1, hO1, hA1, hf1, hF1⟩, hL⟩
  conv => whnf
  repeat ((first | refine zT ?_ | refine zF ?_ | refine zL hX hL ?_ | refine zB hX hL ?_ | (refine zS hX hL ?_; clear hL; intro w hL) | refine zI ?_ | refine zG hX ?_ | refine zO ?_); conv => whnf)
  refine BrReq.dec (fun hlt => ?_) (fun hlt => ?_)
  rotate_left
  · conv => whnf
    repeat ((first | refine zT ?_ | refine zF ?_ | refine zL hX hL ?_ | refine zB hX hL ?_ | (refine zS hX hL ?_; clear hL; intro w hL) | refine zI ?_ | refine zG hX ?_ | refine zO ?_); conv => whnf)
    exact RetReq.mk hL ⟨0, bs1, fv1, f1, ns1, La1, rfl, .inl rfl, rfl, ⟨hbl, hb8⟩, hp1, hO1, hA1, hf1, hF1⟩
  have hjl : j < bs1.length := by omega
  have hgt := u8s_get hjl
  have hq8 := hb8 _ (List.getElem_mem hjl)
  generalize bs1[j] = q at hgt hq8
  conv => whnf
  repeat ((first | refine Idx2Req.mk j ⟨g, 0, none⟩ rfl (by omega) rfl ?_ | (refine LdReq.ownC hX rfl rfl hL .h (by rw [scale_eq, Nat.zero_add, Nat.mul_one]; exact hgt) ?_) | refine zT ?_ | refine zF ?_ | refine zL hX hL ?_ | refine zB hX hL ?_ | (refine zS hX hL ?_; clear hL; intro w hL) | refine zI ?_ | refine zG hX ?_ | refine zO ?_); conv => whnf)
  obtain ⟨Af, nf, cf, rfl, -⟩ := id hf1
  refine CallReq.lm (L1 := (rb, ruO ab (.slice Ag ng cg) (.slice Af nf cf)) :: La1) (L2 := [_]) (is_fn m1 ab rb ns1 La1 hA1 hO1 q hq8 _ _ f1 rfl hf1 hF1) (Loc.back (L1 := [_]) hL) ?_
  clear hL
  intro m2 w hm2 hL
  have hL := Loc.back (L1 := (rb, ruO ab (.slice Ag ng cg) (.slice Af nf cf)) :: La1) (L2 := [_]) hL
  have hf2 := hf1.le hm2
  have hg2 := hg.le (hm1.trans hm2)
  have hw2 : SlI m2 .u8 (.slice W wn wc) ws := hw.le (hm1.trans hm2) (fun _ _ _ h => h)
  clear hf1
  have add0 : ∀ x : Addr, x.add 0 = x := fun x => by cases x; rfl
  generalize isB ns1 q f1 = t
  cases t with
  | false =>
    conv => whnf
    repeat ((first | refine zT ?_ | refine zF ?_ | refine zL hX hL ?_ | refine zB hX hL ?_ | (refine zS hX hL ?_; clear hL; intro w hL) | refine zI ?_ | refine zG hX ?_ | refine zO ?_); conv => whnf)
    replace hL : Ev.Loc m S0 w0 m2 ((g, biO bs1) :: (rb, ruO ab (.slice Ag ng cg) (.slice Af nf cf)) :: La1) w := hL
    by_cases hend : (j : Int) = wn
    · conv => whnf
      repeat ((first | refine BrReq.yes hend ?_ | refine zT ?_ | refine zF ?_ | refine zL hX hL ?_ | refine zB hX hL ?_ | (refine zS hX hL ?_; clear hL; intro w hL) | refine zI ?_ | refine zG hX ?_ | refine zO ?_); conv => whnf)
      exact RetReq.mk hL ⟨0, bs1, _, f1, ns1, La1, rfl, .inl rfl, rfl, ⟨hbl, hb8⟩, hp1, hO1, hA1, hf2, hF1⟩
    · have hjw : j < ws.length := by omega
      obtain ⟨a, cs, rfl, hl, hc, rfl⟩ := hw2.elem j _ (List.getElem?_eq_getElem hjw)
      have hcc := hc 0 _ rfl
      rw [add0] at hcc
      have hjb : j < (bs1).length := by rw [hbl]; omega
      have hgt2 := u8s_get hjb
      have hz := hwb _ (List.getElem_mem hjw)
      generalize ws[j] = z at hcc hz
      obtain ⟨b, rfl⟩ : ∃ b : Nat, z = b := ⟨z.toNat, by omega⟩
      generalize (bs1)[j] = p at hgt2
      conv => whnf
      repeat ((first | refine BrReq.no hend ?_ | refine zT ?_ | refine zF ?_ | refine zL hX hL ?_ | refine zB hX hL ?_ | (refine zS hX hL ?_; clear hL; intro w hL) | refine zI ?_ | refine zG hX ?_ | refine zO ?_); conv => whnf)
      refine DrawReq.plan hX (.fst 0 (.fst 1 (.fst 2 (.fst 3 (.fst 4 (.fst 5 (.fst 6 (.fst 7 (.fst 8 (.fst 9 (.fst 10 (.fst 11 (.alt 12 (.fst 13 (.done)) (.stop)))))))))))))) [(g, biO bs1)] (by kernel_rfl) (by kernel_rfl) hL (fun h => h.one 0 rfl) ?_
      clear hL
      intro w hL
      conv => whnf
      repeat ((first | refine Idx2Req.mk j a rfl (by omega) rfl ?_ | refine Idx2Req.mk j ⟨g, 0, none⟩ rfl (by omega) rfl ?_ | refine QLdReq.one hX rfl rfl hcc ?_ | (refine QLdReq.ownC hX rfl rfl .h (by rw [scale_eq, Nat.zero_add, Nat.mul_one]; exact hgt2) ?_) | refine zQ hX ?_ | refine zR hX ?_ | refine zA ?_ | refine zT ?_ | refine zF ?_ | refine zL hX hL ?_ | refine zB hX hL ?_ | (refine zS hX hL ?_; clear hL; intro w hL) | refine zI ?_ | refine zG hX ?_ | refine zO ?_); conv => whnf)
      refine ArReq.any8 fun k1 hk1 => ?_
      conv => whnf
      repeat ((first | refine zQ hX ?_ | refine zR hX ?_ | refine zA ?_ | refine zT ?_ | refine zF ?_ | refine zL hX hL ?_ | refine zB hX hL ?_ | (refine zS hX hL ?_; clear hL; intro w hL) | refine zI ?_ | refine zG hX ?_ | refine zO ?_); conv => whnf)
      refine BitReq.and8 fun k2 hk2 => ?_
      conv => whnf
      repeat ((first | refine zQ hX ?_ | refine zR hX ?_ | refine zA ?_ | refine zT ?_ | refine zF ?_ | refine zL hX hL ?_ | refine zB hX hL ?_ | (refine zS hX hL ?_; clear hL; intro w hL) | refine zI ?_ | refine zG hX ?_ | refine zO ?_); conv => whnf)
      refine CallReq.mk (L1 := (rb, ruO ab (.slice Ag ng cg) (.slice Af nf cf)) :: La1) (L2 := [_]) (feed_fn m2 ab rb ns1 La1 hA1 hO1 b k2 (by omega) hk2 _ _ gf f1 hg2 (hG.mono hp1.length_le) hf2 hF1) (Loc.back (L1 := [_]) hL) ?_
      clear hL
      rintro u m3 Lx w hL hm3 ⟨e3, fv3, f3, ns3, La3, rfl, he3, rfl, hp3, hO3, hA3, hf3, hF3⟩
      have hL := Loc.back (L1 := (rb, ruO ab (.slice Ag ng cg) fv3) :: La3) (L2 := [_]) hL
      refine SReq.mk ((hL.one 0 rfl).weaken hm3 ((hm1.trans hm2).trans (Mem.Le.refl m2))) ?_
      obtain ⟨A3, n3, c3, rfl, -⟩ := id hf3
      rcases he3 with rfl | rfl
      · conv => whnf
        repeat ((first | refine zQ hX ?_ | refine zR hX ?_ | refine zA ?_ | refine zT ?_ | refine zF ?_ | refine zL hX hL ?_ | refine zB hX hL ?_ | (refine zS hX hL ?_; clear hL; intro w hL) | refine zI ?_ | refine zG hX ?_ | refine zO ?_); conv => whnf)
        refine ⟨j + 1, ⟨by omega, m3, bs1, _, f3, ns3, La3, ⟨(hm1.trans hm2).trans hm3, hbl, hb8⟩, ⟨hp1.trans hp3, hO3, hA3, hf3, hF3⟩, hL⟩, by first | omega | (simp only; omega) | (simp only [List.length_cons, List.length_append]; omega), ?_, ?_⟩
        · repeat (first | exact trivial | (refine And.intro (by (conv => lhs; whnf) <;> (conv => rhs; whnf) <;> (first | rfl)) ?_))
        · repeat (first | exact trivial | (refine And.intro (by (conv => lhs; whnf) <;> (conv => rhs; whnf) <;> (first | rfl)) ?_))
      · conv => whnf
        repeat ((first | refine zQ hX ?_ | refine zR hX ?_ | refine zA ?_ | refine zT ?_ | refine zF ?_ | refine zL hX hL ?_ | refine zB hX hL ?_ | (refine zS hX hL ?_; clear hL; intro w hL) | refine zI ?_ | refine zG hX ?_ | refine zO ?_); conv => whnf)
        exact RetReq.mk hL ⟨4, bs1, _, f3, ns3, La3, rfl, .inr rfl, rfl, ⟨hbl, hb8⟩, hp1.trans hp3, hO3, hA3, hf3, hF3⟩
  | true =>
    conv => whnf
    repeat ((first | refine Idx2Req.mk j ⟨g, 0, none⟩ rfl (by omega) rfl ?_ | (refine LdReq.ownC hX rfl rfl hL .h (by rw [scale_eq, Nat.zero_add, Nat.mul_one]; exact hgt) ?_) | refine zT ?_ | refine zF ?_ | refine zL hX hL ?_ | refine zB hX hL ?_ | (refine zS hX hL ?_; clear hL; intro w hL) | refine zI ?_ | refine zG hX ?_ | refine zO ?_); conv => whnf)
    refine BitReq.or8 fun q2 hq2 => ?_
    conv => whnf
    repeat ((first | refine Idx2Req.mk j ⟨g, 0, none⟩ rfl (by omega) rfl ?_ | refine zT ?_ | refine zF ?_ | refine zL hX hL ?_ | refine zB hX hL ?_ | (refine zS hX hL ?_; clear hL; intro w hL) | refine zI ?_ | refine zG hX ?_ | refine zO ?_); conv => whnf)
    refine StReq.ownAt hX rfl 0 hL rfl rfl (by rw [scale_eq, Nat.zero_add, Nat.mul_one]; show j + 1 ≤ (u8s bs1).length; unfold u8s; rw [List.length_map]; omega) rfl ?_
    clear hL
    intro w hL
    replace hL : Ev.Loc m S0 w0 m2 ((g, .cells (toArr (spliceL (u8s bs1) (0 + scale j 1) [.int .u8 q2])) 5 (0, 0)) :: (rb, ruO ab (.slice Ag ng cg) (.slice Af nf cf)) :: La1) w := hL
    rw [scale_eq, Nat.zero_add, Nat.mul_one] at hL
    replace hL : Ev.Loc m S0 w0 m2 ((g, .cells (toArr ((u8s bs1).set j (.int .u8 q2))) 5 (0, 0)) :: (rb, ruO ab (.slice Ag ng cg) (.slice Af nf cf)) :: La1) w := hL
    rw [u8s_set] at hL
    have hbl2 : (bs1.set j q2).length = ws.length + 1 := by rw [List.length_set]; exact hbl
    have hb82 := hb8.set hq2 j
    generalize bs1.set j q2 = bs2 at hL hbl2 hb82
    conv => whnf
    repeat ((first | refine zT ?_ | refine zF ?_ | refine zL hX hL ?_ | refine zB hX hL ?_ | (refine zS hX hL ?_; clear hL; intro w hL) | refine zI ?_ | refine zG hX ?_ | refine zO ?_); conv => whnf)
    replace hL : Ev.Loc m S0 w0 m2 ((g, biO bs2) :: (rb, ruO ab (.slice Ag ng cg) (.slice Af nf cf)) :: La1) w := hL
    by_cases hend : (j : Int) = wn
    · conv => whnf
      repeat ((first | refine BrReq.yes hend ?_ | refine zT ?_ | refine zF ?_ | refine zL hX hL ?_ | refine zB hX hL ?_ | (refine zS hX hL ?_; clear hL; intro w hL) | refine zI ?_ | refine zG hX ?_ | refine zO ?_); conv => whnf)
      exact RetReq.mk hL ⟨0, bs2, _, f1, ns1, La1, rfl, .inl rfl, rfl, ⟨hbl2, hb82⟩, hp1, hO1, hA1, hf2, hF1⟩
    · have hjw : j < ws.length := by omega
      obtain ⟨a, cs, rfl, hl, hc, rfl⟩ := hw2.elem j _ (List.getElem?_eq_getElem hjw)
      have hcc := hc 0 _ rfl
      rw [add0] at hcc
      have hjb : j < (bs2).length := by rw [hbl2]; omega
      have hgt2 := u8s_get hjb
      have hz := hwb _ (List.getElem_mem hjw)
      generalize ws[j] = z at hcc hz
      obtain ⟨b, rfl⟩ : ∃ b : Nat, z = b := ⟨z.toNat, by omega⟩
      generalize (bs2)[j] = p at hgt2
      conv => whnf
      repeat ((first | refine BrReq.no hend ?_ | refine zT ?_ | refine zF ?_ | refine zL hX hL ?_ | refine zB hX hL ?_ | (refine zS hX hL ?_; clear hL; intro w hL) | refine zI ?_ | refine zG hX ?_ | refine zO ?_); conv => whnf)
      refine DrawReq.plan hX (.fst 0 (.fst 1 (.fst 2 (.fst 3 (.fst 4 (.fst 5 (.fst 6 (.fst 7 (.fst 8 (.fst 9 (.fst 10 (.fst 11 (.alt 12 (.fst 13 (.done)) (.stop)))))))))))))) [(g, biO bs2)] (by kernel_rfl) (by kernel_rfl) hL (fun h => h.one 0 rfl) ?_
      clear hL
      intro w hL
      conv => whnf
      repeat ((first | refine Idx2Req.mk j a rfl (by omega) rfl ?_ | refine Idx2Req.mk j ⟨g, 0, none⟩ rfl (by omega) rfl ?_ | refine QLdReq.one hX rfl rfl hcc ?_ | (refine QLdReq.ownC hX rfl rfl .h (by rw [scale_eq, Nat.zero_add, Nat.mul_one]; exact hgt2) ?_) | refine zQ hX ?_ | refine zR hX ?_ | refine zA ?_ | refine zT ?_ | refine zF ?_ | refine zL hX hL ?_ | refine zB hX hL ?_ | (refine zS hX hL ?_; clear hL; intro w hL) | refine zI ?_ | refine zG hX ?_ | refine zO ?_); conv => whnf)
      refine ArReq.any8 fun k1 hk1 => ?_
      conv => whnf
      repeat ((first | refine zQ hX ?_ | refine zR hX ?_ | refine zA ?_ | refine zT ?_ | refine zF ?_ | refine zL hX hL ?_ | refine zB hX hL ?_ | (refine zS hX hL ?_; clear hL; intro w hL) | refine zI ?_ | refine zG hX ?_ | refine zO ?_); conv => whnf)
      refine BitReq.and8 fun k2 hk2 => ?_
      conv => whnf
      repeat ((first | refine zQ hX ?_ | refine zR hX ?_ | refine zA ?_ | refine zT ?_ | refine zF ?_ | refine zL hX hL ?_ | refine zB hX hL ?_ | (refine zS hX hL ?_; clear hL; intro w hL) | refine zI ?_ | refine zG hX ?_ | refine zO ?_); conv => whnf)
      refine CallReq.mk (L1 := (rb, ruO ab (.slice Ag ng cg) (.slice Af nf cf)) :: La1) (L2 := [_]) (feed_fn m2 ab rb ns1 La1 hA1 hO1 b k2 (by omega) hk2 _ _ gf f1 hg2 (hG.mono hp1.length_le) hf2 hF1) (Loc.back (L1 := [_]) hL) ?_
      clear hL
      rintro u m3 Lx w hL hm3 ⟨e3, fv3, f3, ns3, La3, rfl, he3, rfl, hp3, hO3, hA3, hf3, hF3⟩
      have hL := Loc.back (L1 := (rb, ruO ab (.slice Ag ng cg) fv3) :: La3) (L2 := [_]) hL
      refine SReq.mk ((hL.one 0 rfl).weaken hm3 ((hm1.trans hm2).trans (Mem.Le.refl m2))) ?_
      obtain ⟨A3, n3, c3, rfl, -⟩ := id hf3
      rcases he3 with rfl | rfl
      · conv => whnf
        repeat ((first | refine zQ hX ?_ | refine zR hX ?_ | refine zA ?_ | refine zT ?_ | refine zF ?_ | refine zL hX hL ?_ | refine zB hX hL ?_ | (refine zS hX hL ?_; clear hL; intro w hL) | refine zI ?_ | refine zG hX ?_ | refine zO ?_); conv => whnf)
        refine ⟨j + 1, ⟨by omega, m3, bs2, _, f3, ns3, La3, ⟨(hm1.trans hm2).trans hm3, hbl2, hb82⟩, ⟨hp1.trans hp3, hO3, hA3, hf3, hF3⟩, hL⟩, by first | omega | (simp only; omega) | (simp only [List.length_cons, List.length_append]; omega), ?_, ?_⟩
        · repeat (first | exact trivial | (refine And.intro (by (conv => lhs; whnf) <;> (conv => rhs; whnf) <;> (first | rfl)) ?_))
        · repeat (first | exact trivial | (refine And.intro (by (conv => lhs; whnf) <;> (conv => rhs; whnf) <;> (first | rfl)) ?_))
      · conv => whnf
        repeat ((first | refine zQ hX ?_ | refine zR hX ?_ | refine zA ?_ | refine zT ?_ | refine zF ?_ | refine zL hX hL ?_ | refine zB hX hL ?_ | (refine zS hX hL ?_; clear hL; intro w hL) | refine zI ?_ | refine zG hX ?_ | refine zO ?_); conv => whnf)
        exact RetReq.mk hL ⟨4, bs2, _, f3, ns3, La3, rfl, .inr rfl, rfl, ⟨hbl2, hb82⟩, hp1.trans hp3, hO3, hA3, hf3, hF3⟩
set_option maxHeartbeats 1000000 in
theorem ahead_fn (m : Mem) (ab rb g : Nat) (ns : List Nd) (La : Ev.Own) (hA : Ar ab ns La) (hO : OkA ns) (wv : Value) (ws : List Int) (hw : SlI m .u8 wv ws) (hwb : ∀ z ∈ ws, 0 ≤ z ∧ z ≤ 255) (hwl : ws.length ≤ 100)
    (bs : List Nat) (hbl : bs.length = ws.length + 1) (hb8 : Small8 bs) (mark : Nat) (hmk : mark < 256) (gv fv : Value) (gf f : fo.Fml) (hg : fo.FmV m gv gf) (hG : fo.FB ns.length gf) (hf : fo.FmV m fv f) (hF : fo.FB ns.length f) :
    Ev.Fn Tryz.prog 21 [.pointer (some ⟨rb, 0, none⟩), wv, .slice (some ⟨g, 0, none⟩) (ws.length + 1) (ws.length + 1), .int .u8 mark] m ((g, biO bs) :: (rb, ruO ab gv fv) :: La) (PassQ ab rb g gv (ws.length + 1) ns) := by
  obtain ⟨W, wn, wc, rfl, hwn, hwc, hwm, -⟩ := id hw
  have hmx : maxLen = 9223372036854775807 := rfl
  have hwn' : wn = ws.length := hwn
  obtain ⟨Ag, ng, cg, rfl, -⟩ := id hg
  refine Fn.enter (N := 49) hX Tryz.func21 rfl rfl (by show _ ≤ _; simp) (fun w0 hL => ?_)
  conv => whnf
  generalize keys ((g, biO bs) :: (rb, ruO ab (.slice Ag ng cg) fv) :: La) = S0 at hL ⊢
  conv => whnf
  repeat ((first | refine zT ?_ | refine zF ?_ | refine zL hX hL ?_ | refine zB hX hL ?_ | (refine zS hX hL ?_; clear hL; intro w hL) | refine zI ?_ | refine zG hX ?_ | refine zO ?_); conv => whnf)
  refine LoopReq.inv hX (fun j : Nat => [(9, .int .i64 j)]) [0, 1, 2, 3]
    (fun j w => j ≤ wn ∧ ∃ m1 bs1 fv1 f1 ns1 La1, (Mem.Le m m1 ∧ bs1.length = ws.length + 1 ∧ Small8 bs1) ∧ (ns <+: ns1 ∧ OkA ns1 ∧ Ar ab ns1 La1 ∧ fo.FmV m1 fv1 f1 ∧ fo.FB ns1.length f1) ∧
      Ev.Loc m S0 w0 m1 ((g, biO bs1) :: (rb, ruO ab (.slice Ag ng cg) fv1) :: La1) w) (fun j => j) wn
    ⟨by omega, m, bs, fv, f, ns, La, ⟨Mem.Le.refl m, hbl, hb8⟩, ⟨List.prefix_refl _, hO, hA, hf, hF⟩, hL⟩ ⟨rfl, trivial⟩ ?_
  clear hL hf hF hA hO hbl hb8
  rintro j w f0 ⟨hj, m1, bs1, fv1, f1, ns1, La1, ⟨hm1, hbl, hb8⟩, ⟨hp1, hO1, hA1, hf1, hF1⟩, hL⟩
  conv => whnf
  repeat ((first | refine zT ?_ | refine zF ?_ | refine zL hX hL ?_ | refine zB hX hL ?_ | (refine zS hX hL ?_; clear hL; intro w hL) | refine zI ?_ | refine zG hX ?_ | refine zO ?_); conv => whnf)
  have hjl : j < bs1.length := by omega
  have hgt := u8s_get hjl
  have hq8 := hb8 _ (List.getElem_mem hjl)
  generalize bs1[j] = q at hgt hq8
  conv => whnf
  repeat ((first | refine Idx2Req.mk j ⟨g, 0, none⟩ rfl (by omega) rfl ?_ | (refine LdReq.ownC hX rfl rfl hL .h (by rw [scale_eq, Nat.zero_add, Nat.mul_one]; exact hgt) ?_) | refine zT ?_ | refine zF ?_ | refine zL hX hL ?_ | refine zB hX hL ?_ | (refine zS hX hL ?_; clear hL; intro w hL) | refine zI ?_ | refine zG hX ?_ | refine zO ?_); conv => whnf)
  obtain ⟨Af, nf, cf, rfl, -⟩ := id hf1
  refine CallReq.lm (L1 := (rb, ruO ab (.slice Ag ng cg) (.slice Af nf cf)) :: La1) (L2 := [_]) (is_fn m1 ab rb ns1 La1 hA1 hO1 q hq8 _ _ f1 rfl hf1 hF1) (Loc.back (L1 := [_]) hL) ?_
  clear hL
  intro m2 w hm2 hL
  have hL := Loc.back (L1 := (rb, ruO ab (.slice Ag ng cg) (.slice Af nf cf)) :: La1) (L2 := [_]) hL
  have hf2 := hf1.le hm2
  have hg2 := hg.le (hm1.trans hm2)
  have hw2 : SlI m2 .u8 (.slice W wn wc) ws := hw.le (hm1.trans hm2) (fun _ _ _ h => h)
  clear hf1
  have add0 : ∀ x : Addr, x.add 0 = x := fun x => by cases x; rfl
  generalize isB ns1 q f1 = t
  cases t with
  | false =>
    conv => whnf
    repeat ((first | refine zT ?_ | refine zF ?_ | refine zL hX hL ?_ | refine zB hX hL ?_ | (refine zS hX hL ?_; clear hL; intro w hL) | refine zI ?_ | refine zG hX ?_ | refine zO ?_); conv => whnf)
    replace hL : Ev.Loc m S0 w0 m2 ((g, biO bs1) :: (rb, ruO ab (.slice Ag ng cg) (.slice Af nf cf)) :: La1) w := hL
    by_cases hend : (j : Int) = 0
    · conv => whnf
      repeat ((first | refine BrReq.yes hend ?_ | refine zT ?_ | refine zF ?_ | refine zL hX hL ?_ | refine zB hX hL ?_ | (refine zS hX hL ?_; clear hL; intro w hL) | refine zI ?_ | refine zG hX ?_ | refine zO ?_); conv => whnf)
      exact RetReq.mk hL ⟨0, bs1, _, f1, ns1, La1, rfl, .inl rfl, rfl, ⟨hbl, hb8⟩, hp1, hO1, hA1, hf2, hF1⟩
    · have hjw : j - 1 < ws.length := by omega
      obtain ⟨a, cs, rfl, hl, hc, rfl⟩ := hw2.elem (j - 1) _ (List.getElem?_eq_getElem hjw)
      have hcc := hc 0 _ rfl
      rw [add0] at hcc
      have hjb : j < (bs1).length := by rw [hbl]; omega
      have hgt2 := u8s_get hjb
      have hz := hwb _ (List.getElem_mem hjw)
      generalize ws[j - 1] = z at hcc hz
      obtain ⟨b, rfl⟩ : ∃ b : Nat, z = b := ⟨z.toNat, by omega⟩
      generalize (bs1)[j] = p at hgt2
      conv => whnf
      repeat ((first | refine BrReq.no hend ?_ | refine zT ?_ | refine zF ?_ | refine zL hX hL ?_ | refine zB hX hL ?_ | (refine zS hX hL ?_; clear hL; intro w hL) | refine zI ?_ | refine zG hX ?_ | refine zO ?_); conv => whnf)
      refine DrawReq.plan hX (.fst 0 (.fst 1 (.fst 2 (.fst 3 (.fst 4 (.fst 5 (.fst 6 (.fst 7 (.fst 8 (.fst 9 (.fst 10 (.fst 11 (.fst 12 (.alt 13 (.fst 14 (.done)) (.stop))))))))))))))) [(g, biO bs1)] (by kernel_rfl) (by kernel_rfl) hL (fun h => h.one 0 rfl) ?_
      clear hL
      intro w hL
      conv => whnf
      repeat ((first | refine Idx2Req.mk (j - 1) a (by omega) (by omega) rfl ?_ | refine Idx2Req.mk j ⟨g, 0, none⟩ rfl (by omega) rfl ?_ | refine QLdReq.one hX rfl rfl hcc ?_ | (refine QLdReq.ownC hX rfl rfl .h (by rw [scale_eq, Nat.zero_add, Nat.mul_one]; exact hgt2) ?_) | refine zQ hX ?_ | refine zR hX ?_ | refine zA ?_ | refine zT ?_ | refine zF ?_ | refine zL hX hL ?_ | refine zB hX hL ?_ | (refine zS hX hL ?_; clear hL; intro w hL) | refine zI ?_ | refine zG hX ?_ | refine zO ?_); conv => whnf)
      refine ArReq.any8 fun k1 hk1 => ?_
      conv => whnf
      repeat ((first | refine zQ hX ?_ | refine zR hX ?_ | refine zA ?_ | refine zT ?_ | refine zF ?_ | refine zL hX hL ?_ | refine zB hX hL ?_ | (refine zS hX hL ?_; clear hL; intro w hL) | refine zI ?_ | refine zG hX ?_ | refine zO ?_); conv => whnf)
      refine BitReq.and8 fun k2 hk2 => ?_
      conv => whnf
      repeat ((first | refine zQ hX ?_ | refine zR hX ?_ | refine zA ?_ | refine zT ?_ | refine zF ?_ | refine zL hX hL ?_ | refine zB hX hL ?_ | (refine zS hX hL ?_; clear hL; intro w hL) | refine zI ?_ | refine zG hX ?_ | refine zO ?_); conv => whnf)
      refine CallReq.mk (L1 := (rb, ruO ab (.slice Ag ng cg) (.slice Af nf cf)) :: La1) (L2 := [_]) (feed_fn m2 ab rb ns1 La1 hA1 hO1 b k2 (by omega) hk2 _ _ gf f1 hg2 (hG.mono hp1.length_le) hf2 hF1) (Loc.back (L1 := [_]) hL) ?_
      clear hL
      rintro u m3 Lx w hL hm3 ⟨e3, fv3, f3, ns3, La3, rfl, he3, rfl, hp3, hO3, hA3, hf3, hF3⟩
      have hL := Loc.back (L1 := (rb, ruO ab (.slice Ag ng cg) fv3) :: La3) (L2 := [_]) hL
      refine SReq.mk ((hL.one 0 rfl).weaken hm3 ((hm1.trans hm2).trans (Mem.Le.refl m2))) ?_
      obtain ⟨A3, n3, c3, rfl, -⟩ := id hf3
      rcases he3 with rfl | rfl
      · conv => whnf
        repeat ((first | refine zQ hX ?_ | refine zR hX ?_ | refine zA ?_ | refine zT ?_ | refine zF ?_ | refine zL hX hL ?_ | refine zB hX hL ?_ | (refine zS hX hL ?_; clear hL; intro w hL) | refine zI ?_ | refine zG hX ?_ | refine zO ?_); conv => whnf)
        refine ⟨j - 1, ⟨by omega, m3, bs1, _, f3, ns3, La3, ⟨(hm1.trans hm2).trans hm3, hbl, hb8⟩, ⟨hp1.trans hp3, hO3, hA3, hf3, hF3⟩, hL⟩, by first | omega | (simp only; omega) | (simp only [List.length_cons, List.length_append]; omega), ?_, ?_⟩
        · repeat (first | exact trivial | (refine And.intro (by (conv => lhs; whnf) <;> (conv => rhs; whnf) <;> (first | rfl | ((exact congrArg (Value.int .i64) (by omega))))) ?_))
        · repeat (first | exact trivial | (refine And.intro (by (conv => lhs; whnf) <;> (conv => rhs; whnf) <;> (first | rfl | ((exact congrArg (Value.int .i64) (by omega))))) ?_))
      · conv => whnf
        repeat ((first | refine zQ hX ?_ | refine zR hX ?_ | refine zA ?_ | refine zT ?_ | refine zF ?_ | refine zL hX hL ?_ | refine zB hX hL ?_ | (refine zS hX hL ?_; clear hL; intro w hL) | refine zI ?_ | refine zG hX ?_ | refine zO ?_); conv => whnf)
        exact RetReq.mk hL ⟨4, bs1, _, f3, ns3, La3, rfl, .inr rfl, rfl, ⟨hbl, hb8⟩, hp1.trans hp3, hO3, hA3, hf3, hF3⟩
  | true =>
    conv => whnf
    repeat ((first | refine Idx2Req.mk j ⟨g, 0, none⟩ rfl (by omega) rfl ?_ | (refine LdReq.ownC hX rfl rfl hL .h (by rw [scale_eq, Nat.zero_add, Nat.mul_one]; exact hgt) ?_) | refine zT ?_ | refine zF ?_ | refine zL hX hL ?_ | refine zB hX hL ?_ | (refine zS hX hL ?_; clear hL; intro w hL) | refine zI ?_ | refine zG hX ?_ | refine zO ?_); conv => whnf)
    refine BitReq.or8 fun q2 hq2 => ?_
    conv => whnf
    repeat ((first | refine Idx2Req.mk j ⟨g, 0, none⟩ rfl (by omega) rfl ?_ | refine zT ?_ | refine zF ?_ | refine zL hX hL ?_ | refine zB hX hL ?_ | (refine zS hX hL ?_; clear hL; intro w hL) | refine zI ?_ | refine zG hX ?_ | refine zO ?_); conv => whnf)
    refine StReq.ownAt hX rfl 0 hL rfl rfl (by rw [scale_eq, Nat.zero_add, Nat.mul_one]; show j + 1 ≤ (u8s bs1).length; unfold u8s; rw [List.length_map]; omega) rfl ?_
    clear hL
    intro w hL
    replace hL : Ev.Loc m S0 w0 m2 ((g, .cells (toArr (spliceL (u8s bs1) (0 + scale j 1) [.int .u8 q2])) 5 (0, 0)) :: (rb, ruO ab (.slice Ag ng cg) (.slice Af nf cf)) :: La1) w := hL
    rw [scale_eq, Nat.zero_add, Nat.mul_one] at hL
    replace hL : Ev.Loc m S0 w0 m2 ((g, .cells (toArr ((u8s bs1).set j (.int .u8 q2))) 5 (0, 0)) :: (rb, ruO ab (.slice Ag ng cg) (.slice Af nf cf)) :: La1) w := hL
    rw [u8s_set] at hL
    have hbl2 : (bs1.set j q2).length = ws.length + 1 := by rw [List.length_set]; exact hbl
    have hb82 := hb8.set hq2 j
    generalize bs1.set j q2 = bs2 at hL hbl2 hb82
    conv => whnf
    repeat ((first | refine zT ?_ | refine zF ?_ | refine zL hX hL ?_ | refine zB hX hL ?_ | (refine zS hX hL ?_; clear hL; intro w hL) | refine zI ?_ | refine zG hX ?_ | refine zO ?_); conv => whnf)
    replace hL : Ev.Loc m S0 w0 m2 ((g, biO bs2) :: (rb, ruO ab (.slice Ag ng cg) (.slice Af nf cf)) :: La1) w := hL
    by_cases hend : (j : Int) = 0
    · conv => whnf
      repeat ((first | refine BrReq.yes hend ?_ | refine zT ?_ | refine zF ?_ | refine zL hX hL ?_ | refine zB hX hL ?_ | (refine zS hX hL ?_; clear hL; intro w hL) | refine zI ?_ | refine zG hX ?_ | refine zO ?_); conv => whnf)
      exact RetReq.mk hL ⟨0, bs2, _, f1, ns1, La1, rfl, .inl rfl, rfl, ⟨hbl2, hb82⟩, hp1, hO1, hA1, hf2, hF1⟩
    · have hjw : j - 1 < ws.length := by omega
      obtain ⟨a, cs, rfl, hl, hc, rfl⟩ := hw2.elem (j - 1) _ (List.getElem?_eq_getElem hjw)
      have hcc := hc 0 _ rfl
      rw [add0] at hcc
      have hjb : j < (bs2).length := by rw [hbl2]; omega
      have hgt2 := u8s_get hjb
      have hz := hwb _ (List.getElem_mem hjw)
      generalize ws[j - 1] = z at hcc hz
      obtain ⟨b, rfl⟩ : ∃ b : Nat, z = b := ⟨z.toNat, by omega⟩
      generalize (bs2)[j] = p at hgt2
      conv => whnf
      repeat ((first | refine BrReq.no hend ?_ | refine zT ?_ | refine zF ?_ | refine zL hX hL ?_ | refine zB hX hL ?_ | (refine zS hX hL ?_; clear hL; intro w hL) | refine zI ?_ | refine zG hX ?_ | refine zO ?_); conv => whnf)
      refine DrawReq.plan hX (.fst 0 (.fst 1 (.fst 2 (.fst 3 (.fst 4 (.fst 5 (.fst 6 (.fst 7 (.fst 8 (.fst 9 (.fst 10 (.fst 11 (.fst 12 (.alt 13 (.fst 14 (.done)) (.stop))))))))))))))) [(g, biO bs2)] (by kernel_rfl) (by kernel_rfl) hL (fun h => h.one 0 rfl) ?_
      clear hL
      intro w hL
      conv => whnf
      repeat ((first | refine Idx2Req.mk (j - 1) a (by omega) (by omega) rfl ?_ | refine Idx2Req.mk j ⟨g, 0, none⟩ rfl (by omega) rfl ?_ | refine QLdReq.one hX rfl rfl hcc ?_ | (refine QLdReq.ownC hX rfl rfl .h (by rw [scale_eq, Nat.zero_add, Nat.mul_one]; exact hgt2) ?_) | refine zQ hX ?_ | refine zR hX ?_ | refine zA ?_ | refine zT ?_ | refine zF ?_ | refine zL hX hL ?_ | refine zB hX hL ?_ | (refine zS hX hL ?_; clear hL; intro w hL) | refine zI ?_ | refine zG hX ?_ | refine zO ?_); conv => whnf)
      refine ArReq.any8 fun k1 hk1 => ?_
      conv => whnf
      repeat ((first | refine zQ hX ?_ | refine zR hX ?_ | refine zA ?_ | refine zT ?_ | refine zF ?_ | refine zL hX hL ?_ | refine zB hX hL ?_ | (refine zS hX hL ?_; clear hL; intro w hL) | refine zI ?_ | refine zG hX ?_ | refine zO ?_); conv => whnf)
      refine BitReq.and8 fun k2 hk2 => ?_
      conv => whnf
      repeat ((first | refine zQ hX ?_ | refine zR hX ?_ | refine zA ?_ | refine zT ?_ | refine zF ?_ | refine zL hX hL ?_ | refine zB hX hL ?_ | (refine zS hX hL ?_; clear hL; intro w hL) | refine zI ?_ | refine zG hX ?_ | refine zO ?_); conv => whnf)
      refine CallReq.mk (L1 := (rb, ruO ab (.slice Ag ng cg) (.slice Af nf cf)) :: La1) (L2 := [_]) (feed_fn m2 ab rb ns1 La1 hA1 hO1 b k2 (by omega) hk2 _ _ gf f1 hg2 (hG.mono hp1.length_le) hf2 hF1) (Loc.back (L1 := [_]) hL) ?_
      clear hL
      rintro u m3 Lx w hL hm3 ⟨e3, fv3, f3, ns3, La3, rfl, he3, rfl, hp3, hO3, hA3, hf3, hF3⟩
      have hL := Loc.back (L1 := (rb, ruO ab (.slice Ag ng cg) fv3) :: La3) (L2 := [_]) hL
      refine SReq.mk ((hL.one 0 rfl).weaken hm3 ((hm1.trans hm2).trans (Mem.Le.refl m2))) ?_
      obtain ⟨A3, n3, c3, rfl, -⟩ := id hf3
      rcases he3 with rfl | rfl
      · conv => whnf
        repeat ((first | refine zQ hX ?_ | refine zR hX ?_ | refine zA ?_ | refine zT ?_ | refine zF ?_ | refine zL hX hL ?_ | refine zB hX hL ?_ | (refine zS hX hL ?_; clear hL; intro w hL) | refine zI ?_ | refine zG hX ?_ | refine zO ?_); conv => whnf)
        refine ⟨j - 1, ⟨by omega, m3, bs2, _, f3, ns3, La3, ⟨(hm1.trans hm2).trans hm3, hbl2, hb82⟩, ⟨hp1.trans hp3, hO3, hA3, hf3, hF3⟩, hL⟩, by first | omega | (simp only; omega) | (simp only [List.length_cons, List.length_append]; omega), ?_, ?_⟩
        · repeat (first | exact trivial | (refine And.intro (by (conv => lhs; whnf) <;> (conv => rhs; whnf) <;> (first | rfl | ((exact congrArg (Value.int .i64) (by omega))))) ?_))
        · repeat (first | exact trivial | (refine And.intro (by (conv => lhs; whnf) <;> (conv => rhs; whnf) <;> (first | rfl | ((exact congrArg (Value.int .i64) (by omega))))) ?_))
      · conv => whnf
        repeat ((first | refine zQ hX ?_ | refine zR hX ?_ | refine zA ?_ | refine zT ?_ | refine zF ?_ | refine zL hX hL ?_ | refine zB hX hL ?_ | (refine zS hX hL ?_; clear hL; intro w hL) | refine zI ?_ | refine zG hX ?_ | refine zO ?_); conv => whnf)
        exact RetReq.mk hL ⟨4, bs2, _, f3, ns3, La3, rfl, .inr rfl, rfl, ⟨hbl2, hb82⟩, hp1.trans hp3, hO3, hA3, hf3, hF3⟩
end Go.Proofs.YtiololnblplloaaGreat.tk
namespace Go.Proofs.YtiololnblplloaaGreat.tk
open Go Go.Ev Go.Proofs Go.Proofs.YtiololnblplloaaGreat.tree Go.Proofs.YtiololnblplloaaGreat.looks
theorem equalS_fn (m : Mem) (v v' : Value) (rs rs' : List Re) (f : Re → Re → Bool) (hs : Sl m 9 (RepRe m) v rs) (hs' : Sl m 9 (RepRe m) v' rs')
    (hf : ∀ p ∈ rs, ∀ q cs cs', RepRe m cs p → RepRe m cs' q → FnV Tryz.prog 26 [.agg (toArr cs), .agg (toArr cs')] m (.bool (f p q))) :
    FnV Tryz.prog 25 [v, v', .func (.func 26) #[] #[]] m (.bool (decide (rs.length = rs'.length) && (List.zipWith f rs rs').all id)) := by
  have hs0 := hs
  have hs0' := hs'
  obtain ⟨A, n, c, rfl, hn, hc, hm, -⟩ := hs
  obtain ⟨A', n', c', rfl, hn', hc', hm', -⟩ := hs'
  have he := hs0.elem
  have he' := hs0'.elem
  have hmx : maxLen = 9223372036854775807 := rfl
  refine Fn.enter (N := 32) hX Tryz.func25 rfl rfl (by show _ ≤ _; simp) (fun w0 hL => ?_)
  conv => whnf
  conv => whnf
  repeat ((first | refine zT ?_ | refine zF ?_ | refine zL hX hL ?_ | refine zB hX hL ?_ | (refine zS hX hL ?_; clear hL; intro w hL) | refine zI ?_ | refine zG hX ?_ | refine zO ?_); conv => whnf)
  refine BrReq.dec (fun g6 => ?_) (fun g6 => ?_)
  · conv => whnf
    repeat ((first | refine zT ?_ | refine zF ?_ | refine zL hX hL ?_ | refine zB hX hL ?_ | (refine zS hX hL ?_; clear hL; intro w hL) | refine zI ?_ | refine zG hX ?_ | refine zO ?_); conv => whnf)
    exact RetReq.bool hL (by rw [decide_eq_false (by omega), Bool.false_and])
  conv => whnf
  repeat ((first | refine zT ?_ | refine zF ?_ | refine zL hX hL ?_ | refine zB hX hL ?_ | (refine zS hX hL ?_; clear hL; intro w hL) | refine zI ?_ | refine zG hX ?_ | refine zO ?_); conv => whnf)
  have hg6 : rs.length = rs'.length := by omega
  refine LoopReq.inv hX (fun j : Nat => [(17, .int .i64 j)]) [1, 2, 15, 16]
    (fun j w => (j ≤ n ∧ ∀ (i : Nat) (x y : Re), i < j → rs[i]? = some x → rs'[i]? = some y → f x y = true) ∧ Ev.Loc m [] w0 m [] w) (fun j => n - j) 0
    ⟨⟨by omega, fun i x y h => absurd h (by omega)⟩, hL⟩ ⟨rfl, trivial⟩ ?_
  clear hL
  rintro j w g ⟨⟨hj, hdone⟩, hL⟩
  conv => whnf
  repeat ((first | refine zT ?_ | refine zF ?_ | refine zL hX hL ?_ | refine zB hX hL ?_ | (refine zS hX hL ?_; clear hL; intro w hL) | refine zI ?_ | refine zG hX ?_ | refine zO ?_); conv => whnf)
  refine BrReq.dec (fun hlt => ?_) (fun hlt => ?_)
  · have hlt' : j < rs.length := by omega
    have hlt2 : j < rs'.length := by omega
    obtain ⟨a, cs1, rfl, hl9, hcells, hrep⟩ := he j _ (List.getElem?_eq_getElem hlt')
    obtain ⟨k1, u0, u1, u2, u3, A1, n1, c1, lo1, hi1, neg1, rfl⟩ := hrep.form
    obtain ⟨a', cs2, rfl, hl9', hcells', hrep'⟩ := he' j _ (List.getElem?_eq_getElem hlt2)
    obtain ⟨k2, v0, v1, v2, v3, A2, n2, c2, lo2, hi2, neg2, rfl⟩ := hrep'.form
    conv => whnf
    repeat ((first | refine Idx2Req.mk j a rfl (by omega) rfl ?_ | refine LdReq.agg hX rfl rfl hL hl9 hcells ?_ | refine zT ?_ | refine zF ?_ | refine zL hX hL ?_ | refine zB hX hL ?_ | (refine zS hX hL ?_; clear hL; intro w hL) | refine zI ?_ | refine zG hX ?_ | refine zO ?_); conv => whnf)
    refine NewReq.mk hL ?_
    clear hL
    intro b8 w hL
    conv => whnf
    conv => whnf
    repeat ((first | refine Idx2Req.mk j a' rfl (by omega) rfl ?_ | refine LdReq.agg hX rfl rfl hL hl9' hcells' ?_ | refine zT ?_ | refine zF ?_ | refine zL hX hL ?_ | refine zB hX hL ?_ | (refine zS hX hL ?_; clear hL; intro w hL) | refine zI ?_ | refine zG hX ?_ | refine zO ?_); conv => whnf)
    refine NewReq.mk hL ?_
    clear hL
    intro b9 w hL
    conv => whnf
    conv => whnf
    repeat ((first | refine zT ?_ | refine zF ?_ | refine zL hX hL ?_ | refine zB hX hL ?_ | (refine zS hX hL ?_; clear hL; intro w hL) | refine zI ?_ | refine zG hX ?_ | refine zO ?_); conv => whnf)
    refine CallReq.val (hf _ (List.getElem_mem hlt') _ _ _ hrep hrep') hL ?_
    clear hL
    intro w hL
    conv => whnf
    repeat ((first | refine zT ?_ | refine zF ?_ | refine zL hX hL ?_ | refine zB hX hL ?_ | (refine zS hX hL ?_; clear hL; intro w hL) | refine zI ?_ | refine zG hX ?_ | refine zO ?_); conv => whnf)
    refine BrReq.not ?_
    refine BrReq.bool (fun hb => ?_) (fun hb => ?_)
    · have hd : ∀ (i : Nat) (x y : Re), i < j + 1 → rs[i]? = some x → rs'[i]? = some y → f x y = true := by
        intro i x y hi hx hy
        by_cases e : i = j
        · subst e
          rw [List.getElem?_eq_getElem hlt'] at hx; rw [List.getElem?_eq_getElem hlt2] at hy
          cases hx; cases hy; exact hb
        · exact hdone i x y (by omega) hx hy
      conv => whnf
      repeat ((first | refine zT ?_ | refine zF ?_ | refine zL hX hL ?_ | refine zB hX hL ?_ | (refine zS hX hL ?_; clear hL; intro w hL) | refine zI ?_ | refine zG hX ?_ | refine zO ?_); conv => whnf)
      refine ⟨j + 1, ⟨⟨by omega, hd⟩, hL.drop.drop⟩, by first | omega | (simp only; omega) | (simp only [List.length_cons, List.length_append]; omega), ?_, ?_⟩
      · repeat (first | exact trivial | (refine And.intro (by (conv => lhs; whnf) <;> (conv => rhs; whnf) <;> (first | rfl)) ?_))
      · repeat (first | exact trivial | (refine And.intro (by (conv => lhs; whnf) <;> (conv => rhs; whnf) <;> (first | rfl)) ?_))
    · conv => whnf
      repeat ((first | refine zT ?_ | refine zF ?_ | refine zL hX hL ?_ | refine zB hX hL ?_ | (refine zS hX hL ?_; clear hL; intro w hL) | refine zI ?_ | refine zG hX ?_ | refine zO ?_); conv => whnf)
      refine RetReq.bool hL.drop.drop ?_
      rw [decide_eq_true hg6, Bool.true_and]
      symm
      rw [Bool.eq_false_iff]
      intro hc
      have := (all_zip rs rs' hg6).1 hc j _ _ (List.getElem?_eq_getElem hlt') (List.getElem?_eq_getElem hlt2)
      rw [hb] at this; cases this
  · conv => whnf
    repeat ((first | refine zT ?_ | refine zF ?_ | refine zL hX hL ?_ | refine zB hX hL ?_ | (refine zS hX hL ?_; clear hL; intro w hL) | refine zI ?_ | refine zG hX ?_ | refine zO ?_); conv => whnf)
    refine RetReq.bool hL ?_
    rw [decide_eq_true hg6, Bool.true_and]
    symm
    exact (all_zip rs rs' hg6).2 fun i x y hx hy => hdone i x y (by have := (List.getElem?_eq_some_iff.1 hx).1; omega) hx hy
def sameS (x y : Re) : Bool := decide (deepR 40 x ≤ 40) && decide (deepR 40 y ≤ 40) && sameR 41 x y
def rightB (l : List Re) : Bool := decide ((makeR l).1 = 0) && (decide (l.length = (makeR l).2.length) && (List.zipWith sameS l (makeR l).2).all id)
theorem right_fn (m : Mem) (v : Value) (l : List Re) (hs : Sl m 9 (RepRe m) v l) (hsm : ∀ r ∈ l, Small r) (hnb : nodesL l ≤ 1000000) :
    Fn0 Tryz.prog 16 [.agg (toArr [v])] m fun _ u => u = .bool (rightB l) := by
  have hs' := hs
  obtain ⟨A, n, c, rfl, -⟩ := hs
  have hmk := Make_fn m _ l hs' hsm hnb
  refine Fn.enter (N := 20) hX Tryz.func16 rfl rfl (by show _ ≤ _; simp) (fun w0 hL => ?_)
  conv => whnf
  refine NewReq.mk hL ?_
  clear hL
  intro b1 w hL
  conv => whnf
  conv => whnf
  repeat ((first | refine zT ?_ | refine zF ?_ | refine zL hX hL ?_ | refine zB hX hL ?_ | (refine zS hX hL ?_; clear hL; intro w hL) | refine zI ?_ | refine zG hX ?_ | refine zO ?_); conv => whnf)
  refine CallReq.pure hmk hL ?_
  clear hL
  rintro u m2 w hL hm2 ⟨A2, n2, c2, rfl, hq⟩
  have hs2 : Sl m2 9 (RepRe m2) (.slice A n c) l := hs'.le hm2 fun _ _ _ h => h.le hm2
  have heq := equalS_fn m2 _ _ l (makeR l).2 sameS hs2 hq fun p _ q cs cs' h1 h2 => Same_fn m2 p q cs cs' h1 h2
  unfold rightB
  generalize makeR l = q at *
  obtain ⟨e, ls⟩ := q
  dsimp only at *
  conv => whnf
  repeat ((first | refine zT ?_ | refine zF ?_ | refine zL hX hL ?_ | refine zB hX hL ?_ | (refine zS hX hL ?_; clear hL; intro w hL) | refine zI ?_ | refine zG hX ?_ | refine zO ?_); conv => whnf)
  refine NewReq.mk hL ?_
  clear hL
  intro b3 w hL
  conv => whnf
  by_cases he : e = 0
  · subst he
    rw [decide_eq_true rfl, Bool.true_and]
    conv => whnf
    repeat ((first | refine zT ?_ | refine zF ?_ | refine zL hX hL ?_ | refine zB hX hL ?_ | (refine zS hX hL ?_; clear hL; intro w hL) | refine zI ?_ | refine zG hX ?_ | refine zO ?_); conv => whnf)
    refine CallReq.val heq hL ?_
    clear hL
    intro w hL
    conv => whnf
    repeat ((first | refine zT ?_ | refine zF ?_ | refine zL hX hL ?_ | refine zB hX hL ?_ | (refine zS hX hL ?_; clear hL; intro w hL) | refine zI ?_ | refine zG hX ?_ | refine zO ?_); conv => whnf)
    exact RetReq.mk hL.drop.drop ⟨rfl, rfl⟩
  · rw [decide_eq_false he, Bool.false_and]
    conv => whnf
    repeat ((first | refine BrReq.no he ?_ | refine zT ?_ | refine zF ?_ | refine zL hX hL ?_ | refine zB hX hL ?_ | (refine zS hX hL ?_; clear hL; intro w hL) | refine zI ?_ | refine zG hX ?_ | refine zO ?_); conv => whnf)
    exact RetReq.mk hL.drop.drop ⟨rfl, rfl⟩
end Go.Proofs.YtiololnblplloaaGreat.tk
namespace Go.Proofs.YtiololnblplloaaGreat.tk
open Go Go.Ev Go.Proofs Go.Proofs.YtiololnblplloaaGreat.ar Go.Proofs.YtiololnblplloaaGreat.tree Go.Proofs.YtiololnblplloaaGreat.looks
theorem size_mem : ∀ {rs : List Re} {p : Re}, p ∈ rs → sizeR p ≤ sizeL rs
  | x :: l, p, h => by
    rw [sizeL]
    rcases List.mem_cons.1 h with rfl | h
    · omega
    · have := size_mem h; omega
theorem formed_part {k s0 s1 s2 s3 lo hi : Int} {rs : List Re} {neg : Bool} (h : formedR (.mk k s0 s1 s2 s3 rs lo hi neg) = true) {p : Re} (hp : p ∈ rs) (hk : k = 8 ∨ k = 9) : formedR p = true := by
  unfold formedR at h ⊢
  simp only [Bool.and_eq_true, decide_eq_true_eq] at h ⊢
  obtain ⟨⟨h1, h2⟩, h3⟩ := h
  refine ⟨⟨deep40_part h1 p hp, all_part _ _ _ _ _ _ _ _ _ h2 p hp⟩, ?_⟩
  have hs : sizeR p ≤ sizeL rs := size_mem hp
  rw [sizeR] at h3
  unfold capR timesR at h3
  by_cases hb : 1000 < sizeL rs
  · rw [if_pos hb] at h3; omega
  · rw [if_neg hb] at h3
    split at h3 <;> omega
theorem parts_one {k s0 s1 s2 s3 lo hi : Int} {rs : List Re} {neg : Bool} (h : formedR (.mk k s0 s1 s2 s3 rs lo hi neg) = true) (hk : k = 8 ∨ k = 9) : ∃ p, rs = [p] := by
  obtain ⟨h1, -⟩ := formed_size h
  simp only [allR, Bool.and_eq_true, decide_eq_true_eq] at h1
  obtain ⟨h1, -⟩ := h1
  obtain ⟨-, h2, -⟩ := h1
  have hp : partsK k = 1 := by unfold partsK; rw [if_neg (by omega), if_pos (by omega)]
  rw [hp] at h2
  have h3 := h2 (by decide)
  match rs, h3 with
  | [p], _ => exact ⟨p, rfl⟩
  | [], h => simp at h
  | _ :: _ :: _, h => simp at h; omega
theorem fndL_mem {ls : List Re} : ∀ {l : List Re}, fndL ls l → ∀ r ∈ l, fndR ls r
  | [], _, r, hr => by cases hr
  | x :: l, h, r, hr => by
    rw [fndL] at h
    rcases List.mem_cons.1 hr with rfl | hr
    · exact h.1
    · exact fndL_mem h.2 r hr
theorem zip_eq {f : Re → Re → Bool} (hf : ∀ x y, f x y = true → x = y) : ∀ (l r : List Re), l.length = r.length → (List.zipWith f l r).all id = true → l = r := by
  intro l r he h
  rw [all_zip l r he] at h
  refine List.ext_getElem he fun i h1 h2 => ?_
  exact hf _ _ (h i _ _ (List.getElem?_eq_getElem h1) (List.getElem?_eq_getElem h2))
theorem make_cases (l : List Re) : (∀ r ∈ l, formedR r = true) ∧ (looksL l []).length ≤ 4 ∧ makeR l = (0, looksL l []) ∨ (¬ (∀ r ∈ l, formedR r = true) ∨ 4 < (looksL l []).length) ∧ (makeR l).1 ≠ 0 := by
  unfold makeR
  by_cases h : l.any (fun r => !formedR r) = true
  · rw [if_pos h]
    refine .inr ⟨.inl fun hc => ?_, by decide⟩
    obtain ⟨x, hx, h2⟩ := List.any_eq_true.1 h
    rw [hc x hx] at h2; cases h2
  · rw [if_neg h]
    have hf : ∀ r ∈ l, formedR r = true := fun r hr => by
      have := List.any_eq_false.1 (Bool.eq_false_iff.2 h) r hr
      simpa using this
    by_cases h4 : 4 < (looksL l []).length
    · rw [if_pos h4]; exact .inr ⟨.inr h4, by decide⟩
    · rw [if_neg h4]; exact .inl ⟨hf, by omega, rfl⟩
theorem right_facts {l : List Re} (h : rightB l = true) : (∀ r ∈ l, formedR r = true) ∧ looksL l [] = l ∧ l.length ≤ 4 ∧ ∀ r ∈ l, fndR l r := by
  unfold rightB at h
  simp only [Bool.and_eq_true, decide_eq_true_eq] at h
  obtain ⟨h0, h1, h2⟩ := h
  rcases make_cases l with ⟨hf, h4, e⟩ | ⟨-, hne⟩
  · rw [e] at h1 h2
    have hl : l = looksL l [] := zip_eq (f := sameS) (fun x y h => by
      unfold sameS at h
      simp only [Bool.and_eq_true] at h
      exact same_eq _ _ _ h.2) l _ h1 h2
    refine ⟨hf, hl.symm, by rw [hl]; exact h4, fndL_mem (looks_fndL l l [] (fun p hp => formed_deep (hf p hp)) (fun x hx => by cases hx) fun x hx => by rw [← hl] at hx; exact hx)⟩
  · exact absurd h0 hne
theorem looks_kind : ∀ (l ls : List Re), (∀ x ∈ ls, 8 ≤ x.kind) → ∀ x ∈ looksL l ls, 8 ≤ x.kind := by
  have hR : ∀ (r : Re) (ls : List Re), (∀ x ∈ ls, 8 ≤ x.kind) → ∀ x ∈ looksR r ls, 8 ≤ x.kind := by
    intro r
    induction r using Re.ind with
    | h k s0 s1 s2 s3 rs lo hi neg ih =>
      intro ls hls
      have hL : ∀ (l : List Re), (∀ p ∈ l, p ∈ rs) → ∀ ls, (∀ x ∈ ls, 8 ≤ x.kind) → ∀ x ∈ looksL l ls, 8 ≤ x.kind := by
        intro l
        induction l with
        | nil => intro _ ls h; exact h
        | cons p l ihl => intro hm ls h; exact ihl (fun q hq => hm q (by simp [hq])) _ (ih p (hm p (by simp)) ls h)
      have h1 := hL rs (fun p hp => hp) ls hls
      simp only [looksR]
      split
      · exact h1
      · split
        · exact h1
        · intro x hx
          rcases List.mem_append.1 hx with hx | hx
          · exact h1 x hx
          · rw [List.mem_singleton.1 hx]; show 8 ≤ k; omega
  intro l
  induction l with
  | nil => intro ls h; exact h
  | cons p l ih => intro ls h; exact ih _ (hR p ls h)
theorem right_kind {l : List Re} (h : rightB l = true) : ∀ r ∈ l, 8 ≤ r.kind ∧ r.kind ≤ 11 := fun r hr => by
  obtain ⟨hf, hl, -, -⟩ := right_facts h
  refine ⟨looks_kind l [] (fun x hx => by cases hx) r (by rw [hl]; exact hr), ?_⟩
  obtain ⟨h1, -⟩ := formed_size (hf r hr)
  obtain ⟨k, s0, s1, s2, s3, rs, lo, hi, neg⟩ := r
  simp only [allR, Bool.and_eq_true, decide_eq_true_eq] at h1
  exact h1.1.1.2
def ownL (l : List Re) : List Re := looksL (l.filter formedR) []
def refT (l : List Re) (j : Nat) : Bool := (decide ((ownL l).length = l.length) && decide (l.length ≤ 4)) && (List.range j).all fun i => match l[i]?, (ownL l)[i]? with
  | some x, some y => formedR x && sameR 41 y x
  | _, _ => false
theorem refT_zero (l : List Re) : refT l 0 = (decide ((ownL l).length = l.length) && decide (l.length ≤ 4)) := by unfold refT; simp
theorem refT_len {l : List Re} {j : Nat} (h : refT l j = true) : (ownL l).length = l.length := by
  unfold refT at h
  simp only [Bool.and_eq_true, decide_eq_true_eq] at h
  exact h.1.1
theorem refT_step (l : List Re) (j : Nat) : refT l (j + 1) = (refT l j && match l[j]?, (ownL l)[j]? with
  | some x, some y => formedR x && sameR 41 y x
  | _, _ => false) := by
  unfold refT
  rw [List.range_succ, List.all_append, ← Bool.and_assoc]
  simp
theorem refT_iff (l : List Re) : refT l l.length = rightB l := by
  rw [Bool.eq_iff_iff]
  constructor
  · intro h
    have hlen := refT_len h
    unfold refT at h
    simp only [Bool.and_eq_true, decide_eq_true_eq] at h
    obtain ⟨⟨-, h4⟩, h⟩ := h
    rw [List.all_eq_true] at h
    have hi : ∀ (i : Nat) (h1 : i < l.length), formedR l[i] = true ∧ sameR 41 ((ownL l)[i]'(by omega)) l[i] = true := fun i h1 => by
      have := h i (List.mem_range.2 h1)
      rw [List.getElem?_eq_getElem h1, List.getElem?_eq_getElem (by omega : i < (ownL l).length)] at this
      simpa using this
    have hf : ∀ r ∈ l, formedR r = true := fun r hr => by
      obtain ⟨i, h1, rfl⟩ := List.getElem_of_mem hr
      exact (hi i h1).1
    have hflt : l.filter formedR = l := List.filter_eq_self.2 hf
    have hown : ownL l = looksL l [] := by unfold ownL; rw [hflt]
    rcases make_cases l with ⟨-, h5, e⟩ | ⟨hbad, -⟩
    · unfold rightB
      rw [e, ← hown, decide_eq_true rfl, decide_eq_true hlen.symm, Bool.true_and, Bool.true_and]
      refine (all_zip l _ hlen.symm).2 fun i x y hx hy => ?_
      have h1 := (List.getElem?_eq_some_iff.1 hx).1
      obtain ⟨k1, k2⟩ := hi i h1
      have e1 := same_eq _ _ _ k2
      rw [List.getElem?_eq_getElem h1] at hx
      rw [List.getElem?_eq_getElem (by omega)] at hy
      cases hx; cases hy
      rw [e1]
      have hd := formed_deep k1
      unfold sameS
      rw [decide_eq_true hd, sameR_refl 40 _ hd]; rfl
    · rcases hbad with hb | hb
      · exact absurd hf hb
      · rw [← hown] at hb; omega
  · intro h
    obtain ⟨hf, hl, h4, -⟩ := right_facts h
    have hown : ownL l = l := by unfold ownL; rw [List.filter_eq_self.2 hf, hl]
    unfold refT
    rw [hown, decide_eq_true rfl, decide_eq_true h4, Bool.true_and, Bool.true_and, List.all_eq_true]
    intro i hi
    have h1 := List.mem_range.1 hi
    rw [List.getElem?_eq_getElem h1]
    have hm := hf _ (List.getElem_mem h1)
    simp only
    rw [hm, sameR_refl 40 _ (formed_deep hm)]; rfl
end Go.Proofs.YtiololnblplloaaGreat.tk
namespace Go.Proofs.YtiololnblplloaaGreat.tk
open Go Go.Ev Go.Proofs Go.Proofs.YtiololnblplloaaGreat.ar Go.Proofs.YtiololnblplloaaGreat.tree Go.Proofs.YtiololnblplloaaGreat.looks
theorem zeros_u8 (n : Nat) : zerosL n [Value.int .u8 0] = u8s (List.replicate n 0) := by
  rw [zeros_rows]
  unfold u8s
  rw [List.map_replicate]
  induction n with
  | zero => rfl
  | succ q ih => rw [List.replicate_succ, List.flatten_cons, ih, List.replicate_succ]; rfl
def BitsQ (l : List Re) (n : Nat) (u : Value) : Prop := ∃ A k c e, u = .tuple (toArr [.slice A k c, .int .i64 e]) ∧ (rightB l = false → e = 1) ∧ (rightB l = true → e = 0 ∨ e = 4) ∧ (l = [] → e = 0 ∧ k = n)
set_option maxHeartbeats 2000000 in
theorem Bits_fn (m : Mem) (v wv : Value) (l : List Re) (ws : List Int) (hs : Sl m 9 (RepRe m) v l) (hsm : ∀ r ∈ l, Small r) (hnb : nodesL l ≤ 1000000) (hw : SlI m .u8 wv ws) (hwb : ∀ z ∈ ws, 0 ≤ z ∧ z ≤ 255) (hwl : ws.length ≤ 100) :
    Fn0 Tryz.prog 9 [.agg (toArr [v]), wv] m fun _ u => BitsQ l (ws.length + 1) u := by
  have hs' := hs
  obtain ⟨A, n, c, rfl, hn, hc, hm, -⟩ := hs
  obtain ⟨W, wn, wc, rfl, hwn, hwc, hwm, -⟩ := id hw
  have hmx : maxLen = 9223372036854775807 := rfl
  have hwn' : wn = ws.length := hwn
  have hrt := right_fn m _ l hs' hsm hnb
  refine Fn.enter (N := 93) hX Tryz.func9 rfl rfl (by show _ ≤ _; simp) (fun w0 hL => ?_)
  conv => whnf
  refine NewReq.mk hL ?_
  clear hL
  intro b2 w hL
  conv => whnf
  conv => whnf
  repeat ((first | refine zT ?_ | refine zF ?_ | refine zL hX hL ?_ | refine zB hX hL ?_ | (refine zS hX hL ?_; clear hL; intro w hL) | refine zI ?_ | refine zG hX ?_ | refine zO ?_); conv => whnf)
  refine CallReq.pure hrt hL ?_
  clear hL
  rintro u m0 w hL hm0 rfl
  have hnil : l = [] → rightB l = true := fun e => by subst e; rfl
  cases hR : rightB l with
  | false =>
    conv => whnf
    repeat ((first | refine zT ?_ | refine zF ?_ | refine zL hX hL ?_ | refine zB hX hL ?_ | (refine zS hX hL ?_; clear hL; intro w hL) | refine zI ?_ | refine zG hX ?_ | refine zO ?_); conv => whnf)
    exact RetReq.mk hL.drop ⟨rfl, none, 0, 0, 1, rfl, fun _ => rfl, fun h => (by rw [hR] at h; cases h), fun h => (by rw [hnil h] at hR; cases hR)⟩
  | true =>
  obtain ⟨hform, hlk, h4, hfnd⟩ := right_facts hR
  have hkind := right_kind hR
  conv => whnf
  repeat ((first | refine zT ?_ | refine zF ?_ | refine zL hX hL ?_ | refine zB hX hL ?_ | (refine zS hX hL ?_; clear hL; intro w hL) | refine zI ?_ | refine zG hX ?_ | refine zO ?_); conv => whnf)
  refine RunReq.make hX rfl rfl rfl rfl (wn + 1) (wn + 1) rfl rfl (Nat.le_refl _) (by omega) rfl hL ?_
  clear hL
  intro g w hL
  replace hL : Ev.Loc m [] w0 m0 ((g, .cells (toArr (zerosL (wn + 1) [Value.int .u8 0])) 5 (0, 0)) :: (b2, .cells (toArr [.slice A n c]) 35 (0, 0)) :: []) w := hL
  rw [zeros_u8] at hL
  conv => whnf
  repeat ((first | refine zT ?_ | refine zF ?_ | refine zL hX hL ?_ | refine zB hX hL ?_ | (refine zS hX hL ?_; clear hL; intro w hL) | refine zI ?_ | refine zG hX ?_ | refine zO ?_); conv => whnf)
  refine CallReq.mk (L1 := []) (L2 := [_, _]) (New_fn m0) hL ?_
  clear hL
  rintro u mx La w hL - ⟨hmx', ab, rfl, hA⟩
  rw [hmx'] at hL
  clear hmx' mx
  have hL := Loc.back (L1 := La) (L2 := [_, _]) hL
  replace hL : Ev.Loc m [] w0 m0 ((g, biO (List.replicate (wn + 1) 0)) :: (b2, .cells (toArr [.slice A n c]) 35 (0, 0)) :: La) w := hL
  conv => whnf
  repeat ((first | refine zT ?_ | refine zF ?_ | refine zL hX hL ?_ | refine zB hX hL ?_ | (refine zS hX hL ?_; clear hL; intro w hL) | refine zI ?_ | refine zG hX ?_ | refine zO ?_); conv => whnf)
  refine LoopReq.inv hX (fun j : Nat => [(28, .int .i64 j)]) [1, 2, 6, 7, 26, 27]
    (fun j w => j ≤ n ∧ ∃ m1 bs ns La1, (Mem.Le m m1 ∧ bs.length = ws.length + 1 ∧ Small8 bs) ∧ (OkA ns ∧ Ar ab ns La1) ∧
      Ev.Loc m [] w0 m1 ((g, biO bs) :: (b2, .cells (toArr [.slice A n c]) 35 (0, 0)) :: La1) w) (fun j => n - j) 0
    ⟨by omega, m0, List.replicate (wn + 1) 0, [], La, ⟨hm0, by rw [List.length_replicate, hwn'], fun q hq => by rw [List.eq_of_mem_replicate hq]; decide⟩, ⟨okA_nil, hA⟩, hL⟩ ⟨rfl, trivial⟩ ?_
  clear hL hA
  rintro j w f0 ⟨hj, m1, bs, ns, La1, ⟨hm1, hbl, hb8⟩, ⟨hO, hA⟩, hL⟩
  conv => whnf
  repeat ((first | refine zT ?_ | refine zF ?_ | refine zL hX hL ?_ | refine zB hX hL ?_ | (refine zS hX hL ?_; clear hL; intro w hL) | refine zI ?_ | refine zG hX ?_ | refine zO ?_); conv => whnf)
  refine BrReq.dec (fun hlt => ?_) (fun hlt => ?_)
  rotate_left
  · conv => whnf
    repeat ((first | refine zT ?_ | refine zF ?_ | refine zL hX hL ?_ | refine zB hX hL ?_ | (refine zS hX hL ?_; clear hL; intro w hL) | refine zI ?_ | refine zG hX ?_ | refine zO ?_); conv => whnf)
    exact RetReq.mk (hL.sublist (List.nil_sublist _)) ⟨rfl, _, _, _, 0, rfl, fun h => (by rw [hR] at h; cases h), fun _ => .inl rfl, fun _ => ⟨rfl, by omega⟩⟩
  have hlt' : j < l.length := by omega
  have hne : l ≠ [] := fun e => by rw [e] at hlt'; simp at hlt'
  have hs1 : Sl m1 9 (RepRe m1) (.slice A n c) l := hs'.le hm1 fun _ _ _ h => h.le hm1
  have hw1 : SlI m1 .u8 (.slice W wn wc) ws := hw.le hm1 (fun _ _ _ h => h)
  obtain ⟨a, cs', rfl, hl9, hcells, hrep⟩ := hs1.elem j _ (List.getElem?_eq_getElem hlt')
  have hmem := List.getElem_mem hlt'
  have hfr := hform _ hmem
  have hkr := hkind _ hmem
  have hfd := hfnd _ hmem
  generalize l[j] = r at hrep hfr hkr hfd
  obtain ⟨k, s0, s1, s2, s3, rs, lo, hi, neg⟩ := r
  obtain ⟨A1, n1, c1, rfl, hs2, hrng⟩ := hrep.open
  conv => whnf
  repeat ((first | refine Idx2Req.mk j a rfl (by omega) rfl ?_ | refine LdReq.agg hX rfl rfl hL hl9 hcells ?_ | refine zT ?_ | refine zF ?_ | refine zL hX hL ?_ | refine zB hX hL ?_ | (refine zS hX hL ?_; clear hL; intro w hL) | refine zI ?_ | refine zG hX ?_ | refine zO ?_); conv => whnf)
  refine NewReq.mk hL ?_
  clear hL
  intro b9 w hL
  conv => whnf
  conv => whnf
  repeat ((first | refine zT ?_ | refine zF ?_ | refine zL hX hL ?_ | refine zB hX hL ?_ | (refine zS hX hL ?_; clear hL; intro w hL) | refine zI ?_ | refine zG hX ?_ | refine zO ?_); conv => whnf)
  replace hL : Ev.Loc m [] w0 m1 ((b9, .cells (toArr (reC k s0 s1 s2 s3 (.slice A1 n1 c1) lo hi neg)) 30 (0, 0)) :: (g, biO bs) :: (b2, .cells (toArr [.slice (some a) n c]) 35 (0, 0)) :: La1) w := hL
  refine ShlReq.any8 (by omega) fun mark hmk => ?_
  have hkr1 : 8 ≤ k ∧ k ≤ 11 := hkr
  by_cases h10 : k = 10
  · conv => whnf
    repeat ((first | refine BrReq.yes h10 ?_ | refine zT ?_ | refine zF ?_ | refine zL hX hL ?_ | refine zB hX hL ?_ | (refine zS hX hL ?_; clear hL; intro w hL) | refine zI ?_ | refine zG hX ?_ | refine zO ?_); conv => whnf)
    refine LoopReq.inv hX (fun i : Nat => [(48, .int .i64 i)]) [1, 2, 6, 7, 10, 11, 26, 27, 28, 47]
      (fun i w => i ≤ ws.length + 1 ∧ ∃ bs, (bs.length = ws.length + 1 ∧ Small8 bs) ∧
        Ev.Loc m [] w0 m1 ((b9, .cells (toArr (reC k s0 s1 s2 s3 (.slice A1 n1 c1) lo hi neg)) 30 (0, 0)) :: (g, biO bs) :: (b2, .cells (toArr [.slice (some a) n c]) 35 (0, 0)) :: La1) w) (fun i => ws.length + 1 - i) 0
      ⟨by omega, bs, ⟨hbl, hb8⟩, hL⟩ ⟨rfl, trivial⟩ ?_
    clear hL hbl hb8 bs
    rintro i w f1 ⟨hi', bs, ⟨hbl, hb8⟩, hL⟩
    conv => whnf
    repeat ((first | refine zT ?_ | refine zF ?_ | refine zL hX hL ?_ | refine zB hX hL ?_ | (refine zS hX hL ?_; clear hL; intro w hL) | refine zI ?_ | refine zG hX ?_ | refine zO ?_); conv => whnf)
    refine BrReq.dec (fun hlt2 => ?_) (fun hlt2 => ?_)
    · have hib : i < bs.length := by omega
      have hgt := u8s_get hib
      generalize bs[i] = q at hgt
      conv => whnf
      repeat ((first | refine zT ?_ | refine zF ?_ | refine zL hX hL ?_ | refine zB hX hL ?_ | (refine zS hX hL ?_; clear hL; intro w hL) | refine zI ?_ | refine zG hX ?_ | refine zO ?_); conv => whnf)
      refine CallReq.pure (edge_fn m1 _ ws hw1 i (by omega) _) hL ?_
      clear hL
      rintro u m2 w hL hm2 ⟨t, rfl⟩
      replace hL := hL.weaken hm2 hm1
      cases t with
      | false =>
        conv => whnf
        repeat ((first | refine zT ?_ | refine zF ?_ | refine zL hX hL ?_ | refine zB hX hL ?_ | (refine zS hX hL ?_; clear hL; intro w hL) | refine zI ?_ | refine zG hX ?_ | refine zO ?_); conv => whnf)
        refine ⟨i + 1, ⟨by omega, bs, ⟨hbl, hb8⟩, hL⟩, by first | omega | (simp only; omega) | (simp only [List.length_cons, List.length_append]; omega), ?_, ?_⟩
        · repeat (first | exact trivial | (refine And.intro (by (conv => lhs; whnf) <;> (conv => rhs; whnf) <;> (first | rfl)) ?_))
        · repeat (first | exact trivial | (refine And.intro (by (conv => lhs; whnf) <;> (conv => rhs; whnf) <;> (first | rfl)) ?_))
      | true =>
        conv => whnf
        repeat ((first | refine Idx2Req.mk i ⟨g, 0, none⟩ rfl (by omega) rfl ?_ | (refine LdReq.ownC hX rfl rfl hL (.t .h) (by rw [scale_eq, Nat.zero_add, Nat.mul_one]; exact hgt) ?_) | refine zT ?_ | refine zF ?_ | refine zL hX hL ?_ | refine zB hX hL ?_ | (refine zS hX hL ?_; clear hL; intro w hL) | refine zI ?_ | refine zG hX ?_ | refine zO ?_); conv => whnf)
        refine BitReq.or8 fun q2 hq2 => ?_
        conv => whnf
        repeat ((first | refine Idx2Req.mk i ⟨g, 0, none⟩ rfl (by omega) rfl ?_ | refine zT ?_ | refine zF ?_ | refine zL hX hL ?_ | refine zB hX hL ?_ | (refine zS hX hL ?_; clear hL; intro w hL) | refine zI ?_ | refine zG hX ?_ | refine zO ?_); conv => whnf)
        refine StReq.ownAt hX rfl 1 hL rfl rfl (by rw [scale_eq, Nat.zero_add, Nat.mul_one]; show i + 1 ≤ (u8s bs).length; unfold u8s; rw [List.length_map]; omega) rfl ?_
        clear hL
        intro w hL
        replace hL : Ev.Loc m [] w0 m1 ((b9, .cells (toArr (reC k s0 s1 s2 s3 (.slice A1 n1 c1) lo hi neg)) 30 (0, 0)) :: (g, .cells (toArr (spliceL (u8s bs) (0 + scale i 1) [.int .u8 q2])) 5 (0, 0)) :: (b2, .cells (toArr [.slice (some a) n c]) 35 (0, 0)) :: La1) w := hL
        rw [scale_eq, Nat.zero_add, Nat.mul_one] at hL
        replace hL : Ev.Loc m [] w0 m1 ((b9, .cells (toArr (reC k s0 s1 s2 s3 (.slice A1 n1 c1) lo hi neg)) 30 (0, 0)) :: (g, .cells (toArr ((u8s bs).set i (.int .u8 q2))) 5 (0, 0)) :: (b2, .cells (toArr [.slice (some a) n c]) 35 (0, 0)) :: La1) w := hL
        rw [u8s_set] at hL
        have hbl2 : (bs.set i q2).length = ws.length + 1 := by rw [List.length_set]; exact hbl
        have hb82 := hb8.set hq2 i
        generalize bs.set i q2 = bs2 at hL hbl2 hb82
        conv => whnf
        repeat ((first | refine zT ?_ | refine zF ?_ | refine zL hX hL ?_ | refine zB hX hL ?_ | (refine zS hX hL ?_; clear hL; intro w hL) | refine zI ?_ | refine zG hX ?_ | refine zO ?_); conv => whnf)
        refine ⟨i + 1, ⟨by omega, bs2, ⟨hbl2, hb82⟩, hL⟩, by first | omega | (simp only; omega) | (simp only [List.length_cons, List.length_append]; omega), ?_, ?_⟩
        · repeat (first | exact trivial | (refine And.intro (by (conv => lhs; whnf) <;> (conv => rhs; whnf) <;> (first | rfl)) ?_))
        · repeat (first | exact trivial | (refine And.intro (by (conv => lhs; whnf) <;> (conv => rhs; whnf) <;> (first | rfl)) ?_))
    · conv => whnf
      repeat ((first | refine zT ?_ | refine zF ?_ | refine zL hX hL ?_ | refine zB hX hL ?_ | (refine zS hX hL ?_; clear hL; intro w hL) | refine zI ?_ | refine zG hX ?_ | refine zO ?_); conv => whnf)
      refine ⟨j + 1, ⟨by omega, m1, bs, ns, La1, ⟨hm1, hbl, hb8⟩, ⟨hO, hA⟩, hL.drop⟩, by first | omega | (simp only; omega) | (simp only [List.length_cons, List.length_append]; omega), ?_, ?_⟩
      · repeat (first | exact trivial | (refine And.intro (by (conv => lhs; whnf) <;> (conv => rhs; whnf) <;> (first | rfl)) ?_))
      · repeat (first | exact trivial | (refine And.intro (by (conv => lhs; whnf) <;> (conv => rhs; whnf) <;> (first | rfl)) ?_))
  by_cases h11 : k = 11
  · conv => whnf
    repeat ((first | refine BrReq.no h10 ?_ | refine BrReq.yes h11 ?_ | refine zT ?_ | refine zF ?_ | refine zL hX hL ?_ | refine zB hX hL ?_ | (refine zS hX hL ?_; clear hL; intro w hL) | refine zI ?_ | refine zG hX ?_ | refine zO ?_); conv => whnf)
    refine LoopReq.inv hX (fun i : Nat => [(48, .int .i64 i)]) [1, 2, 6, 7, 10, 11, 26, 27, 28, 47]
      (fun i w => i ≤ ws.length + 1 ∧ ∃ bs, (bs.length = ws.length + 1 ∧ Small8 bs) ∧
        Ev.Loc m [] w0 m1 ((b9, .cells (toArr (reC k s0 s1 s2 s3 (.slice A1 n1 c1) lo hi neg)) 30 (0, 0)) :: (g, biO bs) :: (b2, .cells (toArr [.slice (some a) n c]) 35 (0, 0)) :: La1) w) (fun i => ws.length + 1 - i) 0
      ⟨by omega, bs, ⟨hbl, hb8⟩, hL⟩ ⟨rfl, trivial⟩ ?_
    clear hL hbl hb8 bs
    rintro i w f1 ⟨hi', bs, ⟨hbl, hb8⟩, hL⟩
    conv => whnf
    repeat ((first | refine zT ?_ | refine zF ?_ | refine zL hX hL ?_ | refine zB hX hL ?_ | (refine zS hX hL ?_; clear hL; intro w hL) | refine zI ?_ | refine zG hX ?_ | refine zO ?_); conv => whnf)
    refine BrReq.dec (fun hlt2 => ?_) (fun hlt2 => ?_)
    · have hib : i < bs.length := by omega
      have hgt := u8s_get hib
      generalize bs[i] = q at hgt
      conv => whnf
      repeat ((first | refine zT ?_ | refine zF ?_ | refine zL hX hL ?_ | refine zB hX hL ?_ | (refine zS hX hL ?_; clear hL; intro w hL) | refine zI ?_ | refine zG hX ?_ | refine zO ?_); conv => whnf)
      refine CallReq.pure (edge_fn m1 _ ws hw1 i (by omega) _) hL ?_
      clear hL
      rintro u m2 w hL hm2 ⟨t, rfl⟩
      replace hL := hL.weaken hm2 hm1
      cases t with
      | false =>
        conv => whnf
        repeat ((first | refine zT ?_ | refine zF ?_ | refine zL hX hL ?_ | refine zB hX hL ?_ | (refine zS hX hL ?_; clear hL; intro w hL) | refine zI ?_ | refine zG hX ?_ | refine zO ?_); conv => whnf)
        refine ⟨i + 1, ⟨by omega, bs, ⟨hbl, hb8⟩, hL⟩, by first | omega | (simp only; omega) | (simp only [List.length_cons, List.length_append]; omega), ?_, ?_⟩
        · repeat (first | exact trivial | (refine And.intro (by (conv => lhs; whnf) <;> (conv => rhs; whnf) <;> (first | rfl)) ?_))
        · repeat (first | exact trivial | (refine And.intro (by (conv => lhs; whnf) <;> (conv => rhs; whnf) <;> (first | rfl)) ?_))
      | true =>
        conv => whnf
        repeat ((first | refine Idx2Req.mk i ⟨g, 0, none⟩ rfl (by omega) rfl ?_ | (refine LdReq.ownC hX rfl rfl hL (.t .h) (by rw [scale_eq, Nat.zero_add, Nat.mul_one]; exact hgt) ?_) | refine zT ?_ | refine zF ?_ | refine zL hX hL ?_ | refine zB hX hL ?_ | (refine zS hX hL ?_; clear hL; intro w hL) | refine zI ?_ | refine zG hX ?_ | refine zO ?_); conv => whnf)
        refine BitReq.or8 fun q2 hq2 => ?_
        conv => whnf
        repeat ((first | refine Idx2Req.mk i ⟨g, 0, none⟩ rfl (by omega) rfl ?_ | refine zT ?_ | refine zF ?_ | refine zL hX hL ?_ | refine zB hX hL ?_ | (refine zS hX hL ?_; clear hL; intro w hL) | refine zI ?_ | refine zG hX ?_ | refine zO ?_); conv => whnf)
        refine StReq.ownAt hX rfl 1 hL rfl rfl (by rw [scale_eq, Nat.zero_add, Nat.mul_one]; show i + 1 ≤ (u8s bs).length; unfold u8s; rw [List.length_map]; omega) rfl ?_
        clear hL
        intro w hL
        replace hL : Ev.Loc m [] w0 m1 ((b9, .cells (toArr (reC k s0 s1 s2 s3 (.slice A1 n1 c1) lo hi neg)) 30 (0, 0)) :: (g, .cells (toArr (spliceL (u8s bs) (0 + scale i 1) [.int .u8 q2])) 5 (0, 0)) :: (b2, .cells (toArr [.slice (some a) n c]) 35 (0, 0)) :: La1) w := hL
        rw [scale_eq, Nat.zero_add, Nat.mul_one] at hL
        replace hL : Ev.Loc m [] w0 m1 ((b9, .cells (toArr (reC k s0 s1 s2 s3 (.slice A1 n1 c1) lo hi neg)) 30 (0, 0)) :: (g, .cells (toArr ((u8s bs).set i (.int .u8 q2))) 5 (0, 0)) :: (b2, .cells (toArr [.slice (some a) n c]) 35 (0, 0)) :: La1) w := hL
        rw [u8s_set] at hL
        have hbl2 : (bs.set i q2).length = ws.length + 1 := by rw [List.length_set]; exact hbl
        have hb82 := hb8.set hq2 i
        generalize bs.set i q2 = bs2 at hL hbl2 hb82
        conv => whnf
        repeat ((first | refine zT ?_ | refine zF ?_ | refine zL hX hL ?_ | refine zB hX hL ?_ | (refine zS hX hL ?_; clear hL; intro w hL) | refine zI ?_ | refine zG hX ?_ | refine zO ?_); conv => whnf)
        refine ⟨i + 1, ⟨by omega, bs2, ⟨hbl2, hb82⟩, hL⟩, by first | omega | (simp only; omega) | (simp only [List.length_cons, List.length_append]; omega), ?_, ?_⟩
        · repeat (first | exact trivial | (refine And.intro (by (conv => lhs; whnf) <;> (conv => rhs; whnf) <;> (first | rfl)) ?_))
        · repeat (first | exact trivial | (refine And.intro (by (conv => lhs; whnf) <;> (conv => rhs; whnf) <;> (first | rfl)) ?_))
    · conv => whnf
      repeat ((first | refine zT ?_ | refine zF ?_ | refine zL hX hL ?_ | refine zB hX hL ?_ | (refine zS hX hL ?_; clear hL; intro w hL) | refine zI ?_ | refine zG hX ?_ | refine zO ?_); conv => whnf)
      refine ⟨j + 1, ⟨by omega, m1, bs, ns, La1, ⟨hm1, hbl, hb8⟩, ⟨hO, hA⟩, hL.drop⟩, by first | omega | (simp only; omega) | (simp only [List.length_cons, List.length_append]; omega), ?_, ?_⟩
      · repeat (first | exact trivial | (refine And.intro (by (conv => lhs; whnf) <;> (conv => rhs; whnf) <;> (first | rfl)) ?_))
      · repeat (first | exact trivial | (refine And.intro (by (conv => lhs; whnf) <;> (conv => rhs; whnf) <;> (first | rfl)) ?_))
  have hk89 : k = 8 ∨ k = 9 := by omega
  obtain ⟨p, rfl⟩ := parts_one hfr hk89
  have hfp := formed_part hfr (List.mem_singleton.2 rfl) hk89
  obtain ⟨ap, csp, hap, hlp, hcp, hrp⟩ := hs2.elem 0 p rfl
  cases hap
  obtain ⟨k2, v0, v1, v2, v3, A2, n2, c2, lo2, hi2, neg2, rfl⟩ := hrp.form
  have hfdp : fndR l p := by rw [fndR, fndL] at hfd; exact hfd.2.1
  have hn1 : n1 = 1 := by obtain ⟨_, _, _, e, h, -⟩ := hs2; cases e; exact h
  conv => whnf
  repeat ((first | refine BrReq.no h10 ?_ | refine BrReq.no h11 ?_ | refine zT ?_ | refine zF ?_ | refine zL hX hL ?_ | refine zB hX hL ?_ | (refine zS hX hL ?_; clear hL; intro w hL) | refine zI ?_ | refine zG hX ?_ | refine zO ?_); conv => whnf)
  refine DrawReq.plan hX (.fst 0 (.fst 1 (.fst 2 (.fst 3 (.fst 4 (.fst 5 (.fst 6 (.fst 7 (.fst 8 (.alt 9 (.fst 10 (.fst 11 (.fst 12 (.fst 13 (.fst 14 (.done)))))) (.stop))))))))))) [(b9, .cells (toArr (reC k s0 s1 s2 s3 (.slice (some ap) n1 c1) lo hi neg)) 30 (0, 0)), (b2, .cells (toArr [.slice (some a) n c]) 35 (0, 0))] (by kernel_rfl) (by kernel_rfl) hL (fun h => h.sublist (.cons_cons _ (.cons _ (.cons_cons _ (List.nil_sublist _))))) ?_
  clear hL
  intro w hL
  conv => whnf
  repeat ((first | refine Idx2Req.mk 0 ap rfl (by omega) rfl ?_ | refine QLdReq.agg hX rfl rfl hlp hcp ?_ | refine zQ hX ?_ | refine zR hX ?_ | refine zA ?_ | refine zT ?_ | refine zF ?_ | refine zL hX hL ?_ | refine zB hX hL ?_ | (refine zS hX hL ?_; clear hL; intro w hL) | refine zI ?_ | refine zG hX ?_ | refine zO ?_); conv => whnf)
  refine CallReq.mk (L1 := La1) (L2 := [_, _, _]) (newRunner_fn m1 ab ns La1 hA hO _ l hs1 h4 p _ hrp hfp hfdp (decide (k = 8))) (Loc.back (L1 := [_, _, _]) hL) ?_
  clear hL
  rintro u m2 Lx w hL hm2 ⟨ns2, La2, ⟨hp2, hO2, hA2⟩, ⟨rfl, rfl⟩ | ⟨rb, fv, f, rfl, rfl, hf, hF⟩⟩
  · have hL := Loc.back (L1 := Lx) (L2 := [_, _, _]) hL
    refine SReq.mk ((hL.sublist (.cons_cons _ (.cons _ (.cons_cons _ (List.nil_sublist _))))).weaken hm2 hm1) ?_
    conv => whnf
    repeat ((first | refine zQ hX ?_ | refine zR hX ?_ | refine zA ?_ | refine zT ?_ | refine zF ?_ | refine zL hX hL ?_ | refine zB hX hL ?_ | (refine zS hX hL ?_; clear hL; intro w hL) | refine zI ?_ | refine zG hX ?_ | refine zO ?_); conv => whnf)
    exact RetReq.mk (hL.sublist (List.nil_sublist _)) ⟨rfl, none, 0, 0, 4, rfl, fun h => (by rw [hR] at h; cases h), fun _ => .inr rfl, fun h => absurd h hne⟩
  have hL := Loc.back (L1 := (rb, ruO ab fv fv) :: La2) (L2 := [_, _, _]) hL
  have hw2 : SlI m2 .u8 (.slice W wn wc) ws := hw1.le hm2 (fun _ _ _ h => h)
  refine SReq.mk ((hL.sublist (.cons_cons _ (.cons _ (.cons_cons _ (List.nil_sublist _))))).weaken hm2 hm1) ?_
  obtain ⟨Af, nf, cf, rfl, -⟩ := id hf
  rcases hk89 with rfl | rfl
  · conv => whnf
    repeat ((first | refine zQ hX ?_ | refine zR hX ?_ | refine zA ?_ | refine zT ?_ | refine zF ?_ | refine zL hX hL ?_ | refine zB hX hL ?_ | (refine zS hX hL ?_; clear hL; intro w hL) | refine zI ?_ | refine zG hX ?_ | refine zO ?_); conv => whnf)
    replace hL := hL.drop
    replace hL : Ev.Loc m [] w0 m2 (((g, biO bs) :: (rb, ruO ab (.slice Af nf cf) (.slice Af nf cf)) :: La2) ++ [(b2, .cells (toArr [.slice (some a) n c]) 35 (0, 0))]) w := hL.perm (List.Perm.cons _ (List.perm_append_comm (l₁ := [_])))
    have hcall := ahead_fn m2 ab rb g ns2 La2 hA2 hO2 _ ws hw2 hwb hwl bs hbl hb8 mark hmk _ _ f f hf hF hf hF
    rw [← hwn'] at hcall
    refine CallReq.mk (L1 := (g, biO bs) :: (rb, ruO ab (.slice Af nf cf) (.slice Af nf cf)) :: La2) (L2 := [_]) hcall hL ?_
    clear hL
    rintro u m3 Lx w hL hm3 ⟨e3, bs3, fv3, f3, ns3, La3, rfl, he3, rfl, ⟨hbl3, hb83⟩, hp3, hO3, hA3, -, -⟩
    replace hL : Ev.Loc m [] w0 m3 ((g, biO bs3) :: (b2, .cells (toArr [.slice (some a) n c]) 35 (0, 0)) :: La3) w := by
      have h2 : Ev.Loc m [] w0 m3 ((g, biO bs3) :: (La3 ++ [(b2, .cells (toArr [.slice (some a) n c]) 35 (0, 0))])) w := hL.sublist (.cons_cons _ (.cons _ (List.Sublist.refl _)))
      exact h2.perm (List.Perm.cons _ (List.perm_append_comm (l₂ := [_])))
    rcases he3 with rfl | rfl
    · conv => whnf
      repeat ((first | refine zT ?_ | refine zF ?_ | refine zL hX hL ?_ | refine zB hX hL ?_ | (refine zS hX hL ?_; clear hL; intro w hL) | refine zI ?_ | refine zG hX ?_ | refine zO ?_); conv => whnf)
      refine ⟨j + 1, ⟨by omega, m3, bs3, ns3, La3, ⟨(hm1.trans hm2).trans hm3, by omega, hb83⟩, ⟨hO3, hA3⟩, hL⟩, by first | omega | (simp only; omega) | (simp only [List.length_cons, List.length_append]; omega), ?_, ?_⟩
      · repeat (first | exact trivial | (refine And.intro (by (conv => lhs; whnf) <;> (conv => rhs; whnf) <;> (first | rfl)) ?_))
      · repeat (first | exact trivial | (refine And.intro (by (conv => lhs; whnf) <;> (conv => rhs; whnf) <;> (first | rfl)) ?_))
    · conv => whnf
      repeat ((first | refine zT ?_ | refine zF ?_ | refine zL hX hL ?_ | refine zB hX hL ?_ | (refine zS hX hL ?_; clear hL; intro w hL) | refine zI ?_ | refine zG hX ?_ | refine zO ?_); conv => whnf)
      exact RetReq.mk (hL.sublist (List.nil_sublist _)) ⟨rfl, none, 0, 0, 4, rfl, fun h => (by rw [hR] at h; cases h), fun _ => .inr rfl, fun h => absurd h hne⟩
  · conv => whnf
    repeat ((first | refine zQ hX ?_ | refine zR hX ?_ | refine zA ?_ | refine zT ?_ | refine zF ?_ | refine zL hX hL ?_ | refine zB hX hL ?_ | (refine zS hX hL ?_; clear hL; intro w hL) | refine zI ?_ | refine zG hX ?_ | refine zO ?_); conv => whnf)
    replace hL := hL.drop
    replace hL : Ev.Loc m [] w0 m2 (((g, biO bs) :: (rb, ruO ab (.slice Af nf cf) (.slice Af nf cf)) :: La2) ++ [(b2, .cells (toArr [.slice (some a) n c]) 35 (0, 0))]) w := hL.perm (List.Perm.cons _ (List.perm_append_comm (l₁ := [_])))
    have hcall := behind_fn m2 ab rb g ns2 La2 hA2 hO2 _ ws hw2 hwb hwl bs hbl hb8 mark hmk _ _ f f hf hF hf hF
    rw [← hwn'] at hcall
    refine CallReq.mk (L1 := (g, biO bs) :: (rb, ruO ab (.slice Af nf cf) (.slice Af nf cf)) :: La2) (L2 := [_]) hcall hL ?_
    clear hL
    rintro u m3 Lx w hL hm3 ⟨e3, bs3, fv3, f3, ns3, La3, rfl, he3, rfl, ⟨hbl3, hb83⟩, hp3, hO3, hA3, -, -⟩
    replace hL : Ev.Loc m [] w0 m3 ((g, biO bs3) :: (b2, .cells (toArr [.slice (some a) n c]) 35 (0, 0)) :: La3) w := by
      have h2 : Ev.Loc m [] w0 m3 ((g, biO bs3) :: (La3 ++ [(b2, .cells (toArr [.slice (some a) n c]) 35 (0, 0))])) w := hL.sublist (.cons_cons _ (.cons _ (List.Sublist.refl _)))
      exact h2.perm (List.Perm.cons _ (List.perm_append_comm (l₂ := [_])))
    rcases he3 with rfl | rfl
    · conv => whnf
      repeat ((first | refine zT ?_ | refine zF ?_ | refine zL hX hL ?_ | refine zB hX hL ?_ | (refine zS hX hL ?_; clear hL; intro w hL) | refine zI ?_ | refine zG hX ?_ | refine zO ?_); conv => whnf)
      refine ⟨j + 1, ⟨by omega, m3, bs3, ns3, La3, ⟨(hm1.trans hm2).trans hm3, by omega, hb83⟩, ⟨hO3, hA3⟩, hL⟩, by first | omega | (simp only; omega) | (simp only [List.length_cons, List.length_append]; omega), ?_, ?_⟩
      · repeat (first | exact trivial | (refine And.intro (by (conv => lhs; whnf) <;> (conv => rhs; whnf) <;> (first | rfl)) ?_))
      · repeat (first | exact trivial | (refine And.intro (by (conv => lhs; whnf) <;> (conv => rhs; whnf) <;> (first | rfl)) ?_))
    · conv => whnf
      repeat ((first | refine zT ?_ | refine zF ?_ | refine zL hX hL ?_ | refine zB hX hL ?_ | (refine zS hX hL ?_; clear hL; intro w hL) | refine zI ?_ | refine zG hX ?_ | refine zO ?_); conv => whnf)
      exact RetReq.mk (hL.sublist (List.nil_sublist _)) ⟨rfl, none, 0, 0, 4, rfl, fun h => (by rw [hR] at h; cases h), fun _ => .inr rfl, fun h => absurd h hne⟩
end Go.Proofs.YtiololnblplloaaGreat.tk
namespace Go.Proofs.YtiololnblplloaaGreat.tk
open Go Go.Ev Go.Proofs Go.Proofs.YtiololnblplloaaGreat.ar Go.Proofs.YtiololnblplloaaGreat.tree Go.Proofs.YtiololnblplloaaGreat.looks
def trO (v : Value) (line : Bool) (bits : Nat) : Obj := .cells (toArr [v, .bool line, .int .u8 bits]) 56 (0, 0)
def RunV (m : Mem) (ab N : Nat) (u : Value) : Prop := u = .pointer none ∨ ∃ rb f, u = .pointer (some ⟨rb, 0, none⟩) ∧ RunS m ab rb f ∧ fo.FB N f
theorem RunV.le {m m' : Mem} {ab N M : Nat} {u : Value} (h : RunV m ab N u) (hm : Mem.Le m m') (hN : N ≤ M) : RunV m' ab M u := by
  rcases h with h | ⟨rb, f, h1, h2, h3⟩
  · exact .inl h
  · exact .inr ⟨rb, f, h1, h2.le hm, h3.mono hN⟩
def AllV (m : Mem) (ab N : Nat) (us : List Value) : Prop := ∀ u ∈ us, RunV m ab N u
theorem AllV.le {m m' : Mem} {ab N M : Nat} {us : List Value} (h : AllV m ab N us) (hm : Mem.Le m m') (hN : N ≤ M) : AllV m' ab M us := fun u hu => (h u hu).le hm hN
theorem AllV.app {m : Mem} {ab N : Nat} {us : List Value} {u : Value} (h : AllV m ab N us) (hu : RunV m ab N u) : AllV m ab N (us ++ [u]) := fun x hx => (List.mem_append.1 hx).elim (h x) fun e => by rw [List.mem_singleton.1 e]; exact hu
theorem ownv_get {te : Nat} {A : Option Addr} {n c : Nat} {us : List Value} {Lo : Ev.Own} (ho : OwnS te 1 (.slice A n c) us Lo) : n = us.length ∧ n ≤ c ∧ c ≤ maxLen ∧ (us ≠ [] → ∃ g cur, A = some ⟨g, 0, none⟩ ∧ Lo = [(g, .cells (toArr cur) te (0, 0))] ∧ ∀ (i : Nat) (u : Value), us[i]? = some u → cur[i]? = some u) := by
  obtain ⟨k, hk, ⟨e, h0, rfl⟩ | ⟨g, cap, cur, e, rfl, h1, h2, h3, h4⟩⟩ := ho
  · cases e
    refine ⟨by omega, Nat.le_refl _, Nat.zero_le _, fun hne => absurd (List.eq_nil_of_length_eq_zero (by omega)) hne⟩
  · cases e
    refine ⟨by omega, h1, h2, fun _ => ⟨g, cur, rfl, rfl, fun i u hu => ?_⟩⟩
    rw [Nat.mul_one] at h4
    rw [← h4, List.getElem?_take] at hu
    split at hu
    · exact hu
    · cases hu
set_option maxHeartbeats 1000000 in
theorem look_fn (m : Mem) (ab bt : Nat) (ns : List Nd) (La Lo : Ev.Own) (hA : Ar ab ns La) (hO : OkA ns) (v : Value) (us : List Value) (ho : OwnS 50 1 v us Lo) (hus : AllV m ab ns.length us) (hl : us.length ≤ 4) (line : Bool) (bits : Nat) :
    Ev.Fn Tryz.prog 23 [.pointer (some ⟨bt, 0, none⟩)] m ((bt, trO v line bits) :: (Lo ++ La)) fun _ _ u => u = .tuple (toArr []) := by
  obtain ⟨A, n, c, rfl, -⟩ := ho.slice
  obtain ⟨hn, hnc, hcm, hget⟩ := ownv_get ho
  have hmx : maxLen = 9223372036854775807 := rfl
  refine Fn.enter (N := 47) hX Tryz.func23 rfl rfl (by show _ ≤ _; simp) (fun w0 hL => ?_)
  conv => whnf
  generalize keys ((bt, trO (.slice A n c) line bits) :: (Lo ++ La)) = S0 at hL ⊢
  conv => whnf
  repeat ((first | refine zT ?_ | refine zF ?_ | refine zL hX hL ?_ | refine zB hX hL ?_ | (refine zS hX hL ?_; clear hL; intro w hL) | refine zI ?_ | refine zG hX ?_ | refine zO ?_); conv => whnf)
  replace hL : Ev.Loc m S0 w0 m ((bt, trO (.slice A n c) line 0) :: (Lo ++ La)) w := hL
  refine LoopReq.inv hX (fun j : Nat => [(12, .int .i64 j)]) [0, 10, 11]
    (fun j w => j ≤ n ∧ ∃ m1 bits, (Mem.Le m m1 ∧ bits < 256) ∧ Ev.Loc m S0 w0 m1 ((bt, trO (.slice A n c) line bits) :: (Lo ++ La)) w) (fun j => n - j) 0
    ⟨by omega, m, 0, ⟨Mem.Le.refl m, by decide⟩, hL⟩ ⟨rfl, trivial⟩ ?_
  clear hL
  rintro j w f0 ⟨hj, m1, bits, ⟨hm1, hb⟩, hL⟩
  conv => whnf
  repeat ((first | refine zT ?_ | refine zF ?_ | refine zL hX hL ?_ | refine zB hX hL ?_ | (refine zS hX hL ?_; clear hL; intro w hL) | refine zI ?_ | refine zG hX ?_ | refine zO ?_); conv => whnf)
  refine BrReq.dec (fun hlt => ?_) (fun hlt => ?_)
  rotate_left
  · conv => whnf
    repeat ((first | refine zT ?_ | refine zF ?_ | refine zL hX hL ?_ | refine zB hX hL ?_ | (refine zS hX hL ?_; clear hL; intro w hL) | refine zI ?_ | refine zG hX ?_ | refine zO ?_); conv => whnf)
    exact RetReq.mk hL rfl
  have hjl : j < us.length := by omega
  have hx := List.getElem?_eq_getElem hjl
  obtain ⟨g, cur, rfl, rfl, hc⟩ := hget (fun e => by rw [e] at hjl; simp at hjl)
  have hc' := hc j _ hx
  have hv := hus _ (List.getElem_mem hjl)
  generalize us[j] = u at hc' hv
  replace hL : Ev.Loc m S0 w0 m1 ((bt, trO (.slice (some ⟨g, 0, none⟩) n c) line bits) :: (g, .cells (toArr cur) 50 (0, 0)) :: La) w := hL
  rcases hv with rfl | ⟨rb, f, rfl, hr, hF⟩
  · conv => whnf
    repeat ((first | refine Idx2Req.mk j _ rfl (by omega) rfl ?_ | (refine LdReq.ownC hX rfl rfl hL (.t .h) (by rw [scale_eq, Nat.zero_add, Nat.mul_one]; exact hc') ?_) | refine UGenReq.nilPtr hX rfl rfl rfl rfl rfl ?_ | refine UGenReq.nilPtrNe hX rfl rfl rfl rfl rfl ?_ | refine zT ?_ | refine zF ?_ | refine zL hX hL ?_ | refine zB hX hL ?_ | (refine zS hX hL ?_; clear hL; intro w hL) | refine zI ?_ | refine zG hX ?_ | refine zO ?_); conv => whnf)
    cases line with
    | false =>
      conv => whnf
      repeat ((first | refine UGenReq.nilPtr hX rfl rfl rfl rfl rfl ?_ | refine UGenReq.nilPtrNe hX rfl rfl rfl rfl rfl ?_ | refine zT ?_ | refine zF ?_ | refine zL hX hL ?_ | refine zB hX hL ?_ | (refine zS hX hL ?_; clear hL; intro w hL) | refine zI ?_ | refine zG hX ?_ | refine zO ?_); conv => whnf)
      refine ⟨j + 1, ⟨by omega, m1, bits, ⟨hm1, hb⟩, hL⟩, by first | omega | (simp only; omega) | (simp only [List.length_cons, List.length_append]; omega), ?_, ?_⟩
      · repeat (first | exact trivial | (refine And.intro (by (conv => lhs; whnf) <;> (conv => rhs; whnf) <;> (first | rfl)) ?_))
      · repeat (first | exact trivial | (refine And.intro (by (conv => lhs; whnf) <;> (conv => rhs; whnf) <;> (first | rfl)) ?_))
    | true =>
      conv => whnf
      repeat ((first | refine UGenReq.nilPtr hX rfl rfl rfl rfl rfl ?_ | refine UGenReq.nilPtrNe hX rfl rfl rfl rfl rfl ?_ | refine zT ?_ | refine zF ?_ | refine zL hX hL ?_ | refine zB hX hL ?_ | (refine zS hX hL ?_; clear hL; intro w hL) | refine zI ?_ | refine zG hX ?_ | refine zO ?_); conv => whnf)
      refine DrawReq.plan hX (.fst 0 (.fst 1 (.fst 2 (.fst 4 (.fst 5 (.alt 3 (.fst 6 (.fst 7 (.fst 8 (.alt 9 (.done) (.stop))))) (.stop))))))) [] (by kernel_rfl) (by kernel_rfl) hL (fun h => h.sublist (List.nil_sublist _)) ?_
      clear hL
      intro w hL
      conv => whnf
      repeat ((first | refine zQ hX ?_ | refine zR hX ?_ | refine zA ?_ | refine zT ?_ | refine zF ?_ | refine zL hX hL ?_ | refine zB hX hL ?_ | (refine zS hX hL ?_; clear hL; intro w hL) | refine zI ?_ | refine zG hX ?_ | refine zO ?_); conv => whnf)
      refine ShlReq.any8 (by omega) fun k1 hk1 => ?_
      conv => whnf
      repeat ((first | refine SReq.mk (hL.sublist (List.nil_sublist _)) ?_ | refine zQ hX ?_ | refine zR hX ?_ | refine zA ?_ | refine zT ?_ | refine zF ?_ | refine zL hX hL ?_ | refine zB hX hL ?_ | (refine zS hX hL ?_; clear hL; intro w hL) | refine zI ?_ | refine zG hX ?_ | refine zO ?_); conv => whnf)
      refine BitReq.or8 fun k2 hk2 => ?_
      conv => whnf
      repeat ((first | refine SReq.mk (hL.sublist (List.nil_sublist _)) ?_ | refine zQ hX ?_ | refine zR hX ?_ | refine zA ?_ | refine zT ?_ | refine zF ?_ | refine zL hX hL ?_ | refine zB hX hL ?_ | (refine zS hX hL ?_; clear hL; intro w hL) | refine zI ?_ | refine zG hX ?_ | refine zO ?_); conv => whnf)
      replace hL : Ev.Loc m S0 w0 m1 ((bt, trO (.slice (some ⟨g, 0, none⟩) n c) true k2) :: (g, .cells (toArr cur) 50 (0, 0)) :: La) w := hL
      refine ⟨j + 1, ⟨by omega, m1, k2, ⟨hm1, hk2⟩, hL⟩, by first | omega | (simp only; omega) | (simp only [List.length_cons, List.length_append]; omega), ?_, ?_⟩
      · repeat (first | exact trivial | (refine And.intro (by (conv => lhs; whnf) <;> (conv => rhs; whnf) <;> (first | rfl)) ?_))
      · repeat (first | exact trivial | (refine And.intro (by (conv => lhs; whnf) <;> (conv => rhs; whnf) <;> (first | rfl)) ?_))
  · have his := isS_fn m1 ab rb ns La hA hO bits hb f (hr.le hm1) hF
    conv => whnf
    repeat ((first | refine Idx2Req.mk j _ rfl (by omega) rfl ?_ | (refine LdReq.ownC hX rfl rfl hL (.t .h) (by rw [scale_eq, Nat.zero_add, Nat.mul_one]; exact hc') ?_) | refine UGenReq.nilPtr hX rfl rfl rfl rfl rfl ?_ | refine UGenReq.nilPtrNe hX rfl rfl rfl rfl rfl ?_ | refine zT ?_ | refine zF ?_ | refine zL hX hL ?_ | refine zB hX hL ?_ | (refine zS hX hL ?_; clear hL; intro w hL) | refine zI ?_ | refine zG hX ?_ | refine zO ?_); conv => whnf)
    refine CallReq.lm (L1 := La) (L2 := [_, _]) his (Loc.back (L1 := [_, _]) hL) ?_
    clear hL
    intro m2 w hm2 hL
    have hL := Loc.back (L1 := La) (L2 := [_, _]) hL
    replace hL : Ev.Loc m S0 w0 m2 ((bt, trO (.slice (some ⟨g, 0, none⟩) n c) line bits) :: (g, .cells (toArr cur) 50 (0, 0)) :: La) w := hL
    have hm12 := hm1.trans hm2
    cases hbb : isB ns bits f with
    | false =>
      conv => whnf
      repeat ((first | refine zT ?_ | refine zF ?_ | refine zL hX hL ?_ | refine zB hX hL ?_ | (refine zS hX hL ?_; clear hL; intro w hL) | refine zI ?_ | refine zG hX ?_ | refine zO ?_); conv => whnf)
      refine ⟨j + 1, ⟨by omega, m2, bits, ⟨hm12, hb⟩, hL⟩, by first | omega | (simp only; omega) | (simp only [List.length_cons, List.length_append]; omega), ?_, ?_⟩
      · repeat (first | exact trivial | (refine And.intro (by (conv => lhs; whnf) <;> (conv => rhs; whnf) <;> (first | rfl)) ?_))
      · repeat (first | exact trivial | (refine And.intro (by (conv => lhs; whnf) <;> (conv => rhs; whnf) <;> (first | rfl)) ?_))
    | true =>
      conv => whnf
      repeat ((first | refine zT ?_ | refine zF ?_ | refine zL hX hL ?_ | refine zB hX hL ?_ | (refine zS hX hL ?_; clear hL; intro w hL) | refine zI ?_ | refine zG hX ?_ | refine zO ?_); conv => whnf)
      refine DrawReq.plan hX (.fst 0 (.fst 1 (.fst 2 (.fst 4 (.fst 5 (.alt 3 (.fst 6 (.fst 7 (.fst 8 (.alt 9 (.done) (.stop))))) (.stop))))))) [] (by kernel_rfl) (by kernel_rfl) hL (fun h => h.sublist (List.nil_sublist _)) ?_
      clear hL
      intro w hL
      conv => whnf
      repeat ((first | refine zQ hX ?_ | refine zR hX ?_ | refine zA ?_ | refine zT ?_ | refine zF ?_ | refine zL hX hL ?_ | refine zB hX hL ?_ | (refine zS hX hL ?_; clear hL; intro w hL) | refine zI ?_ | refine zG hX ?_ | refine zO ?_); conv => whnf)
      refine ShlReq.any8 (by omega) fun k1 hk1 => ?_
      conv => whnf
      repeat ((first | refine SReq.mk (hL.sublist (List.nil_sublist _)) ?_ | refine zQ hX ?_ | refine zR hX ?_ | refine zA ?_ | refine zT ?_ | refine zF ?_ | refine zL hX hL ?_ | refine zB hX hL ?_ | (refine zS hX hL ?_; clear hL; intro w hL) | refine zI ?_ | refine zG hX ?_ | refine zO ?_); conv => whnf)
      refine BitReq.or8 fun k2 hk2 => ?_
      conv => whnf
      repeat ((first | refine SReq.mk (hL.sublist (List.nil_sublist _)) ?_ | refine zQ hX ?_ | refine zR hX ?_ | refine zA ?_ | refine zT ?_ | refine zF ?_ | refine zL hX hL ?_ | refine zB hX hL ?_ | (refine zS hX hL ?_; clear hL; intro w hL) | refine zI ?_ | refine zG hX ?_ | refine zO ?_); conv => whnf)
      replace hL : Ev.Loc m S0 w0 m2 ((bt, trO (.slice (some ⟨g, 0, none⟩) n c) line k2) :: (g, .cells (toArr cur) 50 (0, 0)) :: La) w := hL
      refine ⟨j + 1, ⟨by omega, m2, k2, ⟨hm12, hk2⟩, hL⟩, by first | omega | (simp only; omega) | (simp only [List.length_cons, List.length_append]; omega), ?_, ?_⟩
      · repeat (first | exact trivial | (refine And.intro (by (conv => lhs; whnf) <;> (conv => rhs; whnf) <;> (first | rfl)) ?_))
      · repeat (first | exact trivial | (refine And.intro (by (conv => lhs; whnf) <;> (conv => rhs; whnf) <;> (first | rfl)) ?_))
def NewP (l : List Re) (u : Value) : Prop := ∃ A e, u = .tuple (toArr [.pointer A, .int .i64 e]) ∧ (rightB l = false → e = 1) ∧ (rightB l = true → e = 0 ∨ e = 4 ∨ e = 13)
set_option maxHeartbeats 2000000 in
theorem NewT_fn (m : Mem) (v : Value) (l : List Re) (hs : Sl m 9 (RepRe m) v l) (hsm : ∀ r ∈ l, Small r) (hnb : nodesL l ≤ 1000000) :
    Fn0 Tryz.prog 10 [.agg (toArr [v])] m fun _ u => NewP l u := by
  have hs' := hs
  obtain ⟨A, n, c, rfl, hn, hc, hm, -⟩ := hs
  have hmx : maxLen = 9223372036854775807 := rfl
  have hrt := right_fn m _ l hs' hsm hnb
  refine Fn.enter (N := 66) hX Tryz.func10 rfl rfl (by show _ ≤ _; simp) (fun w0 hL => ?_)
  conv => whnf
  refine NewReq.mk hL ?_
  clear hL
  intro b1 w hL
  conv => whnf
  conv => whnf
  repeat ((first | refine zT ?_ | refine zF ?_ | refine zL hX hL ?_ | refine zB hX hL ?_ | (refine zS hX hL ?_; clear hL; intro w hL) | refine zI ?_ | refine zG hX ?_ | refine zO ?_); conv => whnf)
  refine CallReq.pure hrt hL ?_
  clear hL
  rintro u m0 w hL hm0 rfl
  cases hR : rightB l with
  | false =>
    conv => whnf
    repeat ((first | refine zT ?_ | refine zF ?_ | refine zL hX hL ?_ | refine zB hX hL ?_ | (refine zS hX hL ?_; clear hL; intro w hL) | refine zI ?_ | refine zG hX ?_ | refine zO ?_); conv => whnf)
    exact RetReq.mk hL.drop ⟨rfl, none, 1, rfl, fun _ => rfl, fun h => (by rw [hR] at h; cases h)⟩
  | true =>
  obtain ⟨hform, hlk, h4, hfnd⟩ := right_facts hR
  have hkind := right_kind hR
  have hs0 : Sl m0 9 (RepRe m0) (.slice A n c) l := hs'.le hm0 fun _ _ _ h => h.le hm0
  conv => whnf
  repeat ((first | refine zT ?_ | refine zF ?_ | refine zL hX hL ?_ | refine zB hX hL ?_ | (refine zS hX hL ?_; clear hL; intro w hL) | refine zI ?_ | refine zG hX ?_ | refine zO ?_); conv => whnf)
  refine CallReq.val (Late_fn m0 _ l hs0) hL ?_
  clear hL
  intro w hL
  cases hlate : lateR l with
  | true =>
    conv => whnf
    repeat ((first | refine zT ?_ | refine zF ?_ | refine zL hX hL ?_ | refine zB hX hL ?_ | (refine zS hX hL ?_; clear hL; intro w hL) | refine zI ?_ | refine zG hX ?_ | refine zO ?_); conv => whnf)
    exact RetReq.mk hL.drop ⟨rfl, none, 13, rfl, fun h => (by rw [hR] at h; cases h), fun _ => .inr (.inr rfl)⟩
  | false =>
  have hk910 : ∀ r ∈ l, r.kind = 9 ∨ r.kind = 10 := fun r hr => by
    have h1 := hkind r hr
    unfold lateR at hlate
    have h2 := List.any_eq_false.1 hlate r hr
    simp only [Bool.or_eq_true, decide_eq_true_eq] at h2
    omega
  conv => whnf
  repeat ((first | refine zT ?_ | refine zF ?_ | refine zL hX hL ?_ | refine zB hX hL ?_ | (refine zS hX hL ?_; clear hL; intro w hL) | refine zI ?_ | refine zG hX ?_ | refine zO ?_); conv => whnf)
  refine NewReq.mk hL ?_
  clear hL
  intro bt w hL
  conv => whnf
  replace hL : Ev.Loc m [] w0 m0 ((bt, trO (.slice none 0 0) true 0) :: (b1, .cells (toArr [.slice A n c]) 35 (0, 0)) :: []) w := hL
  conv => whnf
  repeat ((first | refine zT ?_ | refine zF ?_ | refine zL hX hL ?_ | refine zB hX hL ?_ | (refine zS hX hL ?_; clear hL; intro w hL) | refine zI ?_ | refine zG hX ?_ | refine zO ?_); conv => whnf)
  refine CallReq.mk (L1 := []) (L2 := [_, _]) (New_fn m0) hL ?_
  clear hL
  rintro u mx La w hL - ⟨hmx', ab, rfl, hA⟩
  rw [hmx'] at hL
  clear hmx' mx
  have hL := Loc.back (L1 := La) (L2 := [_, _]) hL
  replace hL : Ev.Loc m [] w0 m0 ((bt, trO (.slice none 0 0) true 0) :: (b1, .cells (toArr [.slice A n c]) 35 (0, 0)) :: La) w := hL
  conv => whnf
  repeat ((first | refine zT ?_ | refine zF ?_ | refine zL hX hL ?_ | refine zB hX hL ?_ | (refine zS hX hL ?_; clear hL; intro w hL) | refine zI ?_ | refine zG hX ?_ | refine zO ?_); conv => whnf)
  refine LoopReq.inv hX (fun j : Nat => [(23, .int .i64 j)]) [1, 4, 5, 21, 22]
    (fun j w => j ≤ n ∧ ∃ m1 A1 n1 c1 us Lo ns La1, (Mem.Le m m1 ∧ OwnS 50 1 (.slice A1 n1 c1) us Lo ∧ AllV m1 ab ns.length us ∧ us.length = j) ∧ (OkA ns ∧ Ar ab ns La1) ∧
      Ev.Loc m [] w0 m1 ((bt, trO (.slice A1 n1 c1) true 0) :: (b1, .cells (toArr [.slice A n c]) 35 (0, 0)) :: (Lo ++ La1)) w) (fun j => n - j) 0
    ⟨by omega, m0, none, 0, 0, [], [], [], La, ⟨hm0, OwnS.nil _ _, fun u hu => (by cases hu), rfl⟩, ⟨okA_nil, hA⟩, hL⟩ ⟨rfl, trivial⟩ ?_
  clear hL hA
  rintro j w f0 ⟨hj, m1, A1, n1, c1, us, Lo, ns, La1, ⟨hm1, ho, hus, hul⟩, ⟨hO, hA⟩, hL⟩
  conv => whnf
  repeat ((first | refine zT ?_ | refine zF ?_ | refine zL hX hL ?_ | refine zB hX hL ?_ | (refine zS hX hL ?_; clear hL; intro w hL) | refine zI ?_ | refine zG hX ?_ | refine zO ?_); conv => whnf)
  refine BrReq.dec (fun hlt => ?_) (fun hlt => ?_)
  rotate_left
  · have hL2 : Ev.Loc m [] w0 m1 (((bt, trO (.slice A1 n1 c1) true 0) :: (Lo ++ La1)) ++ [(b1, .cells (toArr [.slice A n c]) 35 (0, 0))]) w := hL.perm (List.Perm.cons _ (List.perm_append_comm (l₁ := [_])))
    conv => whnf
    repeat ((first | refine zT ?_ | refine zF ?_ | refine zL hX hL ?_ | refine zB hX hL ?_ | (refine zS hX hL ?_; clear hL; intro w hL) | refine zI ?_ | refine zG hX ?_ | refine zO ?_); conv => whnf)
    refine CallReq.mk (L1 := (bt, trO (.slice A1 n1 c1) true 0) :: (Lo ++ La1)) (L2 := [_]) (look_fn m1 ab bt ns La1 Lo hA hO _ us ho hus (by omega) true 0) hL2 ?_
    clear hL hL2
    rintro u m2 Lx w hL hm2 rfl
    conv => whnf
    repeat ((first | refine zT ?_ | refine zF ?_ | refine zL hX hL ?_ | refine zB hX hL ?_ | (refine zS hX hL ?_; clear hL; intro w hL) | refine zI ?_ | refine zG hX ?_ | refine zO ?_); conv => whnf)
    exact RetReq.mk (hL.sublist (List.nil_sublist _)) ⟨rfl, _, 0, rfl, fun h => (by rw [hR] at h; cases h), fun _ => .inl rfl⟩
  have hlt' : j < l.length := by omega
  have hs1 : Sl m1 9 (RepRe m1) (.slice A n c) l := hs'.le hm1 fun _ _ _ h => h.le hm1
  obtain ⟨a, cs', rfl, hl9, hcells, hrep⟩ := hs1.elem j _ (List.getElem?_eq_getElem hlt')
  have hmem := List.getElem_mem hlt'
  have hfr := hform _ hmem
  have hkr := hk910 _ hmem
  have hfd := hfnd _ hmem
  generalize l[j] = r at hrep hfr hkr hfd
  obtain ⟨k, s0, s1, s2, s3, rs, lo, hi, neg⟩ := r
  obtain ⟨A2, n2, c2, rfl, hs2, hrng⟩ := hrep.open
  have hkr1 : k = 9 ∨ k = 10 := hkr
  conv => whnf
  repeat ((first | refine Idx2Req.mk j a rfl (by omega) rfl ?_ | refine LdReq.agg hX rfl rfl hL hl9 hcells ?_ | refine zT ?_ | refine zF ?_ | refine zL hX hL ?_ | refine zB hX hL ?_ | (refine zS hX hL ?_; clear hL; intro w hL) | refine zI ?_ | refine zG hX ?_ | refine zO ?_); conv => whnf)
  refine NewReq.mk hL ?_
  clear hL
  intro b7 w hL
  conv => whnf
  conv => whnf
  repeat ((first | refine zT ?_ | refine zF ?_ | refine zL hX hL ?_ | refine zB hX hL ?_ | (refine zS hX hL ?_; clear hL; intro w hL) | refine zI ?_ | refine zG hX ?_ | refine zO ?_); conv => whnf)
  replace hL : Ev.Loc m [] w0 m1 ((b7, .cells (toArr (reC k s0 s1 s2 s3 (.slice A2 n2 c2) lo hi neg)) 30 (0, 0)) :: (bt, trO (.slice A1 n1 c1) true 0) :: (b1, .cells (toArr [.slice (some a) n c]) 35 (0, 0)) :: (Lo ++ La1)) w := hL
  by_cases h10 : k = 10
  · conv => whnf
    repeat ((first | refine BrReq.yes h10 ?_ | refine zT ?_ | refine zF ?_ | refine zL hX hL ?_ | refine zB hX hL ?_ | (refine zS hX hL ?_; clear hL; intro w hL) | refine zI ?_ | refine zG hX ?_ | refine zO ?_); conv => whnf)
    refine NewReq.mk hL ?_
    clear hL
    intro g2 w hL
    conv => whnf
    replace hL : Ev.Loc m [] w0 m1 ((g2, .cells (toArr [.pointer none]) 50 (0, 0)) :: (b7, .cells (toArr (reC k s0 s1 s2 s3 (.slice A2 n2 c2) lo hi neg)) 30 (0, 0)) :: (bt, trO (.slice A1 n1 c1) true 0) :: (b1, .cells (toArr [.slice (some a) n c]) 35 (0, 0)) :: (Lo ++ La1)) w := hL
    replace hL : Ev.Loc m [] w0 m1 ((g2, .cells (toArr [.pointer none]) 50 (0, 0)) :: (Lo ++ ((bt, trO (.slice A1 n1 c1) true 0) :: (b1, .cells (toArr [.slice (some a) n c]) 35 (0, 0)) :: La1))) w := by
      have h2 := (hL.sublist (.cons_cons _ (.cons _ (List.Sublist.refl _))) : Ev.Loc m [] w0 m1 ((g2, .cells (toArr [.pointer none]) 50 (0, 0)) :: ([(bt, trO (.slice A1 n1 c1) true 0), (b1, .cells (toArr [.slice (some a) n c]) 35 (0, 0))] ++ (Lo ++ La1))) w)
      refine h2.perm (List.Perm.cons _ ?_)
      exact (List.perm_append_comm_assoc _ _ _)
    conv => whnf
    repeat ((first | refine zT ?_ | refine zF ?_ | refine zL hX hL ?_ | refine zB hX hL ?_ | (refine zS hX hL ?_; clear hL; intro w hL) | refine zI ?_ | refine zG hX ?_ | refine zO ?_); conv => whnf)
    refine RunReq.push hX 54 50 rfl rfl rfl rfl rfl ho (L2 := (bt, trO (.slice A1 n1 c1) true 0) :: (b1, .cells (toArr [.slice (some a) n c]) 35 (0, 0)) :: La1) hL rfl rfl (by show us.length + 1 ≤ _; omega) rfl ?_
    clear hL
    intro A3 n3 c3 Lo3 w hn3 ho3 hL
    replace hL : Ev.Loc m [] w0 m1 ([(bt, trO (.slice A1 n1 c1) true 0), (b1, .cells (toArr [.slice (some a) n c]) 35 (0, 0))] ++ (Lo3 ++ La1)) w := hL.perm (List.perm_append_comm_assoc Lo3 [_, _] La1)
    replace hL : Ev.Loc m [] w0 m1 ((bt, trO (.slice A1 n1 c1) true 0) :: (b1, .cells (toArr [.slice (some a) n c]) 35 (0, 0)) :: (Lo3 ++ La1)) w := hL
    conv => whnf
    repeat ((first | refine zT ?_ | refine zF ?_ | refine zL hX hL ?_ | refine zB hX hL ?_ | (refine zS hX hL ?_; clear hL; intro w hL) | refine zI ?_ | refine zG hX ?_ | refine zO ?_); conv => whnf)
    replace hL : Ev.Loc m [] w0 m1 ((bt, trO (.slice A3 n3 c3) true 0) :: (b1, .cells (toArr [.slice (some a) n c]) 35 (0, 0)) :: (Lo3 ++ La1)) w := hL
    refine ⟨j + 1, ⟨by omega, m1, A3, n3, c3, _, Lo3, ns, La1, ⟨hm1, ho3, hus.app (.inl rfl), by rw [List.length_append, hul]; rfl⟩, ⟨hO, hA⟩, hL⟩, by first | omega | (simp only; omega) | (simp only [List.length_cons, List.length_append]; omega), ?_, ?_⟩
    · repeat (first | exact trivial | (refine And.intro (by (conv => lhs; whnf) <;> (conv => rhs; whnf) <;> (first | rfl)) ?_))
    · repeat (first | exact trivial | (refine And.intro (by (conv => lhs; whnf) <;> (conv => rhs; whnf) <;> (first | rfl)) ?_))
  have h9 : k = 9 := by omega
  have hk89 : k = 8 ∨ k = 9 := .inr h9
  obtain ⟨p, rfl⟩ := parts_one hfr hk89
  have hfp := formed_part hfr (List.mem_singleton.2 rfl) hk89
  obtain ⟨ap, csp, hap, hlp, hcp, hrp⟩ := hs2.elem 0 p rfl
  cases hap
  obtain ⟨k2, v0, v1, v2, v3, A4, n4, c4, lo2, hi2, neg2, rfl⟩ := hrp.form
  have hfdp : fndR l p := by rw [fndR, fndL] at hfd; exact hfd.2.1
  have hn1 : n2 = 1 := by obtain ⟨_, _, _, e, h, -⟩ := hs2; cases e; exact h
  conv => whnf
  repeat ((first | refine BrReq.no h10 ?_ | refine zT ?_ | refine zF ?_ | refine zL hX hL ?_ | refine zB hX hL ?_ | (refine zS hX hL ?_; clear hL; intro w hL) | refine zI ?_ | refine zG hX ?_ | refine zO ?_); conv => whnf)
  have hS : ∀ w, Ev.Loc m [] w0 m1 ((b7, .cells (toArr (reC k s0 s1 s2 s3 (.slice (some ap) n2 c2) lo hi neg)) 30 (0, 0)) :: (bt, trO (.slice A1 n1 c1) true 0) :: (b1, .cells (toArr [.slice (some a) n c]) 35 (0, 0)) :: (Lo ++ La1)) w → Ev.Loc m [] w0 m1 [(b7, .cells (toArr (reC k s0 s1 s2 s3 (.slice (some ap) n2 c2) lo hi neg)) 30 (0, 0)), (b1, .cells (toArr [.slice (some a) n c]) 35 (0, 0))] w := fun w h => h.sublist (.cons_cons _ (.cons _ (.cons_cons _ (List.nil_sublist _))))
  refine DrawReq.plan hX (.fst 0 (.fst 1 (.fst 2 (.fst 3 (.fst 4 (.fst 5 (.alt 6 (.fst 7 (.fst 8 (.fst 9 (.fst 10 (.fst 11 (.done)))))) (.stop)))))))) [(b7, .cells (toArr (reC k s0 s1 s2 s3 (.slice (some ap) n2 c2) lo hi neg)) 30 (0, 0)), (b1, .cells (toArr [.slice (some a) n c]) 35 (0, 0))] (by kernel_rfl) (by kernel_rfl) hL (hS _) ?_
  clear hL
  intro w hL
  conv => whnf
  repeat ((first | refine Idx2Req.mk 0 ap rfl (by omega) rfl ?_ | refine QLdReq.agg hX rfl rfl hlp hcp ?_ | refine zQ hX ?_ | refine zR hX ?_ | refine zA ?_ | refine zT ?_ | refine zF ?_ | refine zL hX hL ?_ | refine zB hX hL ?_ | (refine zS hX hL ?_; clear hL; intro w hL) | refine zI ?_ | refine zG hX ?_ | refine zO ?_); conv => whnf)
  have hL2 : Ev.Loc m [] w0 m1 (La1 ++ ((b7, .cells (toArr (reC k s0 s1 s2 s3 (.slice (some ap) n2 c2) lo hi neg)) 30 (0, 0)) :: (bt, trO (.slice A1 n1 c1) true 0) :: (b1, .cells (toArr [.slice (some a) n c]) 35 (0, 0)) :: Lo)) w := (Loc.back (L1 := (b7, _) :: (bt, _) :: (b1, _) :: Lo) (L2 := La1) hL)
  refine CallReq.mk (L1 := La1) (newRunner_fn m1 ab ns La1 hA hO _ l hs1 h4 p _ hrp hfp hfdp false) hL2 ?_
  clear hL hL2
  rintro u m2 Lx w hL hm2 ⟨ns2, La2, ⟨hp2, hO2, hA2⟩, ⟨rfl, rfl⟩ | ⟨rb, fv, f, rfl, rfl, hf, hF⟩⟩
  · have hL := Loc.back (L1 := Lx) hL
    refine SReq.mk ((hL.sublist (.cons_cons _ (.cons _ (.cons_cons _ (List.nil_sublist _))))).weaken hm2 hm1) ?_
    conv => whnf
    repeat ((first | refine zQ hX ?_ | refine zR hX ?_ | refine zA ?_ | refine zT ?_ | refine zF ?_ | refine zL hX hL ?_ | refine zB hX hL ?_ | (refine zS hX hL ?_; clear hL; intro w hL) | refine zI ?_ | refine zG hX ?_ | refine zO ?_); conv => whnf)
    exact RetReq.mk (hL.sublist (List.nil_sublist _)) ⟨rfl, none, 4, rfl, fun h => (by rw [hR] at h; cases h), fun _ => .inr (.inl rfl)⟩
  have hle := hL.le_add
  replace hL := hL.freeze
  generalize hm3e : m2.add rb (ruO ab fv fv) = m3 at hL hle
  have hrs : RunS m3 ab rb f := by
    rw [← hm3e]
    exact ⟨fv, fv, cells_add _, hf.le (by rw [hm3e]; exact hle)⟩
  clear hm3e
  have hL := Loc.back (L1 := La2) hL
  have hm3 := hm2.trans hle
  replace hL : Ev.Loc m [] w0 m3 ((b7, .cells (toArr (reC k s0 s1 s2 s3 (.slice (some ap) n2 c2) lo hi neg)) 30 (0, 0)) :: (bt, trO (.slice A1 n1 c1) true 0) :: (b1, .cells (toArr [.slice (some a) n c]) 35 (0, 0)) :: (Lo ++ La2)) w := hL
  refine SReq.mk ((hL.sublist (.cons_cons _ (.cons _ (.cons_cons _ (List.nil_sublist _))))).weaken hm3 hm1) ?_
  conv => whnf
  repeat ((first | refine zQ hX ?_ | refine zR hX ?_ | refine zA ?_ | refine zT ?_ | refine zF ?_ | refine zL hX hL ?_ | refine zB hX hL ?_ | (refine zS hX hL ?_; clear hL; intro w hL) | refine zI ?_ | refine zG hX ?_ | refine zO ?_); conv => whnf)
  refine NewReq.mk hL ?_
  clear hL
  intro g2 w hL
  conv => whnf
  replace hL : Ev.Loc m [] w0 m3 ((g2, .cells (toArr [.pointer (some ⟨rb, 0, none⟩)]) 50 (0, 0)) :: (b7, .cells (toArr (reC k s0 s1 s2 s3 (.slice (some ap) n2 c2) lo hi neg)) 30 (0, 0)) :: (bt, trO (.slice A1 n1 c1) true 0) :: (b1, .cells (toArr [.slice (some a) n c]) 35 (0, 0)) :: (Lo ++ La2)) w := hL
  replace hL : Ev.Loc m [] w0 m3 ((g2, .cells (toArr [.pointer (some ⟨rb, 0, none⟩)]) 50 (0, 0)) :: (Lo ++ ((bt, trO (.slice A1 n1 c1) true 0) :: (b1, .cells (toArr [.slice (some a) n c]) 35 (0, 0)) :: La2))) w := by
    have h2 := (hL.sublist (.cons_cons _ (.cons _ (List.Sublist.refl _))) : Ev.Loc m [] w0 m3 ((g2, .cells (toArr [.pointer (some ⟨rb, 0, none⟩)]) 50 (0, 0)) :: ([(bt, trO (.slice A1 n1 c1) true 0), (b1, .cells (toArr [.slice (some a) n c]) 35 (0, 0))] ++ (Lo ++ La2))) w)
    refine h2.perm (List.Perm.cons _ ?_)
    exact (List.perm_append_comm_assoc _ _ _)
  conv => whnf
  repeat ((first | refine zT ?_ | refine zF ?_ | refine zL hX hL ?_ | refine zB hX hL ?_ | (refine zS hX hL ?_; clear hL; intro w hL) | refine zI ?_ | refine zG hX ?_ | refine zO ?_); conv => whnf)
  refine RunReq.push hX 54 50 rfl rfl rfl rfl rfl ho (L2 := (bt, trO (.slice A1 n1 c1) true 0) :: (b1, .cells (toArr [.slice (some a) n c]) 35 (0, 0)) :: La2) hL rfl rfl (by show us.length + 1 ≤ _; omega) rfl ?_
  clear hL
  intro A3 n3 c3 Lo3 w hn3 ho3 hL
  replace hL : Ev.Loc m [] w0 m3 ([(bt, trO (.slice A1 n1 c1) true 0), (b1, .cells (toArr [.slice (some a) n c]) 35 (0, 0))] ++ (Lo3 ++ La2)) w := hL.perm (List.perm_append_comm_assoc Lo3 [_, _] La2)
  replace hL : Ev.Loc m [] w0 m3 ((bt, trO (.slice A1 n1 c1) true 0) :: (b1, .cells (toArr [.slice (some a) n c]) 35 (0, 0)) :: (Lo3 ++ La2)) w := hL
  conv => whnf
  repeat ((first | refine zT ?_ | refine zF ?_ | refine zL hX hL ?_ | refine zB hX hL ?_ | (refine zS hX hL ?_; clear hL; intro w hL) | refine zI ?_ | refine zG hX ?_ | refine zO ?_); conv => whnf)
  replace hL : Ev.Loc m [] w0 m3 ((bt, trO (.slice A3 n3 c3) true 0) :: (b1, .cells (toArr [.slice (some a) n c]) 35 (0, 0)) :: (Lo3 ++ La2)) w := hL
  refine ⟨j + 1, ⟨by omega, m3, A3, n3, c3, _, Lo3, ns2, La2, ⟨hm1.trans hm3, ho3, (hus.le hm3 hp2.length_le).app (.inr ⟨rb, f, rfl, hrs, hF⟩), by rw [List.length_append, hul]; rfl⟩, ⟨hO2, hA2⟩, hL⟩, by first | omega | (simp only; omega) | (simp only [List.length_cons, List.length_append]; omega), ?_, ?_⟩
  · repeat (first | exact trivial | (refine And.intro (by (conv => lhs; whnf) <;> (conv => rhs; whnf) <;> (first | rfl)) ?_))
  · repeat (first | exact trivial | (refine And.intro (by (conv => lhs; whnf) <;> (conv => rhs; whnf) <;> (first | rfl)) ?_))
end Go.Proofs.YtiololnblplloaaGreat.tk
