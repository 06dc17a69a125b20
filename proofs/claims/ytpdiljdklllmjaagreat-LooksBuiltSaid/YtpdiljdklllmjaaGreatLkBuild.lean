/- Looks: a plan's Build; the bits of looks, walked. Conditions: none. -/
import Derived.Test.YtpdiljdklllmjaaGreatLkLaw
import Derived.Test.YtpdiljdklllmjaaGreatNoBuildW

namespace Go.Proofs.YtpdiljdklllmjaaGreat.looks
open Go Go.Ev Go.Proofs Go.Proofs.YtpdiljdklllmjaaGreat.tree Go.Proofs.YtpdiljdklllmjaaGreat.ar Go.Proofs.YtpdiljdklllmjaaGreat.tabs

/-- A plan's Index, as a value. -/
def ixV (v : Value) : Value := .func (.func 16) #[.agg (toArr [v])] #[]
theorem rep_bare {m : Mem} {k s0 s1 s2 s3 lo hi : Int} {neg : Bool} {A : Option Addr} {n c : Nat} {r : Re} (h : RepRe m (reC k s0 s1 s2 s3 (.slice A n c) lo hi neg) r) : r = .mk k s0 s1 s2 s3 r.parts lo hi neg := by
  obtain ⟨k', t0, t1, t2, t3, rs, lo', hi', neg'⟩ := r
  obtain ⟨A', n', c', e, hs, hr⟩ := h.open
  injection e with e0 e; injection e with e1 e; injection e with e2 e; injection e with e3 e; injection e with e4 e; injection e with e5 e; injection e with e6 e; injection e with e7 e; injection e with e8 e
  cases e0; cases e1; cases e2; cases e3; cases e4; cases e5; cases e6; cases e7; cases e8
  rfl
theorem looked_ix (m0 : Mem) (v : Value) (ls : List Re) (hs : Sl m0 9 (RepRe m0) v ls) (r : Re) : Lkd (lkR ls) (ixV v) m0 r := by
  intro m ab bb ns L e k s0 s1 s2 s3 lo hi neg A n c hm0 hr hA hO
  have hsm : Sl m 9 (RepRe m) v ls := hs.le hm0 fun _ _ _ h => h.le hm0
  have hrb := bare_rep hr
  have hre := rep_bare hr
  have hbe : bareR r = .mk k s0 s1 s2 s3 r.parts lo hi false := by rw [hre]; rfl
  have hix := Index_fn m v ls (bareR r) _ hsm hrb
  rw [show idxR (fun x => likeR x (bareR r)) ls = lkR ls (bareR r) from rfl, hbe] at hix
  generalize lkR ls (.mk k s0 s1 s2 s3 r.parts lo hi false) = q at hix ⊢
  obtain ⟨V, hV⟩ : ∃ V, V = ixV v := ⟨_, rfl⟩
  have hVf : V = .func (.func 16) #[.agg (toArr [v])] #[] := hV
  rw [← hV]
  refine Fn.enter (N := 42) hX Tryz.func59 rfl rfl (by show _ ≤ _; simp) (fun w0 hL => ?_)
  conv => whnf
  generalize keys ((bb, boO ab V e) :: L) = S0 at hL ⊢
  refine NewReq.mk hL ?_
  clear hL
  intro b3 w hL
  conv => whnf
  replace hL : Ev.Loc m S0 w0 m ((b3, .cells (toArr (reC k s0 s1 s2 s3 (.slice A n c) lo hi neg)) 27 (0, 0)) :: (bb, boO ab V e) :: L) w := hL
  subst hVf
  conv => whnf
  repeat ((first | refine UGenReq.nilFuncNe rfl rfl rfl Tryz.underlying32 false (.inr ⟨⟨_, _, _, rfl⟩, rfl⟩) ?_ | refine zT ?_ | refine zF ?_ | refine zL hX hL ?_ | refine zB hX hL ?_ | (refine zS hX hL ?_; clear hL; intro w hL) | refine zI ?_ | refine zG hX ?_ | refine zO ?_); conv => whnf)
  refine DrawReq.plan hX (.fst 0 (.fst 1 (.fst 2 (.fst 3 (.fst 4 (.alt 5 (.fst 6 (.done)) (.stop))))))) [(b3, .cells (toArr (reC k s0 s1 s2 s3 (.slice A n c) lo hi false)) 27 (0, 0)), (bb, boO ab (.func (.func 16) #[.agg (toArr [v])] #[]) e)] (by kernel_rfl) (by kernel_rfl) hL (fun h => h.sublist (.cons_cons _ (.cons_cons _ (List.nil_sublist _)))) ?_
  clear hL
  intro w hL
  conv => whnf
  repeat ((first | refine zQ hX ?_ | refine zR hX ?_ | refine zA ?_ | refine zT ?_ | refine zF ?_ | refine zL hX hL ?_ | refine zB hX hL ?_ | (refine zS hX hL ?_; clear hL; intro w hL) | refine zI ?_ | refine zG hX ?_ | refine zO ?_); conv => whnf)
  refine CallReq.val hix hL ?_
  clear hL
  intro w hL
  refine SReq.mk (hL.sublist (.cons_cons _ (.cons_cons _ (List.nil_sublist _)))) ?_
  conv => whnf
  repeat ((first | refine zQ hX ?_ | refine zR hX ?_ | refine zA ?_ | refine zT ?_ | refine zF ?_ | refine zL hX hL ?_ | refine zB hX hL ?_ | (refine zS hX hL ?_; clear hL; intro w hL) | refine zI ?_ | refine zG hX ?_ | refine zO ?_); conv => whnf)
  unfold lookedN
  by_cases hq : q < 0
  · rw [if_pos (.inl hq)]
    conv => whnf
    repeat ((first | refine BrReq.yes hq ?_ | refine zQ hX ?_ | refine zR hX ?_ | refine zA ?_ | refine zT ?_ | refine zF ?_ | refine zL hX hL ?_ | refine zB hX hL ?_ | (refine zS hX hL ?_; clear hL; intro w hL) | refine zI ?_ | refine zG hX ?_ | refine zO ?_); conv => whnf)
    refine CallReq.mk (L1 := L) (L2 := [_, _]) (None_fn m ab ns L hA hO) (Loc.back (L1 := [_, _]) hL) ?_
    clear hL
    rintro u mx L2 w hL - ⟨hmx, rfl, hA2⟩
    rw [hmx] at hL
    clear hmx mx
    have hL := Loc.back (L1 := L2) (L2 := [_, _]) hL
    conv => whnf
    repeat ((first | refine zT ?_ | refine zF ?_ | refine zL hX hL ?_ | refine zB hX hL ?_ | (refine zS hX hL ?_; clear hL; intro w hL) | refine zI ?_ | refine zG hX ?_ | refine zO ?_); conv => whnf)
    exact RetReq.mk hL.drop ⟨rfl, L2, rfl, hA2⟩
  by_cases hq4 : 4 ≤ q
  · rw [if_pos (.inr hq4)]
    conv => whnf
    repeat ((first | refine BrReq.no hq ?_ | refine BrReq.yes (show 4 ≤ q from hq4) ?_ | refine zQ hX ?_ | refine zR hX ?_ | refine zA ?_ | refine zT ?_ | refine zF ?_ | refine zL hX hL ?_ | refine zB hX hL ?_ | (refine zS hX hL ?_; clear hL; intro w hL) | refine zI ?_ | refine zG hX ?_ | refine zO ?_); conv => whnf)
    refine CallReq.mk (L1 := L) (L2 := [_, _]) (None_fn m ab ns L hA hO) (Loc.back (L1 := [_, _]) hL) ?_
    clear hL
    rintro u mx L2 w hL - ⟨hmx, rfl, hA2⟩
    rw [hmx] at hL
    clear hmx mx
    have hL := Loc.back (L1 := L2) (L2 := [_, _]) hL
    conv => whnf
    repeat ((first | refine zT ?_ | refine zF ?_ | refine zL hX hL ?_ | refine zB hX hL ?_ | (refine zS hX hL ?_; clear hL; intro w hL) | refine zI ?_ | refine zG hX ?_ | refine zO ?_); conv => whnf)
    exact RetReq.mk hL.drop ⟨rfl, L2, rfl, hA2⟩
  · rw [if_neg (by omega)]
    conv => whnf
    repeat ((first | refine BrReq.no hq ?_ | refine BrReq.no (show ¬ 4 ≤ q from hq4) ?_ | refine zQ hX ?_ | refine zR hX ?_ | refine zA ?_ | refine zT ?_ | refine zF ?_ | refine zL hX hL ?_ | refine zB hX hL ?_ | (refine zS hX hL ?_; clear hL; intro w hL) | refine zI ?_ | refine zG hX ?_ | refine zO ?_); conv => whnf)
    refine CallReq.mk (L1 := L) (L2 := [_, _]) (Look_fn m ab ns L hA hO q (by unfold i64; omega) neg) (Loc.back (L1 := [_, _]) hL) ?_
    clear hL
    rintro u mx L2 w hL - ⟨hmx, rfl, hA2⟩
    rw [hmx] at hL
    clear hmx mx
    have hL := Loc.back (L1 := L2) (L2 := [_, _]) hL
    conv => whnf
    repeat ((first | refine zT ?_ | refine zF ?_ | refine zL hX hL ?_ | refine zB hX hL ?_ | (refine zS hX hL ?_; clear hL; intro w hL) | refine zI ?_ | refine zG hX ?_ | refine zO ?_); conv => whnf)
    exact RetReq.mk hL.drop ⟨rfl, L2, rfl, hA2⟩

/-- A plan's Build. -/
theorem PlanBuild_fn (m : Mem) (v : Value) (ls : List Re) (hs : Sl m 9 (RepRe m) v ls) (r : Re) (cs : List Value) (hrep : RepRe m cs r) (ab : Nat) (ns : List Nd) (L : Ev.Own) (hA : Ar ab ns L) (hO : OkA ns) :
    Ev.Fn Tryz.prog 10 [.agg (toArr [v]), .pointer (some ⟨ab, 0, none⟩), .agg (toArr cs)] m L fun _ L' u => u = .tuple (toArr [.int .i64 (buildN (lkR ls) ns r).2.1, .int .i64 (buildN (lkR ls) ns r).2.2]) ∧ Ar ab (buildN (lkR ls) ns r).1 L' := by
  have hbf := Build_fn (lkR ls) (ixV v) (.inr ⟨_, _, _, rfl⟩) m r (fun q _ => looked_ix m v ls hs q) cs hrep ab ns L hA hO
  obtain ⟨k, s0, s1, s2, s3, A, n, c, lo, hi, neg, rfl⟩ := hrep.form
  obtain ⟨A1, n1, c1, rfl, -⟩ := id hs
  refine Fn.enter (N := 15) hX Tryz.func10 rfl rfl (by show _ ≤ _; simp) (fun w0 hL => ?_)
  conv => whnf
  generalize keys L = S0 at hL ⊢
  refine NewReq.mk hL ?_
  clear hL
  intro b3 w hL
  conv => whnf
  refine NewReq.mk hL ?_
  clear hL
  intro b5 w hL
  conv => whnf
  replace hL : Ev.Loc m S0 w0 m ((b5, .cells (toArr (reC k s0 s1 s2 s3 (.slice A n c) lo hi neg)) 27 (0, 0)) :: (b3, .cells (toArr [.slice A1 n1 c1]) 34 (0, 0)) :: L) w := hL
  conv => whnf
  repeat ((first | refine zT ?_ | refine zF ?_ | refine zL hX hL ?_ | refine zB hX hL ?_ | (refine zS hX hL ?_; clear hL; intro w hL) | refine zI ?_ | refine zG hX ?_ | refine zO ?_); conv => whnf)
  refine CallReq.mk (L1 := L) (L2 := [_, _]) hbf (Loc.back (L1 := [_, _]) hL) ?_
  clear hL
  rintro u m2 L2 w hL hm2 ⟨rfl, hA2⟩
  have hL := Loc.back (L1 := L2) (L2 := [_, _]) hL
  conv => whnf
  repeat ((first | refine zT ?_ | refine zF ?_ | refine zL hX hL ?_ | refine zB hX hL ?_ | (refine zS hX hL ?_; clear hL; intro w hL) | refine zI ?_ | refine zG hX ?_ | refine zO ?_); conv => whnf)
  exact RetReq.mk hL.drop.drop ⟨rfl, hA2⟩

theorem shl_bit (k : Nat) (h : k < 4) : IntKind.wrap .u8 (1 * 2 ^ (min ((k : Int)).toNat (IntKind.bits .u8))) = ((2 ^ k : Nat) : Int) := by
  have : k = 0 ∨ k = 1 ∨ k = 2 ∨ k = 3 := by omega
  rcases this with rfl | rfl | rfl | rfl <;> decide
set_option maxHeartbeats 1000000 in
/-- Bits: which looks are true at each place. -/
theorem Bits_fn (m : Mem) (v wv : Value) (ls : List Re) (ws : List Int) (hs : Sl m 9 (RepRe m) v ls) (hsm : ∀ x ∈ ls, Small x) (hall : ∀ x ∈ ls, allR x = true) (hw : SlI m .u8 wv ws) (hwb : ∀ z ∈ ws, 0 ≤ z ∧ z ≤ 255) (hwl : ws.length ≤ 100) (h4 : ls.length ≤ 4) :
    Fn0 Tryz.prog 14 [v, wv] m fun m' u => SlI m' .u8 u (bitsR ls ws ls.length) := by
  obtain ⟨A, n, c, rfl, hn, hc, hm, -⟩ := id hs
  obtain ⟨W, wn, wc, rfl, hwn, -, hwm, -⟩ := id hw
  have hmx : maxLen = 9223372036854775807 := rfl
  have hwn' : wn = ws.length := hwn
  refine Fn.enter (N := 50) hX Tryz.func14 rfl rfl (by show _ ≤ _; simp) (fun w0 hL => ?_)
  conv => whnf
  conv => whnf
  repeat ((first | refine zT ?_ | refine zF ?_ | refine zL hX hL ?_ | refine zB hX hL ?_ | (refine zS hX hL ?_; clear hL; intro w hL) | refine zI ?_ | refine zG hX ?_ | refine zO ?_); conv => whnf)
  refine RunReq.make hX rfl rfl rfl rfl (wn + 1) (wn + 1) rfl rfl (Nat.le_refl _) (by omega) rfl hL ?_
  clear hL
  intro g w hL
  have hzz : zerosL (wn + 1) [Value.int .u8 0] = ints .u8 (bitsR ls ws 0) := by
    have e : bitsR ls ws 0 = List.replicate (wn + 1) 0 := by
      unfold bitsR
      rw [List.eq_replicate_iff]
      exact ⟨by simp [hwn'], fun b hb => by obtain ⟨i, -, rfl⟩ := List.mem_map.1 hb; rfl⟩
    rw [e, zeros_rows]
    unfold ints
    rw [List.map_replicate]
    generalize wn + 1 = q
    induction q with
    | zero => rfl
    | succ q ih => rw [List.replicate_succ, List.flatten_cons, ih, List.replicate_succ]; rfl
  replace hL : Ev.Loc m [] w0 m [(g, .cells (toArr (ints .u8 (bitsR ls ws 0))) 5 (0, 0))] w := by rw [← hzz]; exact hL
  conv => whnf
  repeat ((first | refine zT ?_ | refine zF ?_ | refine zL hX hL ?_ | refine zB hX hL ?_ | (refine zS hX hL ?_; clear hL; intro w hL) | refine zI ?_ | refine zG hX ?_ | refine zO ?_); conv => whnf)
  refine LoopReq.inv hX (fun j : Nat => [(15, .int .i64 j)]) [0, 1, 5, 14]
    (fun j w => j ≤ n ∧ ∃ m1, Mem.Le m m1 ∧ Ev.Loc m [] w0 m1 [(g, .cells (toArr (ints .u8 (bitsR ls ws j))) 5 (0, 0))] w) (fun j => n - j) 0
    ⟨by omega, m, Mem.Le.refl m, hL⟩ ⟨rfl, trivial⟩ ?_
  clear hL
  rintro j w f ⟨hj, m1, hm1, hL⟩
  conv => whnf
  repeat ((first | refine zT ?_ | refine zF ?_ | refine zL hX hL ?_ | refine zB hX hL ?_ | (refine zS hX hL ?_; clear hL; intro w hL) | refine zI ?_ | refine zG hX ?_ | refine zO ?_); conv => whnf)
  refine BrReq.dec (fun hlt => ?_) (fun hlt => ?_)
  · have hlt' : j < ls.length := by omega
    have hs1 : Sl m1 9 (RepRe m1) (.slice A n c) ls := hs.le hm1 fun _ _ _ h => h.le hm1
    have hw1 : SlI m1 .u8 (.slice W wn wc) ws := hw.le hm1 (fun _ _ _ h => h)
    obtain ⟨a, cs', rfl, hl9, hcells, hrep⟩ := hs1.elem j _ (List.getElem?_eq_getElem hlt')
    have hsp := Go.Proofs.YtpdiljdklllmjaaGreat.tabs.Spans_fn ls[j] m1 _ _ ws hrep (hsm _ (List.getElem_mem hlt')) (hall _ (List.getElem_mem hlt')) hw1 hwb hwl
    have hat : ∀ i, atN ls ws i j = spansR ws ls[j] i i := fun i => by unfold atN; rw [List.getElem?_eq_getElem hlt']
    generalize ls[j] = x at hrep hsp hat
    conv => whnf
    repeat ((first | refine Idx2Req.mk j a rfl (by omega) rfl ?_ | refine LdReq.agg hX rfl rfl hL hl9 hcells ?_ | refine zT ?_ | refine zF ?_ | refine zL hX hL ?_ | refine zB hX hL ?_ | (refine zS hX hL ?_; clear hL; intro w hL) | refine zI ?_ | refine zG hX ?_ | refine zO ?_); conv => whnf)
    refine CallReq.pure hsp hL ?_
    clear hL
    rintro u m2 w hL hm2 hR
    obtain ⟨A6, c6, rfl, hc6, hm6, hra⟩ := hR
    conv => whnf
    repeat ((first | refine zT ?_ | refine zF ?_ | refine zL hX hL ?_ | refine zB hX hL ?_ | (refine zS hX hL ?_; clear hL; intro w hL) | refine zI ?_ | refine zG hX ?_ | refine zO ?_); conv => whnf)
    refine LoopReq.inv hX (fun i : Nat => [(26, .int .i64 i)]) [0, 1, 5, 6, 7, 14, 15, 25]
      (fun i w => i ≤ wn + 1 ∧ Ev.Loc m [] w0 m2 [(g, .cells (toArr (ints .u8 (mixB ls ws j i))) 5 (0, 0))] w) (fun i => wn + 1 - i) 0
      ⟨by omega, by rw [mix_zero]; exact hL⟩ ⟨rfl, trivial⟩ ?_
    clear hL
    rintro i w f ⟨hi, hL⟩
    conv => whnf
    repeat ((first | refine zT ?_ | refine zF ?_ | refine zL hX hL ?_ | refine zB hX hL ?_ | (refine zS hX hL ?_; clear hL; intro w hL) | refine zI ?_ | refine zG hX ?_ | refine zO ?_); conv => whnf)
    refine BrReq.dec (fun hlt2 => ?_) (fun hlt2 => ?_)
    · have hi' : i < ws.length + 1 := by omega
      obtain ⟨a1, rfl, A7, c7, h1, h2⟩ := hra i hi'
      obtain ⟨a2, rfl, h3⟩ := h2 i hi'
      have hai := hat i
      have hgt := mix_get (ls := ls) (ws := ws) (j := j) hi'
      have hrg := bitN_rng (atN ls ws i) j (by omega)
      have hp4 : (2 ^ j : Nat) ≤ 8 := by have := Nat.pow_le_pow_right (n := 2) (by omega) (show j ≤ 3 by omega); omega
      conv => whnf
      repeat ((first | refine Idx2Req.mk i a1 rfl (by omega) rfl ?_ | refine LdReq.one hX rfl rfl hL h1 ?_ | refine Idx2Req.mk i a2 rfl (by omega) rfl ?_ | refine LdReq.one hX rfl rfl hL h3 ?_ | refine zT ?_ | refine zF ?_ | refine zL hX hL ?_ | refine zB hX hL ?_ | (refine zS hX hL ?_; clear hL; intro w hL) | refine zI ?_ | refine zG hX ?_ | refine zO ?_); conv => whnf)
      refine BrReq.bool (fun hb => ?_) (fun hb => ?_)
      · have hne : bitN (atN ls ws i) (j + 1) = bitN (atN ls ws i) j + ((2 ^ j : Nat) : Int) := by
          simp only [bitN]; rw [hai, hb]; rfl
        conv => whnf
        repeat ((first | refine Idx2Req.mk i ⟨g, 0, none⟩ rfl (by omega) rfl ?_ | (refine LdReq.ownAt hX rfl rfl 0 hL rfl (v := .int .u8 (bitN (atN ls ws i) j)) (by rw [scale_eq, Nat.zero_add, Nat.mul_one]; simp [ints, hgt]) ?_) | refine ArReq.u64 (by omega) (by omega) ?_ | refine ShlReq.mk (n := ((2 ^ j : Nat) : Int)) (by omega) (shl_bit j (by omega)) ?_ | refine ArReq.u8 (by omega) (by omega) ?_ | refine zT ?_ | refine zF ?_ | refine zL hX hL ?_ | refine zB hX hL ?_ | (refine zS hX hL ?_; clear hL; intro w hL) | refine zI ?_ | refine zG hX ?_ | refine zO ?_); conv => whnf)
        refine StReq.ownAt hX rfl 0 hL rfl rfl (by simp only [Value.cells, ints, List.length_map, mix_len, scale_eq]; simp; omega) rfl ?_
        clear hL
        intro w hL
        have e1 : spliceL (ints .u8 (mixB ls ws j i)) (0 + scale i 1) (Value.int .u8 (bitN (atN ls ws i) j + ((2 ^ j : Nat) : Int))).cells.toList = ints .u8 (mixB ls ws j (i + 1)) := by
          show (ints .u8 (mixB ls ws j i)).set (0 + scale i 1) (.int .u8 (bitN (atN ls ws i) j + ((2 ^ j : Nat) : Int))) = _
          rw [scale_eq, Nat.zero_add, Nat.mul_one, mix_next hi', hne]; unfold ints; rw [List.map_set]
        replace hL : Ev.Loc m [] w0 m2 [(g, .cells (toArr (spliceL (ints .u8 (mixB ls ws j i)) (0 + scale i 1) (Value.int .u8 (bitN (atN ls ws i) j + ((2 ^ j : Nat) : Int))).cells.toList)) 5 (0, 0))] w := hL
        rw [e1] at hL
        conv => whnf
        repeat ((first | refine zT ?_ | refine zF ?_ | refine zL hX hL ?_ | refine zB hX hL ?_ | (refine zS hX hL ?_; clear hL; intro w hL) | refine zI ?_ | refine zG hX ?_ | refine zO ?_); conv => whnf)
        refine ⟨i + 1, ⟨by omega, hL⟩, by first | omega | (simp only; omega), ?_, ?_⟩
        · repeat (first | exact trivial | (refine And.intro (by (conv => lhs; whnf) <;> (conv => rhs; whnf) <;> (first | rfl)) ?_))
        · repeat (first | exact trivial | (refine And.intro (by (conv => lhs; whnf) <;> (conv => rhs; whnf) <;> (first | rfl)) ?_))
      · have hmx := mix_same (ls := ls) (ws := ws) (j := j) hi' (by rw [hai]; exact hb)
        conv => whnf
        repeat ((first | refine zT ?_ | refine zF ?_ | refine zL hX hL ?_ | refine zB hX hL ?_ | (refine zS hX hL ?_; clear hL; intro w hL) | refine zI ?_ | refine zG hX ?_ | refine zO ?_); conv => whnf)
        refine ⟨i + 1, ⟨by omega, by rw [hmx]; exact hL⟩, by first | omega | (simp only; omega), ?_, ?_⟩
        · repeat (first | exact trivial | (refine And.intro (by (conv => lhs; whnf) <;> (conv => rhs; whnf) <;> (first | rfl)) ?_))
        · repeat (first | exact trivial | (refine And.intro (by (conv => lhs; whnf) <;> (conv => rhs; whnf) <;> (first | rfl)) ?_))
    · have hie : i = ws.length + 1 := by omega
      subst hie
      rw [mix_end] at hL
      conv => whnf
      repeat ((first | refine zT ?_ | refine zF ?_ | refine zL hX hL ?_ | refine zB hX hL ?_ | (refine zS hX hL ?_; clear hL; intro w hL) | refine zI ?_ | refine zG hX ?_ | refine zO ?_); conv => whnf)
      refine ⟨j + 1, ⟨by omega, m2, hm1.trans hm2, hL⟩, by first | omega | (simp only; omega), ?_, ?_⟩
      · repeat (first | exact trivial | (refine And.intro (by (conv => lhs; whnf) <;> (conv => rhs; whnf) <;> (first | rfl)) ?_))
      · repeat (first | exact trivial | (refine And.intro (by (conv => lhs; whnf) <;> (conv => rhs; whnf) <;> (first | rfl)) ?_))
  · have hje : j = ls.length := by omega
    subst hje
    conv => whnf
    repeat ((first | refine zT ?_ | refine zF ?_ | refine zL hX hL ?_ | refine zB hX hL ?_ | (refine zS hX hL ?_; clear hL; intro w hL) | refine zI ?_ | refine zG hX ?_ | refine zO ?_); conv => whnf)
    obtain ⟨m2, hL1, hm2, hbs⟩ := OwnS.freeze (te := 5) (k := .u8) (l := bitsR ls ws ls.length) (OwnS.full (n := wn + 1) (by omega) (by simp [ints, bitsR_len, hwn'])) (by rw [List.append_nil]; exact hL)
    exact RetReq.mk hL1 ⟨rfl, hbs⟩

end Go.Proofs.YtpdiljdklllmjaaGreat.looks
