/- A clone is the same pattern in other memory. Conditions: none. -/
import Derived.Test.YtmgfcckboncecaaTreeAlike
import Derived.Test.YtmgfcckboncecaaEvM
import Derived.Test.YtmgfcckboncecaaRows
import Derived.ProofKit
import Derived.SizedLaws

namespace Go.Proofs.Ytmgfcckboncecaa.treeClones
open Go Go.Ev Go.Proofs Go.Proofs.Ytmgfcckboncecaa.tree

theorem Clone_fn (m : Mem) (r : Re) (cs : List Value) (h : RepRe m cs r) (hs : Small r) : Ev.Fn Try.prog 9 [.agg (toArr cs)] m [] fun m' L' u =>
    (40 < deepR 40 r ∧ L' = [] ∧ u = .agg (toArr (reC 0 0 0 0 0 (.slice none 0 0) 0 0 false))) ∨ (deepR 40 r ≤ 40 ∧ OwnRe m' L' u r) := by
  obtain ⟨k1, u0, u1, u2, u3, A1, n1, c1, lo1, hi1, neg1, rfl⟩ := h.form
  refine Fn.enter (N := 9) hX Try.func9 rfl rfl (by show _ ≤ _; simp) (fun w0 hL => ?_)
  conv => whnf
  refine NewReq.mk hL ?_
  clear hL
  intro b1 w hL
  conv => whnf
  refine NewReq.mk hL ?_
  clear hL
  intro b2 w hL
  conv => whnf
  conv => whnf
  repeat (first
    | (refine BrReq.tt ?_; conv => whnf)
    | (refine BrReq.ff ?_; conv => whnf)
    | (refine LdReq.own1 hX rfl rfl 0 hL rfl rfl ?_; conv => whnf)
    | (refine LdReq.own1 hX rfl rfl 1 hL rfl rfl ?_; conv => whnf)
    | (refine LdReq.own1 hX rfl rfl 2 hL rfl rfl ?_; conv => whnf)
    | (refine LdReq.own1 hX rfl rfl 3 hL rfl rfl ?_; conv => whnf)
    | (refine LdReq.own1 hX rfl rfl 4 hL rfl rfl ?_; conv => whnf)
    | (refine LdReq.own1 hX rfl rfl 5 hL rfl rfl ?_; conv => whnf)
    | (refine LdReq.own1 hX rfl rfl 6 hL rfl rfl ?_; conv => whnf)
    | (refine LdReq.ownA hX rfl rfl 0 hL rfl rfl ?_; conv => whnf)
    | (refine LdReq.ownA hX rfl rfl 1 hL rfl rfl ?_; conv => whnf)
    | (refine LdReq.ownA hX rfl rfl 2 hL rfl rfl ?_; conv => whnf)
    | (refine LdReq.ownA hX rfl rfl 3 hL rfl rfl ?_; conv => whnf)
    | (refine LdReq.ownA hX rfl rfl 4 hL rfl rfl ?_; conv => whnf)
    | (refine LdReq.ownA hX rfl rfl 5 hL rfl rfl ?_; conv => whnf)
    | (refine LdReq.ownA hX rfl rfl 6 hL rfl rfl ?_; conv => whnf)
    | (refine StReq.own hX rfl 0 hL rfl rfl rfl rfl ?_; clear hL; intro w hL; conv => whnf)
    | (refine StReq.own hX rfl 1 hL rfl rfl rfl rfl ?_; clear hL; intro w hL; conv => whnf)
    | (refine StReq.own hX rfl 2 hL rfl rfl rfl rfl ?_; clear hL; intro w hL; conv => whnf)
    | (refine StReq.own hX rfl 3 hL rfl rfl rfl rfl ?_; clear hL; intro w hL; conv => whnf)
    | (refine StReq.own hX rfl 4 hL rfl rfl rfl rfl ?_; clear hL; intro w hL; conv => whnf)
    | (refine StReq.own hX rfl 5 hL rfl rfl rfl rfl ?_; clear hL; intro w hL; conv => whnf)
    | (refine StReq.own hX rfl 6 hL rfl rfl rfl rfl ?_; clear hL; intro w hL; conv => whnf)
    | (refine ArReq.i64 (by omega) (by omega) ?_; conv => whnf)
    | (refine SeqReq.go hX ?_; conv => whnf)
    | (refine OptReq.mk rfl ?_; conv => whnf))
  refine CallReq.val (Deep_fn m r _ h) hL ?_
  clear hL
  intro w hL
  conv => whnf
  repeat (first
    | (refine BrReq.tt ?_; conv => whnf)
    | (refine BrReq.ff ?_; conv => whnf)
    | (refine LdReq.own1 hX rfl rfl 0 hL rfl rfl ?_; conv => whnf)
    | (refine LdReq.own1 hX rfl rfl 1 hL rfl rfl ?_; conv => whnf)
    | (refine LdReq.own1 hX rfl rfl 2 hL rfl rfl ?_; conv => whnf)
    | (refine LdReq.own1 hX rfl rfl 3 hL rfl rfl ?_; conv => whnf)
    | (refine LdReq.own1 hX rfl rfl 4 hL rfl rfl ?_; conv => whnf)
    | (refine LdReq.own1 hX rfl rfl 5 hL rfl rfl ?_; conv => whnf)
    | (refine LdReq.own1 hX rfl rfl 6 hL rfl rfl ?_; conv => whnf)
    | (refine LdReq.ownA hX rfl rfl 0 hL rfl rfl ?_; conv => whnf)
    | (refine LdReq.ownA hX rfl rfl 1 hL rfl rfl ?_; conv => whnf)
    | (refine LdReq.ownA hX rfl rfl 2 hL rfl rfl ?_; conv => whnf)
    | (refine LdReq.ownA hX rfl rfl 3 hL rfl rfl ?_; conv => whnf)
    | (refine LdReq.ownA hX rfl rfl 4 hL rfl rfl ?_; conv => whnf)
    | (refine LdReq.ownA hX rfl rfl 5 hL rfl rfl ?_; conv => whnf)
    | (refine LdReq.ownA hX rfl rfl 6 hL rfl rfl ?_; conv => whnf)
    | (refine StReq.own hX rfl 0 hL rfl rfl rfl rfl ?_; clear hL; intro w hL; conv => whnf)
    | (refine StReq.own hX rfl 1 hL rfl rfl rfl rfl ?_; clear hL; intro w hL; conv => whnf)
    | (refine StReq.own hX rfl 2 hL rfl rfl rfl rfl ?_; clear hL; intro w hL; conv => whnf)
    | (refine StReq.own hX rfl 3 hL rfl rfl rfl rfl ?_; clear hL; intro w hL; conv => whnf)
    | (refine StReq.own hX rfl 4 hL rfl rfl rfl rfl ?_; clear hL; intro w hL; conv => whnf)
    | (refine StReq.own hX rfl 5 hL rfl rfl rfl rfl ?_; clear hL; intro w hL; conv => whnf)
    | (refine StReq.own hX rfl 6 hL rfl rfl rfl rfl ?_; clear hL; intro w hL; conv => whnf)
    | (refine ArReq.i64 (by omega) (by omega) ?_; conv => whnf)
    | (refine SeqReq.go hX ?_; conv => whnf)
    | (refine OptReq.mk rfl ?_; conv => whnf))
  refine BrReq.dec (fun d1 => ?_) (fun d1 => ?_)
  · conv => whnf
    repeat (first
      | (refine BrReq.tt ?_; conv => whnf)
      | (refine BrReq.ff ?_; conv => whnf)
      | (refine LdReq.own1 hX rfl rfl 0 hL rfl rfl ?_; conv => whnf)
      | (refine LdReq.own1 hX rfl rfl 1 hL rfl rfl ?_; conv => whnf)
      | (refine LdReq.own1 hX rfl rfl 2 hL rfl rfl ?_; conv => whnf)
      | (refine LdReq.own1 hX rfl rfl 3 hL rfl rfl ?_; conv => whnf)
      | (refine LdReq.own1 hX rfl rfl 4 hL rfl rfl ?_; conv => whnf)
      | (refine LdReq.own1 hX rfl rfl 5 hL rfl rfl ?_; conv => whnf)
      | (refine LdReq.own1 hX rfl rfl 6 hL rfl rfl ?_; conv => whnf)
      | (refine LdReq.ownA hX rfl rfl 0 hL rfl rfl ?_; conv => whnf)
      | (refine LdReq.ownA hX rfl rfl 1 hL rfl rfl ?_; conv => whnf)
      | (refine LdReq.ownA hX rfl rfl 2 hL rfl rfl ?_; conv => whnf)
      | (refine LdReq.ownA hX rfl rfl 3 hL rfl rfl ?_; conv => whnf)
      | (refine LdReq.ownA hX rfl rfl 4 hL rfl rfl ?_; conv => whnf)
      | (refine LdReq.ownA hX rfl rfl 5 hL rfl rfl ?_; conv => whnf)
      | (refine LdReq.ownA hX rfl rfl 6 hL rfl rfl ?_; conv => whnf)
      | (refine StReq.own hX rfl 0 hL rfl rfl rfl rfl ?_; clear hL; intro w hL; conv => whnf)
      | (refine StReq.own hX rfl 1 hL rfl rfl rfl rfl ?_; clear hL; intro w hL; conv => whnf)
      | (refine StReq.own hX rfl 2 hL rfl rfl rfl rfl ?_; clear hL; intro w hL; conv => whnf)
      | (refine StReq.own hX rfl 3 hL rfl rfl rfl rfl ?_; clear hL; intro w hL; conv => whnf)
      | (refine StReq.own hX rfl 4 hL rfl rfl rfl rfl ?_; clear hL; intro w hL; conv => whnf)
      | (refine StReq.own hX rfl 5 hL rfl rfl rfl rfl ?_; clear hL; intro w hL; conv => whnf)
      | (refine StReq.own hX rfl 6 hL rfl rfl rfl rfl ?_; clear hL; intro w hL; conv => whnf)
      | (refine ArReq.i64 (by omega) (by omega) ?_; conv => whnf)
      | (refine SeqReq.go hX ?_; conv => whnf)
      | (refine OptReq.mk rfl ?_; conv => whnf))
    exact RetReq.mk (hL.drop.drop) (.inl ⟨by omega, rfl, rfl⟩)
  · conv => whnf
    repeat (first
      | (refine BrReq.tt ?_; conv => whnf)
      | (refine BrReq.ff ?_; conv => whnf)
      | (refine LdReq.own1 hX rfl rfl 0 hL rfl rfl ?_; conv => whnf)
      | (refine LdReq.own1 hX rfl rfl 1 hL rfl rfl ?_; conv => whnf)
      | (refine LdReq.own1 hX rfl rfl 2 hL rfl rfl ?_; conv => whnf)
      | (refine LdReq.own1 hX rfl rfl 3 hL rfl rfl ?_; conv => whnf)
      | (refine LdReq.own1 hX rfl rfl 4 hL rfl rfl ?_; conv => whnf)
      | (refine LdReq.own1 hX rfl rfl 5 hL rfl rfl ?_; conv => whnf)
      | (refine LdReq.own1 hX rfl rfl 6 hL rfl rfl ?_; conv => whnf)
      | (refine LdReq.ownA hX rfl rfl 0 hL rfl rfl ?_; conv => whnf)
      | (refine LdReq.ownA hX rfl rfl 1 hL rfl rfl ?_; conv => whnf)
      | (refine LdReq.ownA hX rfl rfl 2 hL rfl rfl ?_; conv => whnf)
      | (refine LdReq.ownA hX rfl rfl 3 hL rfl rfl ?_; conv => whnf)
      | (refine LdReq.ownA hX rfl rfl 4 hL rfl rfl ?_; conv => whnf)
      | (refine LdReq.ownA hX rfl rfl 5 hL rfl rfl ?_; conv => whnf)
      | (refine LdReq.ownA hX rfl rfl 6 hL rfl rfl ?_; conv => whnf)
      | (refine StReq.own hX rfl 0 hL rfl rfl rfl rfl ?_; clear hL; intro w hL; conv => whnf)
      | (refine StReq.own hX rfl 1 hL rfl rfl rfl rfl ?_; clear hL; intro w hL; conv => whnf)
      | (refine StReq.own hX rfl 2 hL rfl rfl rfl rfl ?_; clear hL; intro w hL; conv => whnf)
      | (refine StReq.own hX rfl 3 hL rfl rfl rfl rfl ?_; clear hL; intro w hL; conv => whnf)
      | (refine StReq.own hX rfl 4 hL rfl rfl rfl rfl ?_; clear hL; intro w hL; conv => whnf)
      | (refine StReq.own hX rfl 5 hL rfl rfl rfl rfl ?_; clear hL; intro w hL; conv => whnf)
      | (refine StReq.own hX rfl 6 hL rfl rfl rfl rfl ?_; clear hL; intro w hL; conv => whnf)
      | (refine ArReq.i64 (by omega) (by omega) ?_; conv => whnf)
      | (refine SeqReq.go hX ?_; conv => whnf)
      | (refine OptReq.mk rfl ?_; conv => whnf))
    refine CallReq.mk (L1 := []) (clone_fn m r _ h hs) hL ?_
    clear hL
    intro v m2 L1 w hL hm2 ho
    obtain ⟨kd, s0, s1, s2, s3, rs, lo, hi, neg⟩ := r
    have ho' := ho
    obtain ⟨g, blk, rfl, rfl, q1, q2, q3, q4, q5⟩ := ho
    conv => whnf
    repeat (first
      | (refine BrReq.tt ?_; conv => whnf)
      | (refine BrReq.ff ?_; conv => whnf)
      | (refine LdReq.own1 hX rfl rfl 0 hL rfl rfl ?_; conv => whnf)
      | (refine LdReq.own1 hX rfl rfl 1 hL rfl rfl ?_; conv => whnf)
      | (refine LdReq.own1 hX rfl rfl 2 hL rfl rfl ?_; conv => whnf)
      | (refine LdReq.own1 hX rfl rfl 3 hL rfl rfl ?_; conv => whnf)
      | (refine LdReq.own1 hX rfl rfl 4 hL rfl rfl ?_; conv => whnf)
      | (refine LdReq.own1 hX rfl rfl 5 hL rfl rfl ?_; conv => whnf)
      | (refine LdReq.own1 hX rfl rfl 6 hL rfl rfl ?_; conv => whnf)
      | (refine LdReq.ownA hX rfl rfl 0 hL rfl rfl ?_; conv => whnf)
      | (refine LdReq.ownA hX rfl rfl 1 hL rfl rfl ?_; conv => whnf)
      | (refine LdReq.ownA hX rfl rfl 2 hL rfl rfl ?_; conv => whnf)
      | (refine LdReq.ownA hX rfl rfl 3 hL rfl rfl ?_; conv => whnf)
      | (refine LdReq.ownA hX rfl rfl 4 hL rfl rfl ?_; conv => whnf)
      | (refine LdReq.ownA hX rfl rfl 5 hL rfl rfl ?_; conv => whnf)
      | (refine LdReq.ownA hX rfl rfl 6 hL rfl rfl ?_; conv => whnf)
      | (refine StReq.own hX rfl 0 hL rfl rfl rfl rfl ?_; clear hL; intro w hL; conv => whnf)
      | (refine StReq.own hX rfl 1 hL rfl rfl rfl rfl ?_; clear hL; intro w hL; conv => whnf)
      | (refine StReq.own hX rfl 2 hL rfl rfl rfl rfl ?_; clear hL; intro w hL; conv => whnf)
      | (refine StReq.own hX rfl 3 hL rfl rfl rfl rfl ?_; clear hL; intro w hL; conv => whnf)
      | (refine StReq.own hX rfl 4 hL rfl rfl rfl rfl ?_; clear hL; intro w hL; conv => whnf)
      | (refine StReq.own hX rfl 5 hL rfl rfl rfl rfl ?_; clear hL; intro w hL; conv => whnf)
      | (refine StReq.own hX rfl 6 hL rfl rfl rfl rfl ?_; clear hL; intro w hL; conv => whnf)
      | (refine ArReq.i64 (by omega) (by omega) ?_; conv => whnf)
      | (refine SeqReq.go hX ?_; conv => whnf)
      | (refine OptReq.mk rfl ?_; conv => whnf))
    exact RetReq.mk (hL.one 0 rfl) (.inr ⟨by omega, ho'⟩)

/-- The next kind. -/
def bump : Re → Re
  | .mk k s0 s1 s2 s3 rs lo hi neg => .mk (IntKind.wrap .i64 (k + 1)) s0 s1 s2 s3 rs lo hi neg
theorem wrap_inI (z : Int) : inI (IntKind.wrap .i64 z) := by
  simp only [inI, IntKind.wrap, IntKind.signed, IntKind.bits]; simp; omega
theorem wrap_ne (z : Int) : IntKind.wrap .i64 (z + 1) ≠ z := by
  simp only [IntKind.wrap, IntKind.signed, IntKind.bits]; simp; omega

theorem bump_rep {m : Mem} {cs : List Value} {x : Re} (h : RepRe m cs x) : RepRe m (cs.set 0 (.int .i64 (IntKind.wrap .i64 (x.kind + 1)))) (bump x) := by
  cases h with
  | mk k s0 s1 s2 s3 lo hi neg A n c rs css hk h0 h1 h2 h3 hlo hhi hn hc hmx hcell hrep =>
    exact .mk _ s0 s1 s2 s3 lo hi neg A n c rs css (wrap_inI _) h0 h1 h2 h3 hlo hhi hn hc hmx hcell hrep

theorem RepRe.kind0 {m : Mem} {cs : List Value} {x : Re} (h : RepRe m cs x) : cs[0]? = some (.int .i64 x.kind) := by cases h; rfl

theorem bump_ne {k : Nat} {kd s0 s1 s2 s3 lo hi : Int} {neg : Bool} {rs : List Re} (h : rs ≠ []) : sameR (k + 2) (.mk kd s0 s1 s2 s3 (rs.map bump) lo hi neg) (.mk kd s0 s1 s2 s3 rs lo hi neg) = false := by
  cases rs with
  | nil => exact absurd rfl h
  | cons p rs =>
    obtain ⟨k', t0, t1, t2, t3, rs', lo', hi', neg'⟩ := p
    have : sameR (k + 1) (bump (.mk k' t0 t1 t2 t3 rs' lo' hi' neg')) (.mk k' t0 t1 t2 t3 rs' lo' hi' neg') = false := by
      simp only [sameR, bump, headEq]
      rw [decide_eq_false (fun h => wrap_ne _ h.1), Bool.false_and]
    simp only [sameR, Re.parts, List.map_cons, List.zipWith_cons_cons, List.all_cons, id_eq] at this ⊢
    rw [this, Bool.false_and, Bool.and_false]

set_option maxHeartbeats 2000000 in
theorem walk (m : Mem) (r : Re) (cs : List Value) (h : RepRe m cs r) : Fn0 Try.prog 3 [.agg (toArr cs)] m fun _ u => u = .bool true := by
  obtain ⟨kd, s0, s1, s2, s3, rs, lo, hi, neg⟩ := r
  obtain ⟨A, n, c, rfl, hs, hrng⟩ := h.open
  obtain ⟨hn, hc, hm⟩ := hs.lens
  have hmx : maxLen = 9223372036854775807 := rfl
  refine Fn.enter (N := 64) hX Try.func3 rfl rfl (by show _ ≤ _; simp) (fun w0 hL => ?_)
  conv => whnf
  refine NewReq.mk hL ?_
  clear hL
  intro b1 w hL
  conv => whnf
  conv => whnf
  repeat (first
    | (refine BrReq.tt ?_; conv => whnf)
    | (refine BrReq.ff ?_; conv => whnf)
    | (refine LdReq.own1 hX rfl rfl 0 hL rfl rfl ?_; conv => whnf)
    | (refine LdReq.own1 hX rfl rfl 1 hL rfl rfl ?_; conv => whnf)
    | (refine LdReq.own1 hX rfl rfl 2 hL rfl rfl ?_; conv => whnf)
    | (refine LdReq.own1 hX rfl rfl 3 hL rfl rfl ?_; conv => whnf)
    | (refine LdReq.own1 hX rfl rfl 4 hL rfl rfl ?_; conv => whnf)
    | (refine LdReq.own1 hX rfl rfl 5 hL rfl rfl ?_; conv => whnf)
    | (refine LdReq.own1 hX rfl rfl 6 hL rfl rfl ?_; conv => whnf)
    | (refine LdReq.ownA hX rfl rfl 0 hL rfl rfl ?_; conv => whnf)
    | (refine LdReq.ownA hX rfl rfl 1 hL rfl rfl ?_; conv => whnf)
    | (refine LdReq.ownA hX rfl rfl 2 hL rfl rfl ?_; conv => whnf)
    | (refine LdReq.ownA hX rfl rfl 3 hL rfl rfl ?_; conv => whnf)
    | (refine LdReq.ownA hX rfl rfl 4 hL rfl rfl ?_; conv => whnf)
    | (refine LdReq.ownA hX rfl rfl 5 hL rfl rfl ?_; conv => whnf)
    | (refine LdReq.ownA hX rfl rfl 6 hL rfl rfl ?_; conv => whnf)
    | (refine StReq.own hX rfl 0 hL rfl rfl rfl rfl ?_; clear hL; intro w hL; conv => whnf)
    | (refine StReq.own hX rfl 1 hL rfl rfl rfl rfl ?_; clear hL; intro w hL; conv => whnf)
    | (refine StReq.own hX rfl 2 hL rfl rfl rfl rfl ?_; clear hL; intro w hL; conv => whnf)
    | (refine StReq.own hX rfl 3 hL rfl rfl rfl rfl ?_; clear hL; intro w hL; conv => whnf)
    | (refine StReq.own hX rfl 4 hL rfl rfl rfl rfl ?_; clear hL; intro w hL; conv => whnf)
    | (refine StReq.own hX rfl 5 hL rfl rfl rfl rfl ?_; clear hL; intro w hL; conv => whnf)
    | (refine StReq.own hX rfl 6 hL rfl rfl rfl rfl ?_; clear hL; intro w hL; conv => whnf)
    | (refine ArReq.i64 (by omega) (by omega) ?_; conv => whnf)
    | (refine SeqReq.go hX ?_; conv => whnf)
    | (refine OptReq.mk rfl ?_; conv => whnf))
  refine CallReq.val (awake_fn m) hL ?_
  clear hL
  intro w hL
  conv => whnf
  repeat (first
    | (refine BrReq.tt ?_; conv => whnf)
    | (refine BrReq.ff ?_; conv => whnf)
    | (refine LdReq.own1 hX rfl rfl 0 hL rfl rfl ?_; conv => whnf)
    | (refine LdReq.own1 hX rfl rfl 1 hL rfl rfl ?_; conv => whnf)
    | (refine LdReq.own1 hX rfl rfl 2 hL rfl rfl ?_; conv => whnf)
    | (refine LdReq.own1 hX rfl rfl 3 hL rfl rfl ?_; conv => whnf)
    | (refine LdReq.own1 hX rfl rfl 4 hL rfl rfl ?_; conv => whnf)
    | (refine LdReq.own1 hX rfl rfl 5 hL rfl rfl ?_; conv => whnf)
    | (refine LdReq.own1 hX rfl rfl 6 hL rfl rfl ?_; conv => whnf)
    | (refine LdReq.ownA hX rfl rfl 0 hL rfl rfl ?_; conv => whnf)
    | (refine LdReq.ownA hX rfl rfl 1 hL rfl rfl ?_; conv => whnf)
    | (refine LdReq.ownA hX rfl rfl 2 hL rfl rfl ?_; conv => whnf)
    | (refine LdReq.ownA hX rfl rfl 3 hL rfl rfl ?_; conv => whnf)
    | (refine LdReq.ownA hX rfl rfl 4 hL rfl rfl ?_; conv => whnf)
    | (refine LdReq.ownA hX rfl rfl 5 hL rfl rfl ?_; conv => whnf)
    | (refine LdReq.ownA hX rfl rfl 6 hL rfl rfl ?_; conv => whnf)
    | (refine StReq.own hX rfl 0 hL rfl rfl rfl rfl ?_; clear hL; intro w hL; conv => whnf)
    | (refine StReq.own hX rfl 1 hL rfl rfl rfl rfl ?_; clear hL; intro w hL; conv => whnf)
    | (refine StReq.own hX rfl 2 hL rfl rfl rfl rfl ?_; clear hL; intro w hL; conv => whnf)
    | (refine StReq.own hX rfl 3 hL rfl rfl rfl rfl ?_; clear hL; intro w hL; conv => whnf)
    | (refine StReq.own hX rfl 4 hL rfl rfl rfl rfl ?_; clear hL; intro w hL; conv => whnf)
    | (refine StReq.own hX rfl 5 hL rfl rfl rfl rfl ?_; clear hL; intro w hL; conv => whnf)
    | (refine StReq.own hX rfl 6 hL rfl rfl rfl rfl ?_; clear hL; intro w hL; conv => whnf)
    | (refine ArReq.i64 (by omega) (by omega) ?_; conv => whnf)
    | (refine SeqReq.go hX ?_; conv => whnf)
    | (refine OptReq.mk rfl ?_; conv => whnf))
  refine CallReq.val (Few_fn m _ _ h 60 (by omega)) hL ?_
  clear hL
  intro w hL
  conv => whnf
  repeat (first
    | (refine BrReq.tt ?_; conv => whnf)
    | (refine BrReq.ff ?_; conv => whnf)
    | (refine LdReq.own1 hX rfl rfl 0 hL rfl rfl ?_; conv => whnf)
    | (refine LdReq.own1 hX rfl rfl 1 hL rfl rfl ?_; conv => whnf)
    | (refine LdReq.own1 hX rfl rfl 2 hL rfl rfl ?_; conv => whnf)
    | (refine LdReq.own1 hX rfl rfl 3 hL rfl rfl ?_; conv => whnf)
    | (refine LdReq.own1 hX rfl rfl 4 hL rfl rfl ?_; conv => whnf)
    | (refine LdReq.own1 hX rfl rfl 5 hL rfl rfl ?_; conv => whnf)
    | (refine LdReq.own1 hX rfl rfl 6 hL rfl rfl ?_; conv => whnf)
    | (refine LdReq.ownA hX rfl rfl 0 hL rfl rfl ?_; conv => whnf)
    | (refine LdReq.ownA hX rfl rfl 1 hL rfl rfl ?_; conv => whnf)
    | (refine LdReq.ownA hX rfl rfl 2 hL rfl rfl ?_; conv => whnf)
    | (refine LdReq.ownA hX rfl rfl 3 hL rfl rfl ?_; conv => whnf)
    | (refine LdReq.ownA hX rfl rfl 4 hL rfl rfl ?_; conv => whnf)
    | (refine LdReq.ownA hX rfl rfl 5 hL rfl rfl ?_; conv => whnf)
    | (refine LdReq.ownA hX rfl rfl 6 hL rfl rfl ?_; conv => whnf)
    | (refine StReq.own hX rfl 0 hL rfl rfl rfl rfl ?_; clear hL; intro w hL; conv => whnf)
    | (refine StReq.own hX rfl 1 hL rfl rfl rfl rfl ?_; clear hL; intro w hL; conv => whnf)
    | (refine StReq.own hX rfl 2 hL rfl rfl rfl rfl ?_; clear hL; intro w hL; conv => whnf)
    | (refine StReq.own hX rfl 3 hL rfl rfl rfl rfl ?_; clear hL; intro w hL; conv => whnf)
    | (refine StReq.own hX rfl 4 hL rfl rfl rfl rfl ?_; clear hL; intro w hL; conv => whnf)
    | (refine StReq.own hX rfl 5 hL rfl rfl rfl rfl ?_; clear hL; intro w hL; conv => whnf)
    | (refine StReq.own hX rfl 6 hL rfl rfl rfl rfl ?_; clear hL; intro w hL; conv => whnf)
    | (refine ArReq.i64 (by omega) (by omega) ?_; conv => whnf)
    | (refine SeqReq.go hX ?_; conv => whnf)
    | (refine OptReq.mk rfl ?_; conv => whnf))
  refine BrReq.not ?_
  refine BrReq.dec (fun f1 => ?_) (fun f1 => ?_)
  rotate_left
  · conv => whnf
    repeat (first
      | (refine BrReq.tt ?_; conv => whnf)
      | (refine BrReq.ff ?_; conv => whnf)
      | (refine LdReq.own1 hX rfl rfl 0 hL rfl rfl ?_; conv => whnf)
      | (refine LdReq.own1 hX rfl rfl 1 hL rfl rfl ?_; conv => whnf)
      | (refine LdReq.own1 hX rfl rfl 2 hL rfl rfl ?_; conv => whnf)
      | (refine LdReq.own1 hX rfl rfl 3 hL rfl rfl ?_; conv => whnf)
      | (refine LdReq.own1 hX rfl rfl 4 hL rfl rfl ?_; conv => whnf)
      | (refine LdReq.own1 hX rfl rfl 5 hL rfl rfl ?_; conv => whnf)
      | (refine LdReq.own1 hX rfl rfl 6 hL rfl rfl ?_; conv => whnf)
      | (refine LdReq.ownA hX rfl rfl 0 hL rfl rfl ?_; conv => whnf)
      | (refine LdReq.ownA hX rfl rfl 1 hL rfl rfl ?_; conv => whnf)
      | (refine LdReq.ownA hX rfl rfl 2 hL rfl rfl ?_; conv => whnf)
      | (refine LdReq.ownA hX rfl rfl 3 hL rfl rfl ?_; conv => whnf)
      | (refine LdReq.ownA hX rfl rfl 4 hL rfl rfl ?_; conv => whnf)
      | (refine LdReq.ownA hX rfl rfl 5 hL rfl rfl ?_; conv => whnf)
      | (refine LdReq.ownA hX rfl rfl 6 hL rfl rfl ?_; conv => whnf)
      | (refine StReq.own hX rfl 0 hL rfl rfl rfl rfl ?_; clear hL; intro w hL; conv => whnf)
      | (refine StReq.own hX rfl 1 hL rfl rfl rfl rfl ?_; clear hL; intro w hL; conv => whnf)
      | (refine StReq.own hX rfl 2 hL rfl rfl rfl rfl ?_; clear hL; intro w hL; conv => whnf)
      | (refine StReq.own hX rfl 3 hL rfl rfl rfl rfl ?_; clear hL; intro w hL; conv => whnf)
      | (refine StReq.own hX rfl 4 hL rfl rfl rfl rfl ?_; clear hL; intro w hL; conv => whnf)
      | (refine StReq.own hX rfl 5 hL rfl rfl rfl rfl ?_; clear hL; intro w hL; conv => whnf)
      | (refine StReq.own hX rfl 6 hL rfl rfl rfl rfl ?_; clear hL; intro w hL; conv => whnf)
      | (refine ArReq.i64 (by omega) (by omega) ?_; conv => whnf)
      | (refine SeqReq.go hX ?_; conv => whnf)
      | (refine OptReq.mk rfl ?_; conv => whnf))
    refine CallReq.val (awake_fn m) hL ?_
    clear hL
    intro w hL
    conv => whnf
    repeat (first
      | (refine BrReq.tt ?_; conv => whnf)
      | (refine BrReq.ff ?_; conv => whnf)
      | (refine LdReq.own1 hX rfl rfl 0 hL rfl rfl ?_; conv => whnf)
      | (refine LdReq.own1 hX rfl rfl 1 hL rfl rfl ?_; conv => whnf)
      | (refine LdReq.own1 hX rfl rfl 2 hL rfl rfl ?_; conv => whnf)
      | (refine LdReq.own1 hX rfl rfl 3 hL rfl rfl ?_; conv => whnf)
      | (refine LdReq.own1 hX rfl rfl 4 hL rfl rfl ?_; conv => whnf)
      | (refine LdReq.own1 hX rfl rfl 5 hL rfl rfl ?_; conv => whnf)
      | (refine LdReq.own1 hX rfl rfl 6 hL rfl rfl ?_; conv => whnf)
      | (refine LdReq.ownA hX rfl rfl 0 hL rfl rfl ?_; conv => whnf)
      | (refine LdReq.ownA hX rfl rfl 1 hL rfl rfl ?_; conv => whnf)
      | (refine LdReq.ownA hX rfl rfl 2 hL rfl rfl ?_; conv => whnf)
      | (refine LdReq.ownA hX rfl rfl 3 hL rfl rfl ?_; conv => whnf)
      | (refine LdReq.ownA hX rfl rfl 4 hL rfl rfl ?_; conv => whnf)
      | (refine LdReq.ownA hX rfl rfl 5 hL rfl rfl ?_; conv => whnf)
      | (refine LdReq.ownA hX rfl rfl 6 hL rfl rfl ?_; conv => whnf)
      | (refine StReq.own hX rfl 0 hL rfl rfl rfl rfl ?_; clear hL; intro w hL; conv => whnf)
      | (refine StReq.own hX rfl 1 hL rfl rfl rfl rfl ?_; clear hL; intro w hL; conv => whnf)
      | (refine StReq.own hX rfl 2 hL rfl rfl rfl rfl ?_; clear hL; intro w hL; conv => whnf)
      | (refine StReq.own hX rfl 3 hL rfl rfl rfl rfl ?_; clear hL; intro w hL; conv => whnf)
      | (refine StReq.own hX rfl 4 hL rfl rfl rfl rfl ?_; clear hL; intro w hL; conv => whnf)
      | (refine StReq.own hX rfl 5 hL rfl rfl rfl rfl ?_; clear hL; intro w hL; conv => whnf)
      | (refine StReq.own hX rfl 6 hL rfl rfl rfl rfl ?_; clear hL; intro w hL; conv => whnf)
      | (refine ArReq.i64 (by omega) (by omega) ?_; conv => whnf)
      | (refine SeqReq.go hX ?_; conv => whnf)
      | (refine OptReq.mk rfl ?_; conv => whnf))
    exact RetReq.mk hL.drop ⟨rfl, rfl⟩
  have hsm := small_of _ _ f1
  conv => whnf
  repeat (first
    | (refine BrReq.tt ?_; conv => whnf)
    | (refine BrReq.ff ?_; conv => whnf)
    | (refine LdReq.own1 hX rfl rfl 0 hL rfl rfl ?_; conv => whnf)
    | (refine LdReq.own1 hX rfl rfl 1 hL rfl rfl ?_; conv => whnf)
    | (refine LdReq.own1 hX rfl rfl 2 hL rfl rfl ?_; conv => whnf)
    | (refine LdReq.own1 hX rfl rfl 3 hL rfl rfl ?_; conv => whnf)
    | (refine LdReq.own1 hX rfl rfl 4 hL rfl rfl ?_; conv => whnf)
    | (refine LdReq.own1 hX rfl rfl 5 hL rfl rfl ?_; conv => whnf)
    | (refine LdReq.own1 hX rfl rfl 6 hL rfl rfl ?_; conv => whnf)
    | (refine LdReq.ownA hX rfl rfl 0 hL rfl rfl ?_; conv => whnf)
    | (refine LdReq.ownA hX rfl rfl 1 hL rfl rfl ?_; conv => whnf)
    | (refine LdReq.ownA hX rfl rfl 2 hL rfl rfl ?_; conv => whnf)
    | (refine LdReq.ownA hX rfl rfl 3 hL rfl rfl ?_; conv => whnf)
    | (refine LdReq.ownA hX rfl rfl 4 hL rfl rfl ?_; conv => whnf)
    | (refine LdReq.ownA hX rfl rfl 5 hL rfl rfl ?_; conv => whnf)
    | (refine LdReq.ownA hX rfl rfl 6 hL rfl rfl ?_; conv => whnf)
    | (refine StReq.own hX rfl 0 hL rfl rfl rfl rfl ?_; clear hL; intro w hL; conv => whnf)
    | (refine StReq.own hX rfl 1 hL rfl rfl rfl rfl ?_; clear hL; intro w hL; conv => whnf)
    | (refine StReq.own hX rfl 2 hL rfl rfl rfl rfl ?_; clear hL; intro w hL; conv => whnf)
    | (refine StReq.own hX rfl 3 hL rfl rfl rfl rfl ?_; clear hL; intro w hL; conv => whnf)
    | (refine StReq.own hX rfl 4 hL rfl rfl rfl rfl ?_; clear hL; intro w hL; conv => whnf)
    | (refine StReq.own hX rfl 5 hL rfl rfl rfl rfl ?_; clear hL; intro w hL; conv => whnf)
    | (refine StReq.own hX rfl 6 hL rfl rfl rfl rfl ?_; clear hL; intro w hL; conv => whnf)
    | (refine ArReq.i64 (by omega) (by omega) ?_; conv => whnf)
    | (refine SeqReq.go hX ?_; conv => whnf)
    | (refine OptReq.mk rfl ?_; conv => whnf))
  refine CallReq.mk (L1 := []) (Clone_fn m _ _ h hsm) hL ?_
  clear hL
  rintro v m1 L1 w hL hm1 (⟨d1, rfl, rfl⟩ | ⟨d1, ho⟩)
  · conv => whnf
    repeat (first
      | (refine BrReq.tt ?_; conv => whnf)
      | (refine BrReq.ff ?_; conv => whnf)
      | (refine LdReq.own1 hX rfl rfl 0 hL rfl rfl ?_; conv => whnf)
      | (refine LdReq.own1 hX rfl rfl 1 hL rfl rfl ?_; conv => whnf)
      | (refine LdReq.own1 hX rfl rfl 2 hL rfl rfl ?_; conv => whnf)
      | (refine LdReq.own1 hX rfl rfl 3 hL rfl rfl ?_; conv => whnf)
      | (refine LdReq.own1 hX rfl rfl 4 hL rfl rfl ?_; conv => whnf)
      | (refine LdReq.own1 hX rfl rfl 5 hL rfl rfl ?_; conv => whnf)
      | (refine LdReq.own1 hX rfl rfl 6 hL rfl rfl ?_; conv => whnf)
      | (refine LdReq.ownA hX rfl rfl 0 hL rfl rfl ?_; conv => whnf)
      | (refine LdReq.ownA hX rfl rfl 1 hL rfl rfl ?_; conv => whnf)
      | (refine LdReq.ownA hX rfl rfl 2 hL rfl rfl ?_; conv => whnf)
      | (refine LdReq.ownA hX rfl rfl 3 hL rfl rfl ?_; conv => whnf)
      | (refine LdReq.ownA hX rfl rfl 4 hL rfl rfl ?_; conv => whnf)
      | (refine LdReq.ownA hX rfl rfl 5 hL rfl rfl ?_; conv => whnf)
      | (refine LdReq.ownA hX rfl rfl 6 hL rfl rfl ?_; conv => whnf)
      | (refine StReq.own hX rfl 0 hL rfl rfl rfl rfl ?_; clear hL; intro w hL; conv => whnf)
      | (refine StReq.own hX rfl 1 hL rfl rfl rfl rfl ?_; clear hL; intro w hL; conv => whnf)
      | (refine StReq.own hX rfl 2 hL rfl rfl rfl rfl ?_; clear hL; intro w hL; conv => whnf)
      | (refine StReq.own hX rfl 3 hL rfl rfl rfl rfl ?_; clear hL; intro w hL; conv => whnf)
      | (refine StReq.own hX rfl 4 hL rfl rfl rfl rfl ?_; clear hL; intro w hL; conv => whnf)
      | (refine StReq.own hX rfl 5 hL rfl rfl rfl rfl ?_; clear hL; intro w hL; conv => whnf)
      | (refine StReq.own hX rfl 6 hL rfl rfl rfl rfl ?_; clear hL; intro w hL; conv => whnf)
      | (refine ArReq.i64 (by omega) (by omega) ?_; conv => whnf)
      | (refine SeqReq.go hX ?_; conv => whnf)
      | (refine OptReq.mk rfl ?_; conv => whnf))
    refine NewReq.mk hL ?_
    clear hL
    intro b3 w hL
    conv => whnf
    conv => whnf
    repeat (first
      | (refine BrReq.tt ?_; conv => whnf)
      | (refine BrReq.ff ?_; conv => whnf)
      | (refine LdReq.own1 hX rfl rfl 0 hL rfl rfl ?_; conv => whnf)
      | (refine LdReq.own1 hX rfl rfl 1 hL rfl rfl ?_; conv => whnf)
      | (refine LdReq.own1 hX rfl rfl 2 hL rfl rfl ?_; conv => whnf)
      | (refine LdReq.own1 hX rfl rfl 3 hL rfl rfl ?_; conv => whnf)
      | (refine LdReq.own1 hX rfl rfl 4 hL rfl rfl ?_; conv => whnf)
      | (refine LdReq.own1 hX rfl rfl 5 hL rfl rfl ?_; conv => whnf)
      | (refine LdReq.own1 hX rfl rfl 6 hL rfl rfl ?_; conv => whnf)
      | (refine LdReq.ownA hX rfl rfl 0 hL rfl rfl ?_; conv => whnf)
      | (refine LdReq.ownA hX rfl rfl 1 hL rfl rfl ?_; conv => whnf)
      | (refine LdReq.ownA hX rfl rfl 2 hL rfl rfl ?_; conv => whnf)
      | (refine LdReq.ownA hX rfl rfl 3 hL rfl rfl ?_; conv => whnf)
      | (refine LdReq.ownA hX rfl rfl 4 hL rfl rfl ?_; conv => whnf)
      | (refine LdReq.ownA hX rfl rfl 5 hL rfl rfl ?_; conv => whnf)
      | (refine LdReq.ownA hX rfl rfl 6 hL rfl rfl ?_; conv => whnf)
      | (refine StReq.own hX rfl 0 hL rfl rfl rfl rfl ?_; clear hL; intro w hL; conv => whnf)
      | (refine StReq.own hX rfl 1 hL rfl rfl rfl rfl ?_; clear hL; intro w hL; conv => whnf)
      | (refine StReq.own hX rfl 2 hL rfl rfl rfl rfl ?_; clear hL; intro w hL; conv => whnf)
      | (refine StReq.own hX rfl 3 hL rfl rfl rfl rfl ?_; clear hL; intro w hL; conv => whnf)
      | (refine StReq.own hX rfl 4 hL rfl rfl rfl rfl ?_; clear hL; intro w hL; conv => whnf)
      | (refine StReq.own hX rfl 5 hL rfl rfl rfl rfl ?_; clear hL; intro w hL; conv => whnf)
      | (refine StReq.own hX rfl 6 hL rfl rfl rfl rfl ?_; clear hL; intro w hL; conv => whnf)
      | (refine ArReq.i64 (by omega) (by omega) ?_; conv => whnf)
      | (refine SeqReq.go hX ?_; conv => whnf)
      | (refine OptReq.mk rfl ?_; conv => whnf))
    refine CallReq.val (refDeep_fn 40 m1 _ _ (h.le hm1) (by omega)) hL ?_
    clear hL
    intro w hL
    conv => whnf
    repeat (first
      | (refine BrReq.tt ?_; conv => whnf)
      | (refine BrReq.ff ?_; conv => whnf)
      | (refine LdReq.own1 hX rfl rfl 0 hL rfl rfl ?_; conv => whnf)
      | (refine LdReq.own1 hX rfl rfl 1 hL rfl rfl ?_; conv => whnf)
      | (refine LdReq.own1 hX rfl rfl 2 hL rfl rfl ?_; conv => whnf)
      | (refine LdReq.own1 hX rfl rfl 3 hL rfl rfl ?_; conv => whnf)
      | (refine LdReq.own1 hX rfl rfl 4 hL rfl rfl ?_; conv => whnf)
      | (refine LdReq.own1 hX rfl rfl 5 hL rfl rfl ?_; conv => whnf)
      | (refine LdReq.own1 hX rfl rfl 6 hL rfl rfl ?_; conv => whnf)
      | (refine LdReq.ownA hX rfl rfl 0 hL rfl rfl ?_; conv => whnf)
      | (refine LdReq.ownA hX rfl rfl 1 hL rfl rfl ?_; conv => whnf)
      | (refine LdReq.ownA hX rfl rfl 2 hL rfl rfl ?_; conv => whnf)
      | (refine LdReq.ownA hX rfl rfl 3 hL rfl rfl ?_; conv => whnf)
      | (refine LdReq.ownA hX rfl rfl 4 hL rfl rfl ?_; conv => whnf)
      | (refine LdReq.ownA hX rfl rfl 5 hL rfl rfl ?_; conv => whnf)
      | (refine LdReq.ownA hX rfl rfl 6 hL rfl rfl ?_; conv => whnf)
      | (refine StReq.own hX rfl 0 hL rfl rfl rfl rfl ?_; clear hL; intro w hL; conv => whnf)
      | (refine StReq.own hX rfl 1 hL rfl rfl rfl rfl ?_; clear hL; intro w hL; conv => whnf)
      | (refine StReq.own hX rfl 2 hL rfl rfl rfl rfl ?_; clear hL; intro w hL; conv => whnf)
      | (refine StReq.own hX rfl 3 hL rfl rfl rfl rfl ?_; clear hL; intro w hL; conv => whnf)
      | (refine StReq.own hX rfl 4 hL rfl rfl rfl rfl ?_; clear hL; intro w hL; conv => whnf)
      | (refine StReq.own hX rfl 5 hL rfl rfl rfl rfl ?_; clear hL; intro w hL; conv => whnf)
      | (refine StReq.own hX rfl 6 hL rfl rfl rfl rfl ?_; clear hL; intro w hL; conv => whnf)
      | (refine ArReq.i64 (by omega) (by omega) ?_; conv => whnf)
      | (refine SeqReq.go hX ?_; conv => whnf)
      | (refine OptReq.mk rfl ?_; conv => whnf))
    refine BrReq.dec (fun d2 => ?_) (fun d2 => absurd d1 (by omega))
    conv => whnf
    repeat (first
      | (refine BrReq.tt ?_; conv => whnf)
      | (refine BrReq.ff ?_; conv => whnf)
      | (refine LdReq.own1 hX rfl rfl 0 hL rfl rfl ?_; conv => whnf)
      | (refine LdReq.own1 hX rfl rfl 1 hL rfl rfl ?_; conv => whnf)
      | (refine LdReq.own1 hX rfl rfl 2 hL rfl rfl ?_; conv => whnf)
      | (refine LdReq.own1 hX rfl rfl 3 hL rfl rfl ?_; conv => whnf)
      | (refine LdReq.own1 hX rfl rfl 4 hL rfl rfl ?_; conv => whnf)
      | (refine LdReq.own1 hX rfl rfl 5 hL rfl rfl ?_; conv => whnf)
      | (refine LdReq.own1 hX rfl rfl 6 hL rfl rfl ?_; conv => whnf)
      | (refine LdReq.ownA hX rfl rfl 0 hL rfl rfl ?_; conv => whnf)
      | (refine LdReq.ownA hX rfl rfl 1 hL rfl rfl ?_; conv => whnf)
      | (refine LdReq.ownA hX rfl rfl 2 hL rfl rfl ?_; conv => whnf)
      | (refine LdReq.ownA hX rfl rfl 3 hL rfl rfl ?_; conv => whnf)
      | (refine LdReq.ownA hX rfl rfl 4 hL rfl rfl ?_; conv => whnf)
      | (refine LdReq.ownA hX rfl rfl 5 hL rfl rfl ?_; conv => whnf)
      | (refine LdReq.ownA hX rfl rfl 6 hL rfl rfl ?_; conv => whnf)
      | (refine StReq.own hX rfl 0 hL rfl rfl rfl rfl ?_; clear hL; intro w hL; conv => whnf)
      | (refine StReq.own hX rfl 1 hL rfl rfl rfl rfl ?_; clear hL; intro w hL; conv => whnf)
      | (refine StReq.own hX rfl 2 hL rfl rfl rfl rfl ?_; clear hL; intro w hL; conv => whnf)
      | (refine StReq.own hX rfl 3 hL rfl rfl rfl rfl ?_; clear hL; intro w hL; conv => whnf)
      | (refine StReq.own hX rfl 4 hL rfl rfl rfl rfl ?_; clear hL; intro w hL; conv => whnf)
      | (refine StReq.own hX rfl 5 hL rfl rfl rfl rfl ?_; clear hL; intro w hL; conv => whnf)
      | (refine StReq.own hX rfl 6 hL rfl rfl rfl rfl ?_; clear hL; intro w hL; conv => whnf)
      | (refine ArReq.i64 (by omega) (by omega) ?_; conv => whnf)
      | (refine SeqReq.go hX ?_; conv => whnf)
      | (refine OptReq.mk rfl ?_; conv => whnf))
    exact RetReq.mk hL.drop.drop ⟨rfl, rfl⟩
  · obtain ⟨g, blk, rfl, rfl, q1, q2, q3, q4, q5⟩ := ho
    conv => whnf
    repeat (first
      | (refine BrReq.tt ?_; conv => whnf)
      | (refine BrReq.ff ?_; conv => whnf)
      | (refine LdReq.own1 hX rfl rfl 0 hL rfl rfl ?_; conv => whnf)
      | (refine LdReq.own1 hX rfl rfl 1 hL rfl rfl ?_; conv => whnf)
      | (refine LdReq.own1 hX rfl rfl 2 hL rfl rfl ?_; conv => whnf)
      | (refine LdReq.own1 hX rfl rfl 3 hL rfl rfl ?_; conv => whnf)
      | (refine LdReq.own1 hX rfl rfl 4 hL rfl rfl ?_; conv => whnf)
      | (refine LdReq.own1 hX rfl rfl 5 hL rfl rfl ?_; conv => whnf)
      | (refine LdReq.own1 hX rfl rfl 6 hL rfl rfl ?_; conv => whnf)
      | (refine LdReq.ownA hX rfl rfl 0 hL rfl rfl ?_; conv => whnf)
      | (refine LdReq.ownA hX rfl rfl 1 hL rfl rfl ?_; conv => whnf)
      | (refine LdReq.ownA hX rfl rfl 2 hL rfl rfl ?_; conv => whnf)
      | (refine LdReq.ownA hX rfl rfl 3 hL rfl rfl ?_; conv => whnf)
      | (refine LdReq.ownA hX rfl rfl 4 hL rfl rfl ?_; conv => whnf)
      | (refine LdReq.ownA hX rfl rfl 5 hL rfl rfl ?_; conv => whnf)
      | (refine LdReq.ownA hX rfl rfl 6 hL rfl rfl ?_; conv => whnf)
      | (refine StReq.own hX rfl 0 hL rfl rfl rfl rfl ?_; clear hL; intro w hL; conv => whnf)
      | (refine StReq.own hX rfl 1 hL rfl rfl rfl rfl ?_; clear hL; intro w hL; conv => whnf)
      | (refine StReq.own hX rfl 2 hL rfl rfl rfl rfl ?_; clear hL; intro w hL; conv => whnf)
      | (refine StReq.own hX rfl 3 hL rfl rfl rfl rfl ?_; clear hL; intro w hL; conv => whnf)
      | (refine StReq.own hX rfl 4 hL rfl rfl rfl rfl ?_; clear hL; intro w hL; conv => whnf)
      | (refine StReq.own hX rfl 5 hL rfl rfl rfl rfl ?_; clear hL; intro w hL; conv => whnf)
      | (refine StReq.own hX rfl 6 hL rfl rfl rfl rfl ?_; clear hL; intro w hL; conv => whnf)
      | (refine ArReq.i64 (by omega) (by omega) ?_; conv => whnf)
      | (refine SeqReq.go hX ?_; conv => whnf)
      | (refine OptReq.mk rfl ?_; conv => whnf))
    refine NewReq.mk hL ?_
    clear hL
    intro b3 w hL
    conv => whnf
    conv => whnf
    repeat (first
      | (refine BrReq.tt ?_; conv => whnf)
      | (refine BrReq.ff ?_; conv => whnf)
      | (refine LdReq.own1 hX rfl rfl 0 hL rfl rfl ?_; conv => whnf)
      | (refine LdReq.own1 hX rfl rfl 1 hL rfl rfl ?_; conv => whnf)
      | (refine LdReq.own1 hX rfl rfl 2 hL rfl rfl ?_; conv => whnf)
      | (refine LdReq.own1 hX rfl rfl 3 hL rfl rfl ?_; conv => whnf)
      | (refine LdReq.own1 hX rfl rfl 4 hL rfl rfl ?_; conv => whnf)
      | (refine LdReq.own1 hX rfl rfl 5 hL rfl rfl ?_; conv => whnf)
      | (refine LdReq.own1 hX rfl rfl 6 hL rfl rfl ?_; conv => whnf)
      | (refine LdReq.ownA hX rfl rfl 0 hL rfl rfl ?_; conv => whnf)
      | (refine LdReq.ownA hX rfl rfl 1 hL rfl rfl ?_; conv => whnf)
      | (refine LdReq.ownA hX rfl rfl 2 hL rfl rfl ?_; conv => whnf)
      | (refine LdReq.ownA hX rfl rfl 3 hL rfl rfl ?_; conv => whnf)
      | (refine LdReq.ownA hX rfl rfl 4 hL rfl rfl ?_; conv => whnf)
      | (refine LdReq.ownA hX rfl rfl 5 hL rfl rfl ?_; conv => whnf)
      | (refine LdReq.ownA hX rfl rfl 6 hL rfl rfl ?_; conv => whnf)
      | (refine StReq.own hX rfl 0 hL rfl rfl rfl rfl ?_; clear hL; intro w hL; conv => whnf)
      | (refine StReq.own hX rfl 1 hL rfl rfl rfl rfl ?_; clear hL; intro w hL; conv => whnf)
      | (refine StReq.own hX rfl 2 hL rfl rfl rfl rfl ?_; clear hL; intro w hL; conv => whnf)
      | (refine StReq.own hX rfl 3 hL rfl rfl rfl rfl ?_; clear hL; intro w hL; conv => whnf)
      | (refine StReq.own hX rfl 4 hL rfl rfl rfl rfl ?_; clear hL; intro w hL; conv => whnf)
      | (refine StReq.own hX rfl 5 hL rfl rfl rfl rfl ?_; clear hL; intro w hL; conv => whnf)
      | (refine StReq.own hX rfl 6 hL rfl rfl rfl rfl ?_; clear hL; intro w hL; conv => whnf)
      | (refine ArReq.i64 (by omega) (by omega) ?_; conv => whnf)
      | (refine SeqReq.go hX ?_; conv => whnf)
      | (refine OptReq.mk rfl ?_; conv => whnf))
    refine CallReq.val (refDeep_fn 40 m1 _ _ (h.le hm1) (by omega)) hL ?_
    clear hL
    intro w hL
    conv => whnf
    repeat (first
      | (refine BrReq.tt ?_; conv => whnf)
      | (refine BrReq.ff ?_; conv => whnf)
      | (refine LdReq.own1 hX rfl rfl 0 hL rfl rfl ?_; conv => whnf)
      | (refine LdReq.own1 hX rfl rfl 1 hL rfl rfl ?_; conv => whnf)
      | (refine LdReq.own1 hX rfl rfl 2 hL rfl rfl ?_; conv => whnf)
      | (refine LdReq.own1 hX rfl rfl 3 hL rfl rfl ?_; conv => whnf)
      | (refine LdReq.own1 hX rfl rfl 4 hL rfl rfl ?_; conv => whnf)
      | (refine LdReq.own1 hX rfl rfl 5 hL rfl rfl ?_; conv => whnf)
      | (refine LdReq.own1 hX rfl rfl 6 hL rfl rfl ?_; conv => whnf)
      | (refine LdReq.ownA hX rfl rfl 0 hL rfl rfl ?_; conv => whnf)
      | (refine LdReq.ownA hX rfl rfl 1 hL rfl rfl ?_; conv => whnf)
      | (refine LdReq.ownA hX rfl rfl 2 hL rfl rfl ?_; conv => whnf)
      | (refine LdReq.ownA hX rfl rfl 3 hL rfl rfl ?_; conv => whnf)
      | (refine LdReq.ownA hX rfl rfl 4 hL rfl rfl ?_; conv => whnf)
      | (refine LdReq.ownA hX rfl rfl 5 hL rfl rfl ?_; conv => whnf)
      | (refine LdReq.ownA hX rfl rfl 6 hL rfl rfl ?_; conv => whnf)
      | (refine StReq.own hX rfl 0 hL rfl rfl rfl rfl ?_; clear hL; intro w hL; conv => whnf)
      | (refine StReq.own hX rfl 1 hL rfl rfl rfl rfl ?_; clear hL; intro w hL; conv => whnf)
      | (refine StReq.own hX rfl 2 hL rfl rfl rfl rfl ?_; clear hL; intro w hL; conv => whnf)
      | (refine StReq.own hX rfl 3 hL rfl rfl rfl rfl ?_; clear hL; intro w hL; conv => whnf)
      | (refine StReq.own hX rfl 4 hL rfl rfl rfl rfl ?_; clear hL; intro w hL; conv => whnf)
      | (refine StReq.own hX rfl 5 hL rfl rfl rfl rfl ?_; clear hL; intro w hL; conv => whnf)
      | (refine StReq.own hX rfl 6 hL rfl rfl rfl rfl ?_; clear hL; intro w hL; conv => whnf)
      | (refine ArReq.i64 (by omega) (by omega) ?_; conv => whnf)
      | (refine SeqReq.go hX ?_; conv => whnf)
      | (refine OptReq.mk rfl ?_; conv => whnf))
    refine BrReq.dec (fun d2 => absurd d1 (by omega)) (fun d2 => ?_)
    conv => whnf
    repeat (first
      | (refine BrReq.tt ?_; conv => whnf)
      | (refine BrReq.ff ?_; conv => whnf)
      | (refine LdReq.own1 hX rfl rfl 0 hL rfl rfl ?_; conv => whnf)
      | (refine LdReq.own1 hX rfl rfl 1 hL rfl rfl ?_; conv => whnf)
      | (refine LdReq.own1 hX rfl rfl 2 hL rfl rfl ?_; conv => whnf)
      | (refine LdReq.own1 hX rfl rfl 3 hL rfl rfl ?_; conv => whnf)
      | (refine LdReq.own1 hX rfl rfl 4 hL rfl rfl ?_; conv => whnf)
      | (refine LdReq.own1 hX rfl rfl 5 hL rfl rfl ?_; conv => whnf)
      | (refine LdReq.own1 hX rfl rfl 6 hL rfl rfl ?_; conv => whnf)
      | (refine LdReq.ownA hX rfl rfl 0 hL rfl rfl ?_; conv => whnf)
      | (refine LdReq.ownA hX rfl rfl 1 hL rfl rfl ?_; conv => whnf)
      | (refine LdReq.ownA hX rfl rfl 2 hL rfl rfl ?_; conv => whnf)
      | (refine LdReq.ownA hX rfl rfl 3 hL rfl rfl ?_; conv => whnf)
      | (refine LdReq.ownA hX rfl rfl 4 hL rfl rfl ?_; conv => whnf)
      | (refine LdReq.ownA hX rfl rfl 5 hL rfl rfl ?_; conv => whnf)
      | (refine LdReq.ownA hX rfl rfl 6 hL rfl rfl ?_; conv => whnf)
      | (refine StReq.own hX rfl 0 hL rfl rfl rfl rfl ?_; clear hL; intro w hL; conv => whnf)
      | (refine StReq.own hX rfl 1 hL rfl rfl rfl rfl ?_; clear hL; intro w hL; conv => whnf)
      | (refine StReq.own hX rfl 2 hL rfl rfl rfl rfl ?_; clear hL; intro w hL; conv => whnf)
      | (refine StReq.own hX rfl 3 hL rfl rfl rfl rfl ?_; clear hL; intro w hL; conv => whnf)
      | (refine StReq.own hX rfl 4 hL rfl rfl rfl rfl ?_; clear hL; intro w hL; conv => whnf)
      | (refine StReq.own hX rfl 5 hL rfl rfl rfl rfl ?_; clear hL; intro w hL; conv => whnf)
      | (refine StReq.own hX rfl 6 hL rfl rfl rfl rfl ?_; clear hL; intro w hL; conv => whnf)
      | (refine ArReq.i64 (by omega) (by omega) ?_; conv => whnf)
      | (refine SeqReq.go hX ?_; conv => whnf)
      | (refine OptReq.mk rfl ?_; conv => whnf))
    refine LoopReq.inv hX (fun j : Nat => [(31, .int .i64 j)]) [1, 3, 30]
      (fun j w => j ≤ rs.length ∧ ∃ blk, List.length blk = rs.length ∧ (∀ r ∈ blk, r.length = 9) ∧ (∀ (i : Nat) (x : Re), rs[i]? = some x → ∃ cs, blk[i]? = some cs ∧ RepRe m1 cs (if i < j then bump x else x)) ∧
        Ev.Loc m [] w0 m1 [(b3, .cells (toArr (reC kd s0 s1 s2 s3 (.slice (some ⟨g, 0, none⟩) rs.length rs.length) lo hi neg)) 27 (0, 0)), (g, .cells (toArr (List.flatten blk)) 27 (0, 0)), (b1, .cells (toArr (reC kd s0 s1 s2 s3 (.slice A n c) lo hi neg)) 27 (0, 0))] w) (fun j => rs.length - j) 0
      ⟨by omega, blk, q1, q2, fun i x hx => by obtain ⟨cs, g1, g2⟩ := q4 i x hx; exact ⟨cs, g1, by rw [if_neg (by omega)]; exact g2⟩, hL⟩ ⟨rfl, trivial⟩ ?_
    clear hL q1 q2 q4 blk
    rintro j w f ⟨hj, blk, q1, q2, q4, hL⟩
    conv => whnf
    repeat (first
      | (refine BrReq.tt ?_; conv => whnf)
      | (refine BrReq.ff ?_; conv => whnf)
      | (refine LdReq.own1 hX rfl rfl 0 hL rfl rfl ?_; conv => whnf)
      | (refine LdReq.own1 hX rfl rfl 1 hL rfl rfl ?_; conv => whnf)
      | (refine LdReq.own1 hX rfl rfl 2 hL rfl rfl ?_; conv => whnf)
      | (refine LdReq.own1 hX rfl rfl 3 hL rfl rfl ?_; conv => whnf)
      | (refine LdReq.own1 hX rfl rfl 4 hL rfl rfl ?_; conv => whnf)
      | (refine LdReq.own1 hX rfl rfl 5 hL rfl rfl ?_; conv => whnf)
      | (refine LdReq.own1 hX rfl rfl 6 hL rfl rfl ?_; conv => whnf)
      | (refine LdReq.ownA hX rfl rfl 0 hL rfl rfl ?_; conv => whnf)
      | (refine LdReq.ownA hX rfl rfl 1 hL rfl rfl ?_; conv => whnf)
      | (refine LdReq.ownA hX rfl rfl 2 hL rfl rfl ?_; conv => whnf)
      | (refine LdReq.ownA hX rfl rfl 3 hL rfl rfl ?_; conv => whnf)
      | (refine LdReq.ownA hX rfl rfl 4 hL rfl rfl ?_; conv => whnf)
      | (refine LdReq.ownA hX rfl rfl 5 hL rfl rfl ?_; conv => whnf)
      | (refine LdReq.ownA hX rfl rfl 6 hL rfl rfl ?_; conv => whnf)
      | (refine StReq.own hX rfl 0 hL rfl rfl rfl rfl ?_; clear hL; intro w hL; conv => whnf)
      | (refine StReq.own hX rfl 1 hL rfl rfl rfl rfl ?_; clear hL; intro w hL; conv => whnf)
      | (refine StReq.own hX rfl 2 hL rfl rfl rfl rfl ?_; clear hL; intro w hL; conv => whnf)
      | (refine StReq.own hX rfl 3 hL rfl rfl rfl rfl ?_; clear hL; intro w hL; conv => whnf)
      | (refine StReq.own hX rfl 4 hL rfl rfl rfl rfl ?_; clear hL; intro w hL; conv => whnf)
      | (refine StReq.own hX rfl 5 hL rfl rfl rfl rfl ?_; clear hL; intro w hL; conv => whnf)
      | (refine StReq.own hX rfl 6 hL rfl rfl rfl rfl ?_; clear hL; intro w hL; conv => whnf)
      | (refine ArReq.i64 (by omega) (by omega) ?_; conv => whnf)
      | (refine SeqReq.go hX ?_; conv => whnf)
      | (refine OptReq.mk rfl ?_; conv => whnf))
    refine BrReq.dec (fun hlt => ?_) (fun hlt => ?_)
    · have hlt' : j < rs.length := by omega
      obtain ⟨cs, g1, g2⟩ := q4 j _ (List.getElem?_eq_getElem hlt')
      rw [if_neg (by omega)] at g2
      have g3 := bump_rep g2
      have hcs0 := RepRe.kind0 g2
      conv => whnf
      repeat (first
        | (refine BrReq.tt ?_; conv => whnf)
        | (refine BrReq.ff ?_; conv => whnf)
        | (refine LdReq.own1 hX rfl rfl 0 hL rfl rfl ?_; conv => whnf)
        | (refine LdReq.own1 hX rfl rfl 1 hL rfl rfl ?_; conv => whnf)
        | (refine LdReq.own1 hX rfl rfl 2 hL rfl rfl ?_; conv => whnf)
        | (refine LdReq.own1 hX rfl rfl 3 hL rfl rfl ?_; conv => whnf)
        | (refine LdReq.own1 hX rfl rfl 4 hL rfl rfl ?_; conv => whnf)
        | (refine LdReq.own1 hX rfl rfl 5 hL rfl rfl ?_; conv => whnf)
        | (refine LdReq.own1 hX rfl rfl 6 hL rfl rfl ?_; conv => whnf)
        | (refine LdReq.ownA hX rfl rfl 0 hL rfl rfl ?_; conv => whnf)
        | (refine LdReq.ownA hX rfl rfl 1 hL rfl rfl ?_; conv => whnf)
        | (refine LdReq.ownA hX rfl rfl 2 hL rfl rfl ?_; conv => whnf)
        | (refine LdReq.ownA hX rfl rfl 3 hL rfl rfl ?_; conv => whnf)
        | (refine LdReq.ownA hX rfl rfl 4 hL rfl rfl ?_; conv => whnf)
        | (refine LdReq.ownA hX rfl rfl 5 hL rfl rfl ?_; conv => whnf)
        | (refine LdReq.ownA hX rfl rfl 6 hL rfl rfl ?_; conv => whnf)
        | (refine StReq.own hX rfl 0 hL rfl rfl rfl rfl ?_; clear hL; intro w hL; conv => whnf)
        | (refine StReq.own hX rfl 1 hL rfl rfl rfl rfl ?_; clear hL; intro w hL; conv => whnf)
        | (refine StReq.own hX rfl 2 hL rfl rfl rfl rfl ?_; clear hL; intro w hL; conv => whnf)
        | (refine StReq.own hX rfl 3 hL rfl rfl rfl rfl ?_; clear hL; intro w hL; conv => whnf)
        | (refine StReq.own hX rfl 4 hL rfl rfl rfl rfl ?_; clear hL; intro w hL; conv => whnf)
        | (refine StReq.own hX rfl 5 hL rfl rfl rfl rfl ?_; clear hL; intro w hL; conv => whnf)
        | (refine StReq.own hX rfl 6 hL rfl rfl rfl rfl ?_; clear hL; intro w hL; conv => whnf)
        | (refine ArReq.i64 (by omega) (by omega) ?_; conv => whnf)
        | (refine SeqReq.go hX ?_; conv => whnf)
        | (refine OptReq.mk rfl ?_; conv => whnf))
      refine DrawReq.plan hX (.fst 0 (.fst 1 (.fst 2 (.fst 3 (.fst 4 (.fst 5 (.fst 6 (.fst 7 (.alt 8 (.fst 9 (.fst 10 (.fst 11 (.alt 12 (.done) (.stop))))) (.stop)))))))))) [(b3, .cells (toArr (reC kd s0 s1 s2 s3 (.slice (some ⟨g, 0, none⟩) rs.length rs.length) lo hi neg)) 27 (0, 0))] (by kernel_rfl) (by kernel_rfl) hL (fun h => h.one 0 rfl) ?_
      clear hL
      intro w hL
      conv => whnf
      repeat (first
        | (refine Idx2Req.mk j _ rfl (by omega) rfl ?_; conv => whnf)
        | (refine QLdReq.own1 hX rfl rfl 0 rfl rfl ?_; conv => whnf)
        | (refine QLdReq.own1 hX rfl rfl 1 rfl rfl ?_; conv => whnf)
        | (refine QLdReq.own1 hX rfl rfl 2 rfl rfl ?_; conv => whnf)
        | (refine QLdReq.own1 hX rfl rfl 3 rfl rfl ?_; conv => whnf)
        | (refine QLdReq.ownA hX rfl rfl 0 rfl rfl ?_; conv => whnf)
        | (refine QLdReq.ownA hX rfl rfl 1 rfl rfl ?_; conv => whnf)
        | (refine QLdReq.ownA hX rfl rfl 2 rfl rfl ?_; conv => whnf)
        | (refine QLdReq.ownA hX rfl rfl 3 rfl rfl ?_; conv => whnf)
        | (refine AltReq.one ?_; conv => whnf)
        | (refine BrReq.tt ?_; conv => whnf)
        | (refine BrReq.ff ?_; conv => whnf)
        | (refine LdReq.own1 hX rfl rfl 0 hL rfl rfl ?_; conv => whnf)
        | (refine LdReq.own1 hX rfl rfl 1 hL rfl rfl ?_; conv => whnf)
        | (refine LdReq.own1 hX rfl rfl 2 hL rfl rfl ?_; conv => whnf)
        | (refine LdReq.own1 hX rfl rfl 3 hL rfl rfl ?_; conv => whnf)
        | (refine LdReq.own1 hX rfl rfl 4 hL rfl rfl ?_; conv => whnf)
        | (refine LdReq.own1 hX rfl rfl 5 hL rfl rfl ?_; conv => whnf)
        | (refine LdReq.own1 hX rfl rfl 6 hL rfl rfl ?_; conv => whnf)
        | (refine LdReq.ownA hX rfl rfl 0 hL rfl rfl ?_; conv => whnf)
        | (refine LdReq.ownA hX rfl rfl 1 hL rfl rfl ?_; conv => whnf)
        | (refine LdReq.ownA hX rfl rfl 2 hL rfl rfl ?_; conv => whnf)
        | (refine LdReq.ownA hX rfl rfl 3 hL rfl rfl ?_; conv => whnf)
        | (refine LdReq.ownA hX rfl rfl 4 hL rfl rfl ?_; conv => whnf)
        | (refine LdReq.ownA hX rfl rfl 5 hL rfl rfl ?_; conv => whnf)
        | (refine LdReq.ownA hX rfl rfl 6 hL rfl rfl ?_; conv => whnf)
        | (refine StReq.own hX rfl 0 hL rfl rfl rfl rfl ?_; clear hL; intro w hL; conv => whnf)
        | (refine StReq.own hX rfl 1 hL rfl rfl rfl rfl ?_; clear hL; intro w hL; conv => whnf)
        | (refine StReq.own hX rfl 2 hL rfl rfl rfl rfl ?_; clear hL; intro w hL; conv => whnf)
        | (refine StReq.own hX rfl 3 hL rfl rfl rfl rfl ?_; clear hL; intro w hL; conv => whnf)
        | (refine StReq.own hX rfl 4 hL rfl rfl rfl rfl ?_; clear hL; intro w hL; conv => whnf)
        | (refine StReq.own hX rfl 5 hL rfl rfl rfl rfl ?_; clear hL; intro w hL; conv => whnf)
        | (refine StReq.own hX rfl 6 hL rfl rfl rfl rfl ?_; clear hL; intro w hL; conv => whnf)
        | (refine ArReq.i64 (by omega) (by omega) ?_; conv => whnf)
        | (refine SeqReq.go hX ?_; conv => whnf)
        | (refine OptReq.mk rfl ?_; conv => whnf))
      refine LdReq.row hX rfl rfl 1 hL rfl q2 g1 hcs0 ?_
      conv => whnf
      repeat (first
        | (refine SReq.mk (hL.one 0 rfl) ?_; conv => whnf)
        | (refine ArReq.wrap ?_; conv => whnf)
        | (refine Idx2Req.mk j _ rfl (by omega) rfl ?_; conv => whnf)
        | (refine QLdReq.own1 hX rfl rfl 0 rfl rfl ?_; conv => whnf)
        | (refine QLdReq.own1 hX rfl rfl 1 rfl rfl ?_; conv => whnf)
        | (refine QLdReq.own1 hX rfl rfl 2 rfl rfl ?_; conv => whnf)
        | (refine QLdReq.own1 hX rfl rfl 3 rfl rfl ?_; conv => whnf)
        | (refine QLdReq.ownA hX rfl rfl 0 rfl rfl ?_; conv => whnf)
        | (refine QLdReq.ownA hX rfl rfl 1 rfl rfl ?_; conv => whnf)
        | (refine QLdReq.ownA hX rfl rfl 2 rfl rfl ?_; conv => whnf)
        | (refine QLdReq.ownA hX rfl rfl 3 rfl rfl ?_; conv => whnf)
        | (refine AltReq.one ?_; conv => whnf)
        | (refine BrReq.tt ?_; conv => whnf)
        | (refine BrReq.ff ?_; conv => whnf)
        | (refine LdReq.own1 hX rfl rfl 0 hL rfl rfl ?_; conv => whnf)
        | (refine LdReq.own1 hX rfl rfl 1 hL rfl rfl ?_; conv => whnf)
        | (refine LdReq.own1 hX rfl rfl 2 hL rfl rfl ?_; conv => whnf)
        | (refine LdReq.own1 hX rfl rfl 3 hL rfl rfl ?_; conv => whnf)
        | (refine LdReq.own1 hX rfl rfl 4 hL rfl rfl ?_; conv => whnf)
        | (refine LdReq.own1 hX rfl rfl 5 hL rfl rfl ?_; conv => whnf)
        | (refine LdReq.own1 hX rfl rfl 6 hL rfl rfl ?_; conv => whnf)
        | (refine LdReq.ownA hX rfl rfl 0 hL rfl rfl ?_; conv => whnf)
        | (refine LdReq.ownA hX rfl rfl 1 hL rfl rfl ?_; conv => whnf)
        | (refine LdReq.ownA hX rfl rfl 2 hL rfl rfl ?_; conv => whnf)
        | (refine LdReq.ownA hX rfl rfl 3 hL rfl rfl ?_; conv => whnf)
        | (refine LdReq.ownA hX rfl rfl 4 hL rfl rfl ?_; conv => whnf)
        | (refine LdReq.ownA hX rfl rfl 5 hL rfl rfl ?_; conv => whnf)
        | (refine LdReq.ownA hX rfl rfl 6 hL rfl rfl ?_; conv => whnf)
        | (refine StReq.own hX rfl 0 hL rfl rfl rfl rfl ?_; clear hL; intro w hL; conv => whnf)
        | (refine StReq.own hX rfl 1 hL rfl rfl rfl rfl ?_; clear hL; intro w hL; conv => whnf)
        | (refine StReq.own hX rfl 2 hL rfl rfl rfl rfl ?_; clear hL; intro w hL; conv => whnf)
        | (refine StReq.own hX rfl 3 hL rfl rfl rfl rfl ?_; clear hL; intro w hL; conv => whnf)
        | (refine StReq.own hX rfl 4 hL rfl rfl rfl rfl ?_; clear hL; intro w hL; conv => whnf)
        | (refine StReq.own hX rfl 5 hL rfl rfl rfl rfl ?_; clear hL; intro w hL; conv => whnf)
        | (refine StReq.own hX rfl 6 hL rfl rfl rfl rfl ?_; clear hL; intro w hL; conv => whnf)
        | (refine ArReq.i64 (by omega) (by omega) ?_; conv => whnf)
        | (refine SeqReq.go hX ?_; conv => whnf)
        | (refine OptReq.mk rfl ?_; conv => whnf))
      refine StReq.row hX rfl 1 hL rfl q2 g1 (by decide) rfl rfl rfl ?_
      clear hL
      intro w hL
      have hL : Ev.Loc m [] w0 m1 [_, _, _] w := hL
      have q1' : (blk.set j (cs.set 0 (.int .i64 (IntKind.wrap .i64 (rs[j].kind + 1))))).length = rs.length := by rw [List.length_set]; exact q1
      have q2' : ∀ r ∈ blk.set j (cs.set 0 (.int .i64 (IntKind.wrap .i64 (rs[j].kind + 1)))), r.length = 9 := by
        intro r hr
        rcases List.mem_or_eq_of_mem_set hr with h | rfl
        · exact q2 _ h
        · rw [List.length_set]; exact q2 _ (List.mem_of_getElem? g1)
      have q4' : ∀ (i : Nat) (x : Re), rs[i]? = some x → ∃ cs', (blk.set j (cs.set 0 (.int .i64 (IntKind.wrap .i64 (rs[j].kind + 1)))))[i]? = some cs' ∧ RepRe m1 cs' (if i < j + 1 then bump x else x) := by
        intro i x hx
        by_cases e : i = j
        · subst e
          obtain ⟨_, rfl⟩ := List.getElem?_eq_some_iff.1 hx
          exact ⟨_, List.getElem?_set_self (by omega), by rw [if_pos (Nat.lt_succ_self _)]; exact g3⟩
        · obtain ⟨cs, e1, e2⟩ := q4 i x hx
          refine ⟨cs, by rw [List.getElem?_set_ne (Ne.symm e)]; exact e1, ?_⟩
          by_cases hij : i < j
          · rw [if_pos hij] at e2; rw [if_pos (by omega)]; exact e2
          · rw [if_neg hij] at e2; rw [if_neg (by omega)]; exact e2
      conv => whnf
      repeat (first
        | (refine SReq.mk (hL.one 0 rfl) ?_; conv => whnf)
        | (refine QLdReq.own1 hX rfl rfl 0 rfl rfl ?_; conv => whnf)
        | (refine QLdReq.own1 hX rfl rfl 1 rfl rfl ?_; conv => whnf)
        | (refine QLdReq.own1 hX rfl rfl 2 rfl rfl ?_; conv => whnf)
        | (refine QLdReq.own1 hX rfl rfl 3 rfl rfl ?_; conv => whnf)
        | (refine QLdReq.ownA hX rfl rfl 0 rfl rfl ?_; conv => whnf)
        | (refine QLdReq.ownA hX rfl rfl 1 rfl rfl ?_; conv => whnf)
        | (refine QLdReq.ownA hX rfl rfl 2 rfl rfl ?_; conv => whnf)
        | (refine QLdReq.ownA hX rfl rfl 3 rfl rfl ?_; conv => whnf)
        | (refine AltReq.one ?_; conv => whnf)
        | (refine BrReq.tt ?_; conv => whnf)
        | (refine BrReq.ff ?_; conv => whnf)
        | (refine LdReq.own1 hX rfl rfl 0 hL rfl rfl ?_; conv => whnf)
        | (refine LdReq.own1 hX rfl rfl 1 hL rfl rfl ?_; conv => whnf)
        | (refine LdReq.own1 hX rfl rfl 2 hL rfl rfl ?_; conv => whnf)
        | (refine LdReq.own1 hX rfl rfl 3 hL rfl rfl ?_; conv => whnf)
        | (refine LdReq.own1 hX rfl rfl 4 hL rfl rfl ?_; conv => whnf)
        | (refine LdReq.own1 hX rfl rfl 5 hL rfl rfl ?_; conv => whnf)
        | (refine LdReq.own1 hX rfl rfl 6 hL rfl rfl ?_; conv => whnf)
        | (refine LdReq.ownA hX rfl rfl 0 hL rfl rfl ?_; conv => whnf)
        | (refine LdReq.ownA hX rfl rfl 1 hL rfl rfl ?_; conv => whnf)
        | (refine LdReq.ownA hX rfl rfl 2 hL rfl rfl ?_; conv => whnf)
        | (refine LdReq.ownA hX rfl rfl 3 hL rfl rfl ?_; conv => whnf)
        | (refine LdReq.ownA hX rfl rfl 4 hL rfl rfl ?_; conv => whnf)
        | (refine LdReq.ownA hX rfl rfl 5 hL rfl rfl ?_; conv => whnf)
        | (refine LdReq.ownA hX rfl rfl 6 hL rfl rfl ?_; conv => whnf)
        | (refine StReq.own hX rfl 0 hL rfl rfl rfl rfl ?_; clear hL; intro w hL; conv => whnf)
        | (refine StReq.own hX rfl 1 hL rfl rfl rfl rfl ?_; clear hL; intro w hL; conv => whnf)
        | (refine StReq.own hX rfl 2 hL rfl rfl rfl rfl ?_; clear hL; intro w hL; conv => whnf)
        | (refine StReq.own hX rfl 3 hL rfl rfl rfl rfl ?_; clear hL; intro w hL; conv => whnf)
        | (refine StReq.own hX rfl 4 hL rfl rfl rfl rfl ?_; clear hL; intro w hL; conv => whnf)
        | (refine StReq.own hX rfl 5 hL rfl rfl rfl rfl ?_; clear hL; intro w hL; conv => whnf)
        | (refine StReq.own hX rfl 6 hL rfl rfl rfl rfl ?_; clear hL; intro w hL; conv => whnf)
        | (refine ArReq.i64 (by omega) (by omega) ?_; conv => whnf)
        | (refine SeqReq.go hX ?_; conv => whnf)
        | (refine OptReq.mk rfl ?_; conv => whnf))
      refine ⟨j + 1, ⟨by omega, _, q1', q2', q4', hL⟩, by omega, ?_, ?_⟩
      · repeat (first | exact trivial | (refine And.intro (by (conv => lhs; whnf) <;> (conv => rhs; whnf) <;> (first | rfl)) ?_))
      · repeat (first | exact trivial | (refine And.intro (by (conv => lhs; whnf) <;> (conv => rhs; whnf) <;> (first | rfl)) ?_))
    conv => whnf
    repeat (first
      | (refine BrReq.tt ?_; conv => whnf)
      | (refine BrReq.ff ?_; conv => whnf)
      | (refine LdReq.own1 hX rfl rfl 0 hL rfl rfl ?_; conv => whnf)
      | (refine LdReq.own1 hX rfl rfl 1 hL rfl rfl ?_; conv => whnf)
      | (refine LdReq.own1 hX rfl rfl 2 hL rfl rfl ?_; conv => whnf)
      | (refine LdReq.own1 hX rfl rfl 3 hL rfl rfl ?_; conv => whnf)
      | (refine LdReq.own1 hX rfl rfl 4 hL rfl rfl ?_; conv => whnf)
      | (refine LdReq.own1 hX rfl rfl 5 hL rfl rfl ?_; conv => whnf)
      | (refine LdReq.own1 hX rfl rfl 6 hL rfl rfl ?_; conv => whnf)
      | (refine LdReq.ownA hX rfl rfl 0 hL rfl rfl ?_; conv => whnf)
      | (refine LdReq.ownA hX rfl rfl 1 hL rfl rfl ?_; conv => whnf)
      | (refine LdReq.ownA hX rfl rfl 2 hL rfl rfl ?_; conv => whnf)
      | (refine LdReq.ownA hX rfl rfl 3 hL rfl rfl ?_; conv => whnf)
      | (refine LdReq.ownA hX rfl rfl 4 hL rfl rfl ?_; conv => whnf)
      | (refine LdReq.ownA hX rfl rfl 5 hL rfl rfl ?_; conv => whnf)
      | (refine LdReq.ownA hX rfl rfl 6 hL rfl rfl ?_; conv => whnf)
      | (refine StReq.own hX rfl 0 hL rfl rfl rfl rfl ?_; clear hL; intro w hL; conv => whnf)
      | (refine StReq.own hX rfl 1 hL rfl rfl rfl rfl ?_; clear hL; intro w hL; conv => whnf)
      | (refine StReq.own hX rfl 2 hL rfl rfl rfl rfl ?_; clear hL; intro w hL; conv => whnf)
      | (refine StReq.own hX rfl 3 hL rfl rfl rfl rfl ?_; clear hL; intro w hL; conv => whnf)
      | (refine StReq.own hX rfl 4 hL rfl rfl rfl rfl ?_; clear hL; intro w hL; conv => whnf)
      | (refine StReq.own hX rfl 5 hL rfl rfl rfl rfl ?_; clear hL; intro w hL; conv => whnf)
      | (refine StReq.own hX rfl 6 hL rfl rfl rfl rfl ?_; clear hL; intro w hL; conv => whnf)
      | (refine ArReq.i64 (by omega) (by omega) ?_; conv => whnf)
      | (refine SeqReq.go hX ?_; conv => whnf)
      | (refine OptReq.mk rfl ?_; conv => whnf))
    have hjn : j = rs.length := by omega
    refine CallReq.mk (L1 := []) (Clone_fn m1 _ _ (h.le hm1) hsm) hL ?_
    clear hL
    rintro v m2 L2 w hL hm2 (⟨d3, rfl, rfl⟩ | ⟨-, ho⟩)
    · exact absurd d1 (by omega)
    obtain ⟨m3, cs3, hL, hm3, rfl, hr3⟩ := ho.freeze hL
    obtain ⟨k3, v0, v1, v2, v3, A3, n3, c3, lo3, hi3, neg3, rfl⟩ := hr3.form
    have hm13 : Mem.Le m1 m3 := hm2.trans hm3
    have hr := (h.le hm1).le hm13
    conv => whnf
    repeat (first
      | (refine BrReq.tt ?_; conv => whnf)
      | (refine BrReq.ff ?_; conv => whnf)
      | (refine LdReq.own1 hX rfl rfl 0 hL rfl rfl ?_; conv => whnf)
      | (refine LdReq.own1 hX rfl rfl 1 hL rfl rfl ?_; conv => whnf)
      | (refine LdReq.own1 hX rfl rfl 2 hL rfl rfl ?_; conv => whnf)
      | (refine LdReq.own1 hX rfl rfl 3 hL rfl rfl ?_; conv => whnf)
      | (refine LdReq.own1 hX rfl rfl 4 hL rfl rfl ?_; conv => whnf)
      | (refine LdReq.own1 hX rfl rfl 5 hL rfl rfl ?_; conv => whnf)
      | (refine LdReq.own1 hX rfl rfl 6 hL rfl rfl ?_; conv => whnf)
      | (refine LdReq.ownA hX rfl rfl 0 hL rfl rfl ?_; conv => whnf)
      | (refine LdReq.ownA hX rfl rfl 1 hL rfl rfl ?_; conv => whnf)
      | (refine LdReq.ownA hX rfl rfl 2 hL rfl rfl ?_; conv => whnf)
      | (refine LdReq.ownA hX rfl rfl 3 hL rfl rfl ?_; conv => whnf)
      | (refine LdReq.ownA hX rfl rfl 4 hL rfl rfl ?_; conv => whnf)
      | (refine LdReq.ownA hX rfl rfl 5 hL rfl rfl ?_; conv => whnf)
      | (refine LdReq.ownA hX rfl rfl 6 hL rfl rfl ?_; conv => whnf)
      | (refine StReq.own hX rfl 0 hL rfl rfl rfl rfl ?_; clear hL; intro w hL; conv => whnf)
      | (refine StReq.own hX rfl 1 hL rfl rfl rfl rfl ?_; clear hL; intro w hL; conv => whnf)
      | (refine StReq.own hX rfl 2 hL rfl rfl rfl rfl ?_; clear hL; intro w hL; conv => whnf)
      | (refine StReq.own hX rfl 3 hL rfl rfl rfl rfl ?_; clear hL; intro w hL; conv => whnf)
      | (refine StReq.own hX rfl 4 hL rfl rfl rfl rfl ?_; clear hL; intro w hL; conv => whnf)
      | (refine StReq.own hX rfl 5 hL rfl rfl rfl rfl ?_; clear hL; intro w hL; conv => whnf)
      | (refine StReq.own hX rfl 6 hL rfl rfl rfl rfl ?_; clear hL; intro w hL; conv => whnf)
      | (refine ArReq.i64 (by omega) (by omega) ?_; conv => whnf)
      | (refine SeqReq.go hX ?_; conv => whnf)
      | (refine OptReq.mk rfl ?_; conv => whnf))
    refine NewReq.mk hL ?_
    clear hL
    intro b5 w hL
    conv => whnf
    conv => whnf
    repeat (first
      | (refine BrReq.tt ?_; conv => whnf)
      | (refine BrReq.ff ?_; conv => whnf)
      | (refine LdReq.own1 hX rfl rfl 0 hL rfl rfl ?_; conv => whnf)
      | (refine LdReq.own1 hX rfl rfl 1 hL rfl rfl ?_; conv => whnf)
      | (refine LdReq.own1 hX rfl rfl 2 hL rfl rfl ?_; conv => whnf)
      | (refine LdReq.own1 hX rfl rfl 3 hL rfl rfl ?_; conv => whnf)
      | (refine LdReq.own1 hX rfl rfl 4 hL rfl rfl ?_; conv => whnf)
      | (refine LdReq.own1 hX rfl rfl 5 hL rfl rfl ?_; conv => whnf)
      | (refine LdReq.own1 hX rfl rfl 6 hL rfl rfl ?_; conv => whnf)
      | (refine LdReq.ownA hX rfl rfl 0 hL rfl rfl ?_; conv => whnf)
      | (refine LdReq.ownA hX rfl rfl 1 hL rfl rfl ?_; conv => whnf)
      | (refine LdReq.ownA hX rfl rfl 2 hL rfl rfl ?_; conv => whnf)
      | (refine LdReq.ownA hX rfl rfl 3 hL rfl rfl ?_; conv => whnf)
      | (refine LdReq.ownA hX rfl rfl 4 hL rfl rfl ?_; conv => whnf)
      | (refine LdReq.ownA hX rfl rfl 5 hL rfl rfl ?_; conv => whnf)
      | (refine LdReq.ownA hX rfl rfl 6 hL rfl rfl ?_; conv => whnf)
      | (refine StReq.own hX rfl 0 hL rfl rfl rfl rfl ?_; clear hL; intro w hL; conv => whnf)
      | (refine StReq.own hX rfl 1 hL rfl rfl rfl rfl ?_; clear hL; intro w hL; conv => whnf)
      | (refine StReq.own hX rfl 2 hL rfl rfl rfl rfl ?_; clear hL; intro w hL; conv => whnf)
      | (refine StReq.own hX rfl 3 hL rfl rfl rfl rfl ?_; clear hL; intro w hL; conv => whnf)
      | (refine StReq.own hX rfl 4 hL rfl rfl rfl rfl ?_; clear hL; intro w hL; conv => whnf)
      | (refine StReq.own hX rfl 5 hL rfl rfl rfl rfl ?_; clear hL; intro w hL; conv => whnf)
      | (refine StReq.own hX rfl 6 hL rfl rfl rfl rfl ?_; clear hL; intro w hL; conv => whnf)
      | (refine ArReq.i64 (by omega) (by omega) ?_; conv => whnf)
      | (refine SeqReq.go hX ?_; conv => whnf)
      | (refine OptReq.mk rfl ?_; conv => whnf))
    refine CallReq.val (refSame_fn 41 m3 _ _ _ _ hr3 hr (by omega)) hL ?_
    clear hL
    intro w hL
    rw [sameR_refl 40 _ d1]
    conv => whnf
    repeat (first
      | (refine BrReq.tt ?_; conv => whnf)
      | (refine BrReq.ff ?_; conv => whnf)
      | (refine LdReq.own1 hX rfl rfl 0 hL rfl rfl ?_; conv => whnf)
      | (refine LdReq.own1 hX rfl rfl 1 hL rfl rfl ?_; conv => whnf)
      | (refine LdReq.own1 hX rfl rfl 2 hL rfl rfl ?_; conv => whnf)
      | (refine LdReq.own1 hX rfl rfl 3 hL rfl rfl ?_; conv => whnf)
      | (refine LdReq.own1 hX rfl rfl 4 hL rfl rfl ?_; conv => whnf)
      | (refine LdReq.own1 hX rfl rfl 5 hL rfl rfl ?_; conv => whnf)
      | (refine LdReq.own1 hX rfl rfl 6 hL rfl rfl ?_; conv => whnf)
      | (refine LdReq.ownA hX rfl rfl 0 hL rfl rfl ?_; conv => whnf)
      | (refine LdReq.ownA hX rfl rfl 1 hL rfl rfl ?_; conv => whnf)
      | (refine LdReq.ownA hX rfl rfl 2 hL rfl rfl ?_; conv => whnf)
      | (refine LdReq.ownA hX rfl rfl 3 hL rfl rfl ?_; conv => whnf)
      | (refine LdReq.ownA hX rfl rfl 4 hL rfl rfl ?_; conv => whnf)
      | (refine LdReq.ownA hX rfl rfl 5 hL rfl rfl ?_; conv => whnf)
      | (refine LdReq.ownA hX rfl rfl 6 hL rfl rfl ?_; conv => whnf)
      | (refine StReq.own hX rfl 0 hL rfl rfl rfl rfl ?_; clear hL; intro w hL; conv => whnf)
      | (refine StReq.own hX rfl 1 hL rfl rfl rfl rfl ?_; clear hL; intro w hL; conv => whnf)
      | (refine StReq.own hX rfl 2 hL rfl rfl rfl rfl ?_; clear hL; intro w hL; conv => whnf)
      | (refine StReq.own hX rfl 3 hL rfl rfl rfl rfl ?_; clear hL; intro w hL; conv => whnf)
      | (refine StReq.own hX rfl 4 hL rfl rfl rfl rfl ?_; clear hL; intro w hL; conv => whnf)
      | (refine StReq.own hX rfl 5 hL rfl rfl rfl rfl ?_; clear hL; intro w hL; conv => whnf)
      | (refine StReq.own hX rfl 6 hL rfl rfl rfl rfl ?_; clear hL; intro w hL; conv => whnf)
      | (refine ArReq.i64 (by omega) (by omega) ?_; conv => whnf)
      | (refine SeqReq.go hX ?_; conv => whnf)
      | (refine OptReq.mk rfl ?_; conv => whnf))
    refine BrReq.dec (fun h0 => ?_) (fun h0 => ?_)
    · conv => whnf
      repeat (first
        | (refine BrReq.tt ?_; conv => whnf)
        | (refine BrReq.ff ?_; conv => whnf)
        | (refine LdReq.own1 hX rfl rfl 0 hL rfl rfl ?_; conv => whnf)
        | (refine LdReq.own1 hX rfl rfl 1 hL rfl rfl ?_; conv => whnf)
        | (refine LdReq.own1 hX rfl rfl 2 hL rfl rfl ?_; conv => whnf)
        | (refine LdReq.own1 hX rfl rfl 3 hL rfl rfl ?_; conv => whnf)
        | (refine LdReq.own1 hX rfl rfl 4 hL rfl rfl ?_; conv => whnf)
        | (refine LdReq.own1 hX rfl rfl 5 hL rfl rfl ?_; conv => whnf)
        | (refine LdReq.own1 hX rfl rfl 6 hL rfl rfl ?_; conv => whnf)
        | (refine LdReq.ownA hX rfl rfl 0 hL rfl rfl ?_; conv => whnf)
        | (refine LdReq.ownA hX rfl rfl 1 hL rfl rfl ?_; conv => whnf)
        | (refine LdReq.ownA hX rfl rfl 2 hL rfl rfl ?_; conv => whnf)
        | (refine LdReq.ownA hX rfl rfl 3 hL rfl rfl ?_; conv => whnf)
        | (refine LdReq.ownA hX rfl rfl 4 hL rfl rfl ?_; conv => whnf)
        | (refine LdReq.ownA hX rfl rfl 5 hL rfl rfl ?_; conv => whnf)
        | (refine LdReq.ownA hX rfl rfl 6 hL rfl rfl ?_; conv => whnf)
        | (refine StReq.own hX rfl 0 hL rfl rfl rfl rfl ?_; clear hL; intro w hL; conv => whnf)
        | (refine StReq.own hX rfl 1 hL rfl rfl rfl rfl ?_; clear hL; intro w hL; conv => whnf)
        | (refine StReq.own hX rfl 2 hL rfl rfl rfl rfl ?_; clear hL; intro w hL; conv => whnf)
        | (refine StReq.own hX rfl 3 hL rfl rfl rfl rfl ?_; clear hL; intro w hL; conv => whnf)
        | (refine StReq.own hX rfl 4 hL rfl rfl rfl rfl ?_; clear hL; intro w hL; conv => whnf)
        | (refine StReq.own hX rfl 5 hL rfl rfl rfl rfl ?_; clear hL; intro w hL; conv => whnf)
        | (refine StReq.own hX rfl 6 hL rfl rfl rfl rfl ?_; clear hL; intro w hL; conv => whnf)
        | (refine ArReq.i64 (by omega) (by omega) ?_; conv => whnf)
        | (refine SeqReq.go hX ?_; conv => whnf)
        | (refine OptReq.mk rfl ?_; conv => whnf))
      have hL : Ev.Loc m [] w0 m3 [_, _, _, _] w := hL
      exact RetReq.mk hL.drop.drop.drop.drop ⟨rfl, rfl⟩
    · have hL : Ev.Loc m [] w0 m3 [_, _, (g, .cells (toArr (List.flatten blk)) 27 (0, 0)), _] w := hL
      conv => whnf
      repeat (first
        | (refine BrReq.tt ?_; conv => whnf)
        | (refine BrReq.ff ?_; conv => whnf)
        | (refine LdReq.own1 hX rfl rfl 0 hL rfl rfl ?_; conv => whnf)
        | (refine LdReq.own1 hX rfl rfl 1 hL rfl rfl ?_; conv => whnf)
        | (refine LdReq.own1 hX rfl rfl 2 hL rfl rfl ?_; conv => whnf)
        | (refine LdReq.own1 hX rfl rfl 3 hL rfl rfl ?_; conv => whnf)
        | (refine LdReq.own1 hX rfl rfl 4 hL rfl rfl ?_; conv => whnf)
        | (refine LdReq.own1 hX rfl rfl 5 hL rfl rfl ?_; conv => whnf)
        | (refine LdReq.own1 hX rfl rfl 6 hL rfl rfl ?_; conv => whnf)
        | (refine LdReq.ownA hX rfl rfl 0 hL rfl rfl ?_; conv => whnf)
        | (refine LdReq.ownA hX rfl rfl 1 hL rfl rfl ?_; conv => whnf)
        | (refine LdReq.ownA hX rfl rfl 2 hL rfl rfl ?_; conv => whnf)
        | (refine LdReq.ownA hX rfl rfl 3 hL rfl rfl ?_; conv => whnf)
        | (refine LdReq.ownA hX rfl rfl 4 hL rfl rfl ?_; conv => whnf)
        | (refine LdReq.ownA hX rfl rfl 5 hL rfl rfl ?_; conv => whnf)
        | (refine LdReq.ownA hX rfl rfl 6 hL rfl rfl ?_; conv => whnf)
        | (refine StReq.own hX rfl 0 hL rfl rfl rfl rfl ?_; clear hL; intro w hL; conv => whnf)
        | (refine StReq.own hX rfl 1 hL rfl rfl rfl rfl ?_; clear hL; intro w hL; conv => whnf)
        | (refine StReq.own hX rfl 2 hL rfl rfl rfl rfl ?_; clear hL; intro w hL; conv => whnf)
        | (refine StReq.own hX rfl 3 hL rfl rfl rfl rfl ?_; clear hL; intro w hL; conv => whnf)
        | (refine StReq.own hX rfl 4 hL rfl rfl rfl rfl ?_; clear hL; intro w hL; conv => whnf)
        | (refine StReq.own hX rfl 5 hL rfl rfl rfl rfl ?_; clear hL; intro w hL; conv => whnf)
        | (refine StReq.own hX rfl 6 hL rfl rfl rfl rfl ?_; clear hL; intro w hL; conv => whnf)
        | (refine ArReq.i64 (by omega) (by omega) ?_; conv => whnf)
        | (refine SeqReq.go hX ?_; conv => whnf)
        | (refine OptReq.mk rfl ?_; conv => whnf))
      have hrows : ∀ (i : Nat) (x : Re), (rs.map bump)[i]? = some x → ∃ cs, blk[i]? = some cs ∧ RepRe m3 cs x := by
        intro i x hx
        rw [List.getElem?_map, Option.map_eq_some_iff] at hx
        obtain ⟨y, hy, rfl⟩ := hx
        obtain ⟨cs, e1, e2⟩ := q4 i y hy
        rw [if_pos (by have := (List.getElem?_eq_some_iff.1 hy).1; omega)] at e2
        exact ⟨cs, e1, e2.le hm13⟩
      obtain ⟨m4, hL, hm4, hsl⟩ := rows_freeze (R := RepRe m3) hL.drop.drop (by rw [List.length_map]) (Nat.le_refl _) q3 q2 hrows
      have hx : RepRe m4 (reC kd s0 s1 s2 s3 (.slice (some ⟨g, 0, none⟩) rs.length rs.length) lo hi neg) (.mk kd s0 s1 s2 s3 (rs.map bump) lo hi neg) := RepRe.shut (hsl.le (Mem.Le.refl m4) fun cs x _ hx => hx.le hm4) q5
      refine CallReq.val (refSame_fn 41 m4 _ _ _ _ hx (hr.le hm4) (by omega)) hL ?_
      clear hL
      intro w hL
      rw [bump_ne (by intro e; rw [e] at hn; exact h0 (by rw [hn]; rfl))]
      conv => whnf
      repeat (first
        | (refine BrReq.tt ?_; conv => whnf)
        | (refine BrReq.ff ?_; conv => whnf)
        | (refine LdReq.own1 hX rfl rfl 0 hL rfl rfl ?_; conv => whnf)
        | (refine LdReq.own1 hX rfl rfl 1 hL rfl rfl ?_; conv => whnf)
        | (refine LdReq.own1 hX rfl rfl 2 hL rfl rfl ?_; conv => whnf)
        | (refine LdReq.own1 hX rfl rfl 3 hL rfl rfl ?_; conv => whnf)
        | (refine LdReq.own1 hX rfl rfl 4 hL rfl rfl ?_; conv => whnf)
        | (refine LdReq.own1 hX rfl rfl 5 hL rfl rfl ?_; conv => whnf)
        | (refine LdReq.own1 hX rfl rfl 6 hL rfl rfl ?_; conv => whnf)
        | (refine LdReq.ownA hX rfl rfl 0 hL rfl rfl ?_; conv => whnf)
        | (refine LdReq.ownA hX rfl rfl 1 hL rfl rfl ?_; conv => whnf)
        | (refine LdReq.ownA hX rfl rfl 2 hL rfl rfl ?_; conv => whnf)
        | (refine LdReq.ownA hX rfl rfl 3 hL rfl rfl ?_; conv => whnf)
        | (refine LdReq.ownA hX rfl rfl 4 hL rfl rfl ?_; conv => whnf)
        | (refine LdReq.ownA hX rfl rfl 5 hL rfl rfl ?_; conv => whnf)
        | (refine LdReq.ownA hX rfl rfl 6 hL rfl rfl ?_; conv => whnf)
        | (refine StReq.own hX rfl 0 hL rfl rfl rfl rfl ?_; clear hL; intro w hL; conv => whnf)
        | (refine StReq.own hX rfl 1 hL rfl rfl rfl rfl ?_; clear hL; intro w hL; conv => whnf)
        | (refine StReq.own hX rfl 2 hL rfl rfl rfl rfl ?_; clear hL; intro w hL; conv => whnf)
        | (refine StReq.own hX rfl 3 hL rfl rfl rfl rfl ?_; clear hL; intro w hL; conv => whnf)
        | (refine StReq.own hX rfl 4 hL rfl rfl rfl rfl ?_; clear hL; intro w hL; conv => whnf)
        | (refine StReq.own hX rfl 5 hL rfl rfl rfl rfl ?_; clear hL; intro w hL; conv => whnf)
        | (refine StReq.own hX rfl 6 hL rfl rfl rfl rfl ?_; clear hL; intro w hL; conv => whnf)
        | (refine ArReq.i64 (by omega) (by omega) ?_; conv => whnf)
        | (refine SeqReq.go hX ?_; conv => whnf)
        | (refine OptReq.mk rfl ?_; conv => whnf))
      exact RetReq.mk hL.drop ⟨rfl, rfl⟩

theorem contract (m : Mem) (vs : List Value) (hl : vs.length = Try.f3.params.size) (hg : ∀ (j : Nat) t v, Try.f3.params.toList[j]? = some t → vs[j]? = some v → Given X m t v) :
    Ev.Fn Try.prog 3 vs m [] fun _ _ v => v = .bool true := by
  match vs, hl with
  | [va], _ =>
    obtain ⟨ca, na, rfl, h2⟩ := (hg 0 27 va rfl rfl).agg rfl rfl
    obtain ⟨a, h2⟩ := re_of na ca h2
    exact (walk m a _ h2).mono fun _ _ _ _ h => h.2

theorem spec (H : Type) (ds : List (DataW H)) (h : ds.length = Try.f3.params.size) : Rows.treeClonesSpec.fn H ds = { results := [.lit (.bool true)], args := ds } := by
  match ds, h with
  | [_], _ => rfl

set_option maxRecDepth 100000 in
theorem lifted (os : Os) (started : os.Started) (H : Type) (enc : TypeId × Value → H) :
    ReturnsInHanded {} Try.checked os 3 .any (Rows.treeClonesSpec.pre6 enc Try.prog Try.f3 Rows.treeClonesRow.domain false) (Rows.treeClonesSpec.post enc Try.prog Try.f3 false true false false) := by
  refine returnsInHanded_of_change_sized (C := Try.checked) (by kernel_rfl) started (by kernel_rfl) Try.func3
    (ChangeSpec.witness6 (enc := enc) (C := Try.checked) false ⟨#[], #[.agg #[.int .i64 0, .int .u64 0, .int .u64 0, .int .u64 0, .int .u64 0, .slice none 0 0, .int .i64 0, .int .i64 0, .bool false]], []⟩ 8 (by kernel_rfl) (by kernel_rfl) (by kernel_rfl) (by kernel_rfl)) ?_
  intro W base args ds gs before hval hW _ hsz _
  exact law_core hX (by kernel_rfl) rfl rfl Try.underlying4 (by decide +kernel) (fun H ds h => spec H ds h) contract W base args ds gs before hval hW hsz

set_option maxRecDepth 100000 in
theorem proved : Rows.TreeClonesSaid :=
  OpenClaim.holds_of_wide 3 Try.f3 rfl rfl rfl rfl rfl rfl rfl ⟨rfl, rfl, rfl, rfl, rfl⟩ rfl rfl rfl rfl rfl (by kernel_rfl) Try.func3 (by kernel_rfl)
    (of_decide_eq_true (by kernel_rfl)) (by unfold Func.isWrapper; first | (rw [if_pos (by decide +kernel)]; kernel_rfl) | (rw [if_neg (by decide +kernel)]; exact ⟨rfl, rfl⟩))
    (fun os started H enc _ => lifted os started H enc)
end Go.Proofs.Ytmgfcckboncecaa.treeClones
