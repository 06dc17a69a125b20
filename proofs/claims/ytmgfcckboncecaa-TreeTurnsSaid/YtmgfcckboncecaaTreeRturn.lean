/- Patterns turned round: what the program gives, and what the document says. Conditions: none. -/
import Derived.Test.YtmgfcckboncecaaTreeTurn

namespace Go.Proofs.Ytmgfcckboncecaa.tree
open Go Go.Ev Go.Proofs

theorem Turn_fn (m : Mem) (r : Re) (cs : List Value) (h : RepRe m cs r) (hs : Small r) : Fn0 Try.prog 18 [.agg (toArr cs)] m fun m' u => ∃ cs', u = .agg (toArr cs') ∧ RepRe m' cs' (if formedR r = true then turnR r else leafR 0) := by
  obtain ⟨k1, u0, u1, u2, u3, A1, n1, c1, lo1, hi1, neg1, rfl⟩ := h.form
  refine Fn.enter (N := 10) hX Try.func18 rfl rfl (by show _ ≤ _; simp) (fun w0 hL => ?_)
  conv => whnf
  refine NewReq.mk hL ?_
  clear hL
  intro b1 w hL
  conv => whnf
  refine NewReq.mk hL ?_
  clear hL
  intro b2 w hL
  conv => whnf
  conv => whnf
  repeat (first
    | (refine BrReq.tt ?_; conv => whnf)
    | (refine BrReq.ff ?_; conv => whnf)
    | (refine LdReq.own1 hX rfl rfl 0 hL rfl rfl ?_; conv => whnf)
    | (refine LdReq.own1 hX rfl rfl 1 hL rfl rfl ?_; conv => whnf)
    | (refine LdReq.own1 hX rfl rfl 2 hL rfl rfl ?_; conv => whnf)
    | (refine LdReq.own1 hX rfl rfl 3 hL rfl rfl ?_; conv => whnf)
    | (refine LdReq.own1 hX rfl rfl 4 hL rfl rfl ?_; conv => whnf)
    | (refine LdReq.own1 hX rfl rfl 5 hL rfl rfl ?_; conv => whnf)
    | (refine LdReq.own1 hX rfl rfl 6 hL rfl rfl ?_; conv => whnf)
    | (refine LdReq.ownA hX rfl rfl 0 hL rfl rfl ?_; conv => whnf)
    | (refine LdReq.ownA hX rfl rfl 1 hL rfl rfl ?_; conv => whnf)
    | (refine LdReq.ownA hX rfl rfl 2 hL rfl rfl ?_; conv => whnf)
    | (refine LdReq.ownA hX rfl rfl 3 hL rfl rfl ?_; conv => whnf)
    | (refine LdReq.ownA hX rfl rfl 4 hL rfl rfl ?_; conv => whnf)
    | (refine LdReq.ownA hX rfl rfl 5 hL rfl rfl ?_; conv => whnf)
    | (refine LdReq.ownA hX rfl rfl 6 hL rfl rfl ?_; conv => whnf)
    | (refine StReq.own hX rfl 0 hL rfl rfl rfl rfl ?_; clear hL; intro w hL; conv => whnf)
    | (refine StReq.own hX rfl 1 hL rfl rfl rfl rfl ?_; clear hL; intro w hL; conv => whnf)
    | (refine StReq.own hX rfl 2 hL rfl rfl rfl rfl ?_; clear hL; intro w hL; conv => whnf)
    | (refine StReq.own hX rfl 3 hL rfl rfl rfl rfl ?_; clear hL; intro w hL; conv => whnf)
    | (refine StReq.own hX rfl 4 hL rfl rfl rfl rfl ?_; clear hL; intro w hL; conv => whnf)
    | (refine StReq.own hX rfl 5 hL rfl rfl rfl rfl ?_; clear hL; intro w hL; conv => whnf)
    | (refine StReq.own hX rfl 6 hL rfl rfl rfl rfl ?_; clear hL; intro w hL; conv => whnf)
    | (refine ArReq.i64 (by omega) (by omega) ?_; conv => whnf)
    | (refine SeqReq.go hX ?_; conv => whnf)
    | (refine OptReq.mk rfl ?_; conv => whnf))
  refine CallReq.val (Formed_fn m r _ h) hL ?_
  clear hL
  intro w hL
  conv => whnf
  repeat (first
    | (refine BrReq.tt ?_; conv => whnf)
    | (refine BrReq.ff ?_; conv => whnf)
    | (refine LdReq.own1 hX rfl rfl 0 hL rfl rfl ?_; conv => whnf)
    | (refine LdReq.own1 hX rfl rfl 1 hL rfl rfl ?_; conv => whnf)
    | (refine LdReq.own1 hX rfl rfl 2 hL rfl rfl ?_; conv => whnf)
    | (refine LdReq.own1 hX rfl rfl 3 hL rfl rfl ?_; conv => whnf)
    | (refine LdReq.own1 hX rfl rfl 4 hL rfl rfl ?_; conv => whnf)
    | (refine LdReq.own1 hX rfl rfl 5 hL rfl rfl ?_; conv => whnf)
    | (refine LdReq.own1 hX rfl rfl 6 hL rfl rfl ?_; conv => whnf)
    | (refine LdReq.ownA hX rfl rfl 0 hL rfl rfl ?_; conv => whnf)
    | (refine LdReq.ownA hX rfl rfl 1 hL rfl rfl ?_; conv => whnf)
    | (refine LdReq.ownA hX rfl rfl 2 hL rfl rfl ?_; conv => whnf)
    | (refine LdReq.ownA hX rfl rfl 3 hL rfl rfl ?_; conv => whnf)
    | (refine LdReq.ownA hX rfl rfl 4 hL rfl rfl ?_; conv => whnf)
    | (refine LdReq.ownA hX rfl rfl 5 hL rfl rfl ?_; conv => whnf)
    | (refine LdReq.ownA hX rfl rfl 6 hL rfl rfl ?_; conv => whnf)
    | (refine StReq.own hX rfl 0 hL rfl rfl rfl rfl ?_; clear hL; intro w hL; conv => whnf)
    | (refine StReq.own hX rfl 1 hL rfl rfl rfl rfl ?_; clear hL; intro w hL; conv => whnf)
    | (refine StReq.own hX rfl 2 hL rfl rfl rfl rfl ?_; clear hL; intro w hL; conv => whnf)
    | (refine StReq.own hX rfl 3 hL rfl rfl rfl rfl ?_; clear hL; intro w hL; conv => whnf)
    | (refine StReq.own hX rfl 4 hL rfl rfl rfl rfl ?_; clear hL; intro w hL; conv => whnf)
    | (refine StReq.own hX rfl 5 hL rfl rfl rfl rfl ?_; clear hL; intro w hL; conv => whnf)
    | (refine StReq.own hX rfl 6 hL rfl rfl rfl rfl ?_; clear hL; intro w hL; conv => whnf)
    | (refine ArReq.i64 (by omega) (by omega) ?_; conv => whnf)
    | (refine SeqReq.go hX ?_; conv => whnf)
    | (refine OptReq.mk rfl ?_; conv => whnf))
  refine BrReq.not ?_
  refine BrReq.bool (fun g => ?_) (fun g => ?_)
  · conv => whnf
    repeat (first
      | (refine BrReq.tt ?_; conv => whnf)
      | (refine BrReq.ff ?_; conv => whnf)
      | (refine LdReq.own1 hX rfl rfl 0 hL rfl rfl ?_; conv => whnf)
      | (refine LdReq.own1 hX rfl rfl 1 hL rfl rfl ?_; conv => whnf)
      | (refine LdReq.own1 hX rfl rfl 2 hL rfl rfl ?_; conv => whnf)
      | (refine LdReq.own1 hX rfl rfl 3 hL rfl rfl ?_; conv => whnf)
      | (refine LdReq.own1 hX rfl rfl 4 hL rfl rfl ?_; conv => whnf)
      | (refine LdReq.own1 hX rfl rfl 5 hL rfl rfl ?_; conv => whnf)
      | (refine LdReq.own1 hX rfl rfl 6 hL rfl rfl ?_; conv => whnf)
      | (refine LdReq.ownA hX rfl rfl 0 hL rfl rfl ?_; conv => whnf)
      | (refine LdReq.ownA hX rfl rfl 1 hL rfl rfl ?_; conv => whnf)
      | (refine LdReq.ownA hX rfl rfl 2 hL rfl rfl ?_; conv => whnf)
      | (refine LdReq.ownA hX rfl rfl 3 hL rfl rfl ?_; conv => whnf)
      | (refine LdReq.ownA hX rfl rfl 4 hL rfl rfl ?_; conv => whnf)
      | (refine LdReq.ownA hX rfl rfl 5 hL rfl rfl ?_; conv => whnf)
      | (refine LdReq.ownA hX rfl rfl 6 hL rfl rfl ?_; conv => whnf)
      | (refine StReq.own hX rfl 0 hL rfl rfl rfl rfl ?_; clear hL; intro w hL; conv => whnf)
      | (refine StReq.own hX rfl 1 hL rfl rfl rfl rfl ?_; clear hL; intro w hL; conv => whnf)
      | (refine StReq.own hX rfl 2 hL rfl rfl rfl rfl ?_; clear hL; intro w hL; conv => whnf)
      | (refine StReq.own hX rfl 3 hL rfl rfl rfl rfl ?_; clear hL; intro w hL; conv => whnf)
      | (refine StReq.own hX rfl 4 hL rfl rfl rfl rfl ?_; clear hL; intro w hL; conv => whnf)
      | (refine StReq.own hX rfl 5 hL rfl rfl rfl rfl ?_; clear hL; intro w hL; conv => whnf)
      | (refine StReq.own hX rfl 6 hL rfl rfl rfl rfl ?_; clear hL; intro w hL; conv => whnf)
      | (refine ArReq.i64 (by omega) (by omega) ?_; conv => whnf)
      | (refine SeqReq.go hX ?_; conv => whnf)
      | (refine OptReq.mk rfl ?_; conv => whnf))
    refine CallReq.mk (L1 := []) (cloneT_fn r m _ h hs) hL ?_
    clear hL
    rintro v m2 L1 w hL hm2 ⟨cs2, rfl, ho⟩
    obtain ⟨k3, v0, v1, v2, v3, g3, n3, lo3, hi3, neg3, rfl⟩ := ho.form
    conv => whnf
    repeat (first
      | (refine BrReq.tt ?_; conv => whnf)
      | (refine BrReq.ff ?_; conv => whnf)
      | (refine LdReq.own1 hX rfl rfl 0 hL rfl rfl ?_; conv => whnf)
      | (refine LdReq.own1 hX rfl rfl 1 hL rfl rfl ?_; conv => whnf)
      | (refine LdReq.own1 hX rfl rfl 2 hL rfl rfl ?_; conv => whnf)
      | (refine LdReq.own1 hX rfl rfl 3 hL rfl rfl ?_; conv => whnf)
      | (refine LdReq.own1 hX rfl rfl 4 hL rfl rfl ?_; conv => whnf)
      | (refine LdReq.own1 hX rfl rfl 5 hL rfl rfl ?_; conv => whnf)
      | (refine LdReq.own1 hX rfl rfl 6 hL rfl rfl ?_; conv => whnf)
      | (refine LdReq.ownA hX rfl rfl 0 hL rfl rfl ?_; conv => whnf)
      | (refine LdReq.ownA hX rfl rfl 1 hL rfl rfl ?_; conv => whnf)
      | (refine LdReq.ownA hX rfl rfl 2 hL rfl rfl ?_; conv => whnf)
      | (refine LdReq.ownA hX rfl rfl 3 hL rfl rfl ?_; conv => whnf)
      | (refine LdReq.ownA hX rfl rfl 4 hL rfl rfl ?_; conv => whnf)
      | (refine LdReq.ownA hX rfl rfl 5 hL rfl rfl ?_; conv => whnf)
      | (refine LdReq.ownA hX rfl rfl 6 hL rfl rfl ?_; conv => whnf)
      | (refine StReq.own hX rfl 0 hL rfl rfl rfl rfl ?_; clear hL; intro w hL; conv => whnf)
      | (refine StReq.own hX rfl 1 hL rfl rfl rfl rfl ?_; clear hL; intro w hL; conv => whnf)
      | (refine StReq.own hX rfl 2 hL rfl rfl rfl rfl ?_; clear hL; intro w hL; conv => whnf)
      | (refine StReq.own hX rfl 3 hL rfl rfl rfl rfl ?_; clear hL; intro w hL; conv => whnf)
      | (refine StReq.own hX rfl 4 hL rfl rfl rfl rfl ?_; clear hL; intro w hL; conv => whnf)
      | (refine StReq.own hX rfl 5 hL rfl rfl rfl rfl ?_; clear hL; intro w hL; conv => whnf)
      | (refine StReq.own hX rfl 6 hL rfl rfl rfl rfl ?_; clear hL; intro w hL; conv => whnf)
      | (refine ArReq.i64 (by omega) (by omega) ?_; conv => whnf)
      | (refine SeqReq.go hX ?_; conv => whnf)
      | (refine OptReq.mk rfl ?_; conv => whnf))
    refine CallReq.mk (turn_fn r m2 _ L1 ho) hL ?_
    clear hL
    rintro v m3 L3 w hL hm3 ⟨cs3, rfl, ho⟩
    obtain ⟨m4, hL, hm4, hrep⟩ := ho.freeze hL
    obtain ⟨k4, x0, x1, x2, x3, A4, n4, c4, lo4, hi4, neg4, rfl⟩ := hrep.form
    conv => whnf
    repeat (first
      | (refine BrReq.tt ?_; conv => whnf)
      | (refine BrReq.ff ?_; conv => whnf)
      | (refine LdReq.own1 hX rfl rfl 0 hL rfl rfl ?_; conv => whnf)
      | (refine LdReq.own1 hX rfl rfl 1 hL rfl rfl ?_; conv => whnf)
      | (refine LdReq.own1 hX rfl rfl 2 hL rfl rfl ?_; conv => whnf)
      | (refine LdReq.own1 hX rfl rfl 3 hL rfl rfl ?_; conv => whnf)
      | (refine LdReq.own1 hX rfl rfl 4 hL rfl rfl ?_; conv => whnf)
      | (refine LdReq.own1 hX rfl rfl 5 hL rfl rfl ?_; conv => whnf)
      | (refine LdReq.own1 hX rfl rfl 6 hL rfl rfl ?_; conv => whnf)
      | (refine LdReq.ownA hX rfl rfl 0 hL rfl rfl ?_; conv => whnf)
      | (refine LdReq.ownA hX rfl rfl 1 hL rfl rfl ?_; conv => whnf)
      | (refine LdReq.ownA hX rfl rfl 2 hL rfl rfl ?_; conv => whnf)
      | (refine LdReq.ownA hX rfl rfl 3 hL rfl rfl ?_; conv => whnf)
      | (refine LdReq.ownA hX rfl rfl 4 hL rfl rfl ?_; conv => whnf)
      | (refine LdReq.ownA hX rfl rfl 5 hL rfl rfl ?_; conv => whnf)
      | (refine LdReq.ownA hX rfl rfl 6 hL rfl rfl ?_; conv => whnf)
      | (refine StReq.own hX rfl 0 hL rfl rfl rfl rfl ?_; clear hL; intro w hL; conv => whnf)
      | (refine StReq.own hX rfl 1 hL rfl rfl rfl rfl ?_; clear hL; intro w hL; conv => whnf)
      | (refine StReq.own hX rfl 2 hL rfl rfl rfl rfl ?_; clear hL; intro w hL; conv => whnf)
      | (refine StReq.own hX rfl 3 hL rfl rfl rfl rfl ?_; clear hL; intro w hL; conv => whnf)
      | (refine StReq.own hX rfl 4 hL rfl rfl rfl rfl ?_; clear hL; intro w hL; conv => whnf)
      | (refine StReq.own hX rfl 5 hL rfl rfl rfl rfl ?_; clear hL; intro w hL; conv => whnf)
      | (refine StReq.own hX rfl 6 hL rfl rfl rfl rfl ?_; clear hL; intro w hL; conv => whnf)
      | (refine ArReq.i64 (by omega) (by omega) ?_; conv => whnf)
      | (refine SeqReq.go hX ?_; conv => whnf)
      | (refine OptReq.mk rfl ?_; conv => whnf))
    exact RetReq.mk hL.drop.drop ⟨rfl, _, rfl, by rw [if_pos g]; exact hrep⟩
  · conv => whnf
    repeat (first
      | (refine BrReq.tt ?_; conv => whnf)
      | (refine BrReq.ff ?_; conv => whnf)
      | (refine LdReq.own1 hX rfl rfl 0 hL rfl rfl ?_; conv => whnf)
      | (refine LdReq.own1 hX rfl rfl 1 hL rfl rfl ?_; conv => whnf)
      | (refine LdReq.own1 hX rfl rfl 2 hL rfl rfl ?_; conv => whnf)
      | (refine LdReq.own1 hX rfl rfl 3 hL rfl rfl ?_; conv => whnf)
      | (refine LdReq.own1 hX rfl rfl 4 hL rfl rfl ?_; conv => whnf)
      | (refine LdReq.own1 hX rfl rfl 5 hL rfl rfl ?_; conv => whnf)
      | (refine LdReq.own1 hX rfl rfl 6 hL rfl rfl ?_; conv => whnf)
      | (refine LdReq.ownA hX rfl rfl 0 hL rfl rfl ?_; conv => whnf)
      | (refine LdReq.ownA hX rfl rfl 1 hL rfl rfl ?_; conv => whnf)
      | (refine LdReq.ownA hX rfl rfl 2 hL rfl rfl ?_; conv => whnf)
      | (refine LdReq.ownA hX rfl rfl 3 hL rfl rfl ?_; conv => whnf)
      | (refine LdReq.ownA hX rfl rfl 4 hL rfl rfl ?_; conv => whnf)
      | (refine LdReq.ownA hX rfl rfl 5 hL rfl rfl ?_; conv => whnf)
      | (refine LdReq.ownA hX rfl rfl 6 hL rfl rfl ?_; conv => whnf)
      | (refine StReq.own hX rfl 0 hL rfl rfl rfl rfl ?_; clear hL; intro w hL; conv => whnf)
      | (refine StReq.own hX rfl 1 hL rfl rfl rfl rfl ?_; clear hL; intro w hL; conv => whnf)
      | (refine StReq.own hX rfl 2 hL rfl rfl rfl rfl ?_; clear hL; intro w hL; conv => whnf)
      | (refine StReq.own hX rfl 3 hL rfl rfl rfl rfl ?_; clear hL; intro w hL; conv => whnf)
      | (refine StReq.own hX rfl 4 hL rfl rfl rfl rfl ?_; clear hL; intro w hL; conv => whnf)
      | (refine StReq.own hX rfl 5 hL rfl rfl rfl rfl ?_; clear hL; intro w hL; conv => whnf)
      | (refine StReq.own hX rfl 6 hL rfl rfl rfl rfl ?_; clear hL; intro w hL; conv => whnf)
      | (refine ArReq.i64 (by omega) (by omega) ?_; conv => whnf)
      | (refine SeqReq.go hX ?_; conv => whnf)
      | (refine OptReq.mk rfl ?_; conv => whnf))
    exact RetReq.mk hL.drop.drop ⟨rfl, _, rfl, by rw [if_neg (by rw [g]; simp)]; exact leaf_rep m 0 (by simp [inI])⟩

theorem rep_one {m : Mem} {cs : List Value} {r : Re} (h : RepRe m cs r) : ∀ u ∈ cs, u.oneCell' = true := by
  obtain ⟨k1, u0, u1, u2, u3, A1, n1, c1, lo1, hi1, neg1, rfl⟩ := h.form
  intro u hu
  simp only [reC, List.mem_cons, List.not_mem_nil, or_false] at hu
  rcases hu with rfl | rfl | rfl | rfl | rfl | rfl | rfl | rfl | rfl <;> rfl

set_option maxHeartbeats 2000000 in
theorem refTurn_fn (r : Re) : ∀ (m : Mem) (cs : List Value), RepRe m cs r → Small r → Fn0 Try.prog 19 [.agg (toArr cs)] m fun m' u => ∃ cs', u = .agg (toArr cs') ∧ RepRe m' cs' (turnR r) := by
  induction r using Re.ind with
  | h kd s0 s1 s2 s3 rs lo hi neg ih =>
    intro m cs h hsm
    obtain ⟨A, n, c, rfl, hs, hrng⟩ := h.open
    obtain ⟨hn, hc, hm⟩ := hs.lens
    have hmx : maxLen = 9223372036854775807 := rfl
    have he := hs.elem
    have hsub : rs.length ≤ 2000 ∧ ∀ p ∈ rs, Small p := by cases hsm; exact ⟨by assumption, by assumption⟩
    refine Fn.enter (N := 51) hX Try.func19 rfl rfl (by show _ ≤ _; simp) (fun w0 hL => ?_)
    conv => whnf
    refine NewReq.mk hL ?_
    clear hL
    intro b1 w hL
    conv => whnf
    refine NewReq.mk hL ?_
    clear hL
    intro b2 w hL
    conv => whnf
    conv => whnf
    repeat (first
      | (refine BrReq.tt ?_; conv => whnf)
      | (refine BrReq.ff ?_; conv => whnf)
      | (refine LdReq.own1 hX rfl rfl 0 hL rfl rfl ?_; conv => whnf)
      | (refine LdReq.own1 hX rfl rfl 1 hL rfl rfl ?_; conv => whnf)
      | (refine LdReq.own1 hX rfl rfl 2 hL rfl rfl ?_; conv => whnf)
      | (refine LdReq.own1 hX rfl rfl 3 hL rfl rfl ?_; conv => whnf)
      | (refine LdReq.own1 hX rfl rfl 4 hL rfl rfl ?_; conv => whnf)
      | (refine LdReq.own1 hX rfl rfl 5 hL rfl rfl ?_; conv => whnf)
      | (refine LdReq.own1 hX rfl rfl 6 hL rfl rfl ?_; conv => whnf)
      | (refine LdReq.ownA hX rfl rfl 0 hL rfl rfl ?_; conv => whnf)
      | (refine LdReq.ownA hX rfl rfl 1 hL rfl rfl ?_; conv => whnf)
      | (refine LdReq.ownA hX rfl rfl 2 hL rfl rfl ?_; conv => whnf)
      | (refine LdReq.ownA hX rfl rfl 3 hL rfl rfl ?_; conv => whnf)
      | (refine LdReq.ownA hX rfl rfl 4 hL rfl rfl ?_; conv => whnf)
      | (refine LdReq.ownA hX rfl rfl 5 hL rfl rfl ?_; conv => whnf)
      | (refine LdReq.ownA hX rfl rfl 6 hL rfl rfl ?_; conv => whnf)
      | (refine StReq.own hX rfl 0 hL rfl rfl rfl rfl ?_; clear hL; intro w hL; conv => whnf)
      | (refine StReq.own hX rfl 1 hL rfl rfl rfl rfl ?_; clear hL; intro w hL; conv => whnf)
      | (refine StReq.own hX rfl 2 hL rfl rfl rfl rfl ?_; clear hL; intro w hL; conv => whnf)
      | (refine StReq.own hX rfl 3 hL rfl rfl rfl rfl ?_; clear hL; intro w hL; conv => whnf)
      | (refine StReq.own hX rfl 4 hL rfl rfl rfl rfl ?_; clear hL; intro w hL; conv => whnf)
      | (refine StReq.own hX rfl 5 hL rfl rfl rfl rfl ?_; clear hL; intro w hL; conv => whnf)
      | (refine StReq.own hX rfl 6 hL rfl rfl rfl rfl ?_; clear hL; intro w hL; conv => whnf)
      | (refine ArReq.i64 (by omega) (by omega) ?_; conv => whnf)
      | (refine SeqReq.go hX ?_; conv => whnf)
      | (refine OptReq.mk rfl ?_; conv => whnf))
    refine NewReq.mk hL ?_
    clear hL
    intro b3 w hL
    conv => whnf
    conv => whnf
    repeat (first
      | (refine BrReq.tt ?_; conv => whnf)
      | (refine BrReq.ff ?_; conv => whnf)
      | (refine LdReq.own1 hX rfl rfl 0 hL rfl rfl ?_; conv => whnf)
      | (refine LdReq.own1 hX rfl rfl 1 hL rfl rfl ?_; conv => whnf)
      | (refine LdReq.own1 hX rfl rfl 2 hL rfl rfl ?_; conv => whnf)
      | (refine LdReq.own1 hX rfl rfl 3 hL rfl rfl ?_; conv => whnf)
      | (refine LdReq.own1 hX rfl rfl 4 hL rfl rfl ?_; conv => whnf)
      | (refine LdReq.own1 hX rfl rfl 5 hL rfl rfl ?_; conv => whnf)
      | (refine LdReq.own1 hX rfl rfl 6 hL rfl rfl ?_; conv => whnf)
      | (refine LdReq.ownA hX rfl rfl 0 hL rfl rfl ?_; conv => whnf)
      | (refine LdReq.ownA hX rfl rfl 1 hL rfl rfl ?_; conv => whnf)
      | (refine LdReq.ownA hX rfl rfl 2 hL rfl rfl ?_; conv => whnf)
      | (refine LdReq.ownA hX rfl rfl 3 hL rfl rfl ?_; conv => whnf)
      | (refine LdReq.ownA hX rfl rfl 4 hL rfl rfl ?_; conv => whnf)
      | (refine LdReq.ownA hX rfl rfl 5 hL rfl rfl ?_; conv => whnf)
      | (refine LdReq.ownA hX rfl rfl 6 hL rfl rfl ?_; conv => whnf)
      | (refine StReq.own hX rfl 0 hL rfl rfl rfl rfl ?_; clear hL; intro w hL; conv => whnf)
      | (refine StReq.own hX rfl 1 hL rfl rfl rfl rfl ?_; clear hL; intro w hL; conv => whnf)
      | (refine StReq.own hX rfl 2 hL rfl rfl rfl rfl ?_; clear hL; intro w hL; conv => whnf)
      | (refine StReq.own hX rfl 3 hL rfl rfl rfl rfl ?_; clear hL; intro w hL; conv => whnf)
      | (refine StReq.own hX rfl 4 hL rfl rfl rfl rfl ?_; clear hL; intro w hL; conv => whnf)
      | (refine StReq.own hX rfl 5 hL rfl rfl rfl rfl ?_; clear hL; intro w hL; conv => whnf)
      | (refine StReq.own hX rfl 6 hL rfl rfl rfl rfl ?_; clear hL; intro w hL; conv => whnf)
      | (refine ArReq.i64 (by omega) (by omega) ?_; conv => whnf)
      | (refine SeqReq.go hX ?_; conv => whnf)
      | (refine OptReq.mk rfl ?_; conv => whnf))
    refine LoopReq.inv hX (fun j : Nat => [(11, .int .i64 j)]) [1, 2, 3, 10]
      (fun j w => j ≤ n ∧ ∃ m1 A0 n0 c0 rows Lx, Mem.Le m m1 ∧ OwnS 27 9 (.slice A0 n0 c0) (List.flatten rows) Lx ∧ (∀ r ∈ rows, r.length = 9) ∧
        List.length rows = j ∧ (∀ (i : Nat) (x : Re), (if kd = 3 then ((rs.take j).map turnR).reverse else (rs.take j).map turnR)[i]? = some x → ∃ cs, rows[i]? = some cs ∧ RepRe m1 cs x) ∧
        Ev.Loc m [] w0 m1 ((b3, .cells (toArr (reC kd s0 s1 s2 s3 (.slice A0 n0 c0) lo hi neg)) 27 (0, 0)) :: (b2, .cells (toArr (reC 0 0 0 0 0 (.slice none 0 0) 0 0 false)) 27 (0, 0)) :: (b1, .cells (toArr (reC kd s0 s1 s2 s3 (.slice A n c) lo hi neg)) 27 (0, 0)) :: Lx) w) (fun j => n - j) 0
      ⟨by omega, m, none, 0, 0, [], [], Mem.Le.refl m, OwnS.nil _ _, fun r hr => by simp at hr, rfl, fun i x hx => by rw [List.take_zero] at hx; split at hx <;> simp at hx, hL⟩ ⟨rfl, trivial⟩ ?_
    clear hL
    rintro j w f ⟨hj, m1, A0, n0, c0, rows, Lx, hm1, hown, hrows, hlen, hdone, hL⟩
    conv => whnf
    repeat (first
      | (refine BrReq.tt ?_; conv => whnf)
      | (refine BrReq.ff ?_; conv => whnf)
      | (refine LdReq.own1 hX rfl rfl 0 hL rfl rfl ?_; conv => whnf)
      | (refine LdReq.own1 hX rfl rfl 1 hL rfl rfl ?_; conv => whnf)
      | (refine LdReq.own1 hX rfl rfl 2 hL rfl rfl ?_; conv => whnf)
      | (refine LdReq.own1 hX rfl rfl 3 hL rfl rfl ?_; conv => whnf)
      | (refine LdReq.own1 hX rfl rfl 4 hL rfl rfl ?_; conv => whnf)
      | (refine LdReq.own1 hX rfl rfl 5 hL rfl rfl ?_; conv => whnf)
      | (refine LdReq.own1 hX rfl rfl 6 hL rfl rfl ?_; conv => whnf)
      | (refine LdReq.ownA hX rfl rfl 0 hL rfl rfl ?_; conv => whnf)
      | (refine LdReq.ownA hX rfl rfl 1 hL rfl rfl ?_; conv => whnf)
      | (refine LdReq.ownA hX rfl rfl 2 hL rfl rfl ?_; conv => whnf)
      | (refine LdReq.ownA hX rfl rfl 3 hL rfl rfl ?_; conv => whnf)
      | (refine LdReq.ownA hX rfl rfl 4 hL rfl rfl ?_; conv => whnf)
      | (refine LdReq.ownA hX rfl rfl 5 hL rfl rfl ?_; conv => whnf)
      | (refine LdReq.ownA hX rfl rfl 6 hL rfl rfl ?_; conv => whnf)
      | (refine StReq.own hX rfl 0 hL rfl rfl rfl rfl ?_; clear hL; intro w hL; conv => whnf)
      | (refine StReq.own hX rfl 1 hL rfl rfl rfl rfl ?_; clear hL; intro w hL; conv => whnf)
      | (refine StReq.own hX rfl 2 hL rfl rfl rfl rfl ?_; clear hL; intro w hL; conv => whnf)
      | (refine StReq.own hX rfl 3 hL rfl rfl rfl rfl ?_; clear hL; intro w hL; conv => whnf)
      | (refine StReq.own hX rfl 4 hL rfl rfl rfl rfl ?_; clear hL; intro w hL; conv => whnf)
      | (refine StReq.own hX rfl 5 hL rfl rfl rfl rfl ?_; clear hL; intro w hL; conv => whnf)
      | (refine StReq.own hX rfl 6 hL rfl rfl rfl rfl ?_; clear hL; intro w hL; conv => whnf)
      | (refine ArReq.i64 (by omega) (by omega) ?_; conv => whnf)
      | (refine SeqReq.go hX ?_; conv => whnf)
      | (refine OptReq.mk rfl ?_; conv => whnf))
    refine BrReq.dec (fun hlt => ?_) (fun hlt => ?_)
    · have hlt' : j < rs.length := by omega
      obtain ⟨a, cs', rfl, hl9, hcells, hrep⟩ := he j _ (List.getElem?_eq_getElem hlt')
      obtain ⟨k1, u0, u1, u2, u3, A1, n1, c1, lo1, hi1, neg1, rfl⟩ := hrep.form
      conv => whnf
      repeat (first
        | (refine Idx2Req.mk j a rfl (by omega) rfl ?_; conv => whnf)
        | (refine LdReq.agg hX rfl rfl hL hl9 (hcells.le hm1) ?_; conv => whnf)
        | (refine BrReq.tt ?_; conv => whnf)
        | (refine BrReq.ff ?_; conv => whnf)
        | (refine LdReq.own1 hX rfl rfl 0 hL rfl rfl ?_; conv => whnf)
        | (refine LdReq.own1 hX rfl rfl 1 hL rfl rfl ?_; conv => whnf)
        | (refine LdReq.own1 hX rfl rfl 2 hL rfl rfl ?_; conv => whnf)
        | (refine LdReq.own1 hX rfl rfl 3 hL rfl rfl ?_; conv => whnf)
        | (refine LdReq.own1 hX rfl rfl 4 hL rfl rfl ?_; conv => whnf)
        | (refine LdReq.own1 hX rfl rfl 5 hL rfl rfl ?_; conv => whnf)
        | (refine LdReq.own1 hX rfl rfl 6 hL rfl rfl ?_; conv => whnf)
        | (refine LdReq.ownA hX rfl rfl 0 hL rfl rfl ?_; conv => whnf)
        | (refine LdReq.ownA hX rfl rfl 1 hL rfl rfl ?_; conv => whnf)
        | (refine LdReq.ownA hX rfl rfl 2 hL rfl rfl ?_; conv => whnf)
        | (refine LdReq.ownA hX rfl rfl 3 hL rfl rfl ?_; conv => whnf)
        | (refine LdReq.ownA hX rfl rfl 4 hL rfl rfl ?_; conv => whnf)
        | (refine LdReq.ownA hX rfl rfl 5 hL rfl rfl ?_; conv => whnf)
        | (refine LdReq.ownA hX rfl rfl 6 hL rfl rfl ?_; conv => whnf)
        | (refine StReq.own hX rfl 0 hL rfl rfl rfl rfl ?_; clear hL; intro w hL; conv => whnf)
        | (refine StReq.own hX rfl 1 hL rfl rfl rfl rfl ?_; clear hL; intro w hL; conv => whnf)
        | (refine StReq.own hX rfl 2 hL rfl rfl rfl rfl ?_; clear hL; intro w hL; conv => whnf)
        | (refine StReq.own hX rfl 3 hL rfl rfl rfl rfl ?_; clear hL; intro w hL; conv => whnf)
        | (refine StReq.own hX rfl 4 hL rfl rfl rfl rfl ?_; clear hL; intro w hL; conv => whnf)
        | (refine StReq.own hX rfl 5 hL rfl rfl rfl rfl ?_; clear hL; intro w hL; conv => whnf)
        | (refine StReq.own hX rfl 6 hL rfl rfl rfl rfl ?_; clear hL; intro w hL; conv => whnf)
        | (refine ArReq.i64 (by omega) (by omega) ?_; conv => whnf)
        | (refine SeqReq.go hX ?_; conv => whnf)
        | (refine OptReq.mk rfl ?_; conv => whnf))
      refine CallReq.mk (L1 := []) (ih _ (List.getElem_mem hlt') m1 _ (hrep.le hm1) (hsub.2 _ (List.getElem_mem hlt'))) hL ?_
      clear hL
      rintro v m2 L1 w hL hm2 ⟨rfl, cs3, rfl, hr3⟩
      obtain ⟨kk, v0, v1, v2, v3, A3, n3, c3, lo3, hi3, neg3, rfl⟩ := hr3.form
      have hL : Ev.Loc m [] w0 m2 (_ :: _ :: _ :: Lx) w := hL
      conv => whnf
      repeat (first
        | (refine BrReq.tt ?_; conv => whnf)
        | (refine BrReq.ff ?_; conv => whnf)
        | (refine LdReq.own1 hX rfl rfl 0 hL rfl rfl ?_; conv => whnf)
        | (refine LdReq.own1 hX rfl rfl 1 hL rfl rfl ?_; conv => whnf)
        | (refine LdReq.own1 hX rfl rfl 2 hL rfl rfl ?_; conv => whnf)
        | (refine LdReq.own1 hX rfl rfl 3 hL rfl rfl ?_; conv => whnf)
        | (refine LdReq.own1 hX rfl rfl 4 hL rfl rfl ?_; conv => whnf)
        | (refine LdReq.own1 hX rfl rfl 5 hL rfl rfl ?_; conv => whnf)
        | (refine LdReq.own1 hX rfl rfl 6 hL rfl rfl ?_; conv => whnf)
        | (refine LdReq.ownA hX rfl rfl 0 hL rfl rfl ?_; conv => whnf)
        | (refine LdReq.ownA hX rfl rfl 1 hL rfl rfl ?_; conv => whnf)
        | (refine LdReq.ownA hX rfl rfl 2 hL rfl rfl ?_; conv => whnf)
        | (refine LdReq.ownA hX rfl rfl 3 hL rfl rfl ?_; conv => whnf)
        | (refine LdReq.ownA hX rfl rfl 4 hL rfl rfl ?_; conv => whnf)
        | (refine LdReq.ownA hX rfl rfl 5 hL rfl rfl ?_; conv => whnf)
        | (refine LdReq.ownA hX rfl rfl 6 hL rfl rfl ?_; conv => whnf)
        | (refine StReq.own hX rfl 0 hL rfl rfl rfl rfl ?_; clear hL; intro w hL; conv => whnf)
        | (refine StReq.own hX rfl 1 hL rfl rfl rfl rfl ?_; clear hL; intro w hL; conv => whnf)
        | (refine StReq.own hX rfl 2 hL rfl rfl rfl rfl ?_; clear hL; intro w hL; conv => whnf)
        | (refine StReq.own hX rfl 3 hL rfl rfl rfl rfl ?_; clear hL; intro w hL; conv => whnf)
        | (refine StReq.own hX rfl 4 hL rfl rfl rfl rfl ?_; clear hL; intro w hL; conv => whnf)
        | (refine StReq.own hX rfl 5 hL rfl rfl rfl rfl ?_; clear hL; intro w hL; conv => whnf)
        | (refine StReq.own hX rfl 6 hL rfl rfl rfl rfl ?_; clear hL; intro w hL; conv => whnf)
        | (refine ArReq.i64 (by omega) (by omega) ?_; conv => whnf)
        | (refine SeqReq.go hX ?_; conv => whnf)
        | (refine OptReq.mk rfl ?_; conv => whnf))
      refine NewReq.mk hL ?_
      clear hL
      intro b5 w hL
      conv => whnf
      conv => whnf
      repeat (first
        | (refine BrReq.tt ?_; conv => whnf)
        | (refine BrReq.ff ?_; conv => whnf)
        | (refine LdReq.own1 hX rfl rfl 0 hL rfl rfl ?_; conv => whnf)
        | (refine LdReq.own1 hX rfl rfl 1 hL rfl rfl ?_; conv => whnf)
        | (refine LdReq.own1 hX rfl rfl 2 hL rfl rfl ?_; conv => whnf)
        | (refine LdReq.own1 hX rfl rfl 3 hL rfl rfl ?_; conv => whnf)
        | (refine LdReq.own1 hX rfl rfl 4 hL rfl rfl ?_; conv => whnf)
        | (refine LdReq.own1 hX rfl rfl 5 hL rfl rfl ?_; conv => whnf)
        | (refine LdReq.own1 hX rfl rfl 6 hL rfl rfl ?_; conv => whnf)
        | (refine LdReq.ownA hX rfl rfl 0 hL rfl rfl ?_; conv => whnf)
        | (refine LdReq.ownA hX rfl rfl 1 hL rfl rfl ?_; conv => whnf)
        | (refine LdReq.ownA hX rfl rfl 2 hL rfl rfl ?_; conv => whnf)
        | (refine LdReq.ownA hX rfl rfl 3 hL rfl rfl ?_; conv => whnf)
        | (refine LdReq.ownA hX rfl rfl 4 hL rfl rfl ?_; conv => whnf)
        | (refine LdReq.ownA hX rfl rfl 5 hL rfl rfl ?_; conv => whnf)
        | (refine LdReq.ownA hX rfl rfl 6 hL rfl rfl ?_; conv => whnf)
        | (refine StReq.own hX rfl 0 hL rfl rfl rfl rfl ?_; clear hL; intro w hL; conv => whnf)
        | (refine StReq.own hX rfl 1 hL rfl rfl rfl rfl ?_; clear hL; intro w hL; conv => whnf)
        | (refine StReq.own hX rfl 2 hL rfl rfl rfl rfl ?_; clear hL; intro w hL; conv => whnf)
        | (refine StReq.own hX rfl 3 hL rfl rfl rfl rfl ?_; clear hL; intro w hL; conv => whnf)
        | (refine StReq.own hX rfl 4 hL rfl rfl rfl rfl ?_; clear hL; intro w hL; conv => whnf)
        | (refine StReq.own hX rfl 5 hL rfl rfl rfl rfl ?_; clear hL; intro w hL; conv => whnf)
        | (refine StReq.own hX rfl 6 hL rfl rfl rfl rfl ?_; clear hL; intro w hL; conv => whnf)
        | (refine ArReq.i64 (by omega) (by omega) ?_; conv => whnf)
        | (refine SeqReq.go hX ?_; conv => whnf)
        | (refine OptReq.mk rfl ?_; conv => whnf))
      have hn0 : n0 = j := by
        obtain ⟨n', h1, h2⟩ := hown
        rw [flat_len rows hrows, hlen] at h1
        rcases h2 with ⟨h2, h3, _⟩ | ⟨g, cap, cur, h2, _⟩
        · cases h2; omega
        · cases h2; exact (Nat.eq_of_mul_eq_mul_right (by omega) h1).symm
      subst hn0
      have hll : ∀ l : List Re, l = (if kd = 3 then ((rs.take n0).map turnR).reverse else (rs.take n0).map turnR) → l.length = n0 := by
        intro l e; rw [e]; split <;> simp <;> omega
      have hone : ∀ u ∈ rows.flatten, u.oneCell' = true := by
        intro u hu
        obtain ⟨r, hr, hur⟩ := List.mem_flatten.1 hu
        obtain ⟨i, hi, rfl⟩ := List.getElem_of_mem hr
        obtain ⟨cs, e1, e2⟩ := hdone i _ (List.getElem?_eq_getElem (by rw [hll _ rfl]; omega))
        rw [List.getElem?_eq_getElem hi] at e1; cases e1
        exact rep_one e2 u hur
      have hflen := flat_len rows hrows
      have htk : (rs.take (n0 + 1)).map turnR = (rs.take n0).map turnR ++ [turnR rs[n0]] := by
        rw [List.take_succ_eq_append_getElem hlt', List.map_append]; rfl
      have hm13 : Mem.Le m m2 := hm1.trans hm2
      refine BrReq.dec (fun k3 => ?_) (fun k3 => ?_)
      · conv => whnf
        repeat (first
          | (refine BrReq.tt ?_; conv => whnf)
          | (refine BrReq.ff ?_; conv => whnf)
          | (refine LdReq.own1 hX rfl rfl 0 hL rfl rfl ?_; conv => whnf)
          | (refine LdReq.own1 hX rfl rfl 1 hL rfl rfl ?_; conv => whnf)
          | (refine LdReq.own1 hX rfl rfl 2 hL rfl rfl ?_; conv => whnf)
          | (refine LdReq.own1 hX rfl rfl 3 hL rfl rfl ?_; conv => whnf)
          | (refine LdReq.own1 hX rfl rfl 4 hL rfl rfl ?_; conv => whnf)
          | (refine LdReq.own1 hX rfl rfl 5 hL rfl rfl ?_; conv => whnf)
          | (refine LdReq.own1 hX rfl rfl 6 hL rfl rfl ?_; conv => whnf)
          | (refine LdReq.ownA hX rfl rfl 0 hL rfl rfl ?_; conv => whnf)
          | (refine LdReq.ownA hX rfl rfl 1 hL rfl rfl ?_; conv => whnf)
          | (refine LdReq.ownA hX rfl rfl 2 hL rfl rfl ?_; conv => whnf)
          | (refine LdReq.ownA hX rfl rfl 3 hL rfl rfl ?_; conv => whnf)
          | (refine LdReq.ownA hX rfl rfl 4 hL rfl rfl ?_; conv => whnf)
          | (refine LdReq.ownA hX rfl rfl 5 hL rfl rfl ?_; conv => whnf)
          | (refine LdReq.ownA hX rfl rfl 6 hL rfl rfl ?_; conv => whnf)
          | (refine StReq.own hX rfl 0 hL rfl rfl rfl rfl ?_; clear hL; intro w hL; conv => whnf)
          | (refine StReq.own hX rfl 1 hL rfl rfl rfl rfl ?_; clear hL; intro w hL; conv => whnf)
          | (refine StReq.own hX rfl 2 hL rfl rfl rfl rfl ?_; clear hL; intro w hL; conv => whnf)
          | (refine StReq.own hX rfl 3 hL rfl rfl rfl rfl ?_; clear hL; intro w hL; conv => whnf)
          | (refine StReq.own hX rfl 4 hL rfl rfl rfl rfl ?_; clear hL; intro w hL; conv => whnf)
          | (refine StReq.own hX rfl 5 hL rfl rfl rfl rfl ?_; clear hL; intro w hL; conv => whnf)
          | (refine StReq.own hX rfl 6 hL rfl rfl rfl rfl ?_; clear hL; intro w hL; conv => whnf)
          | (refine ArReq.i64 (by omega) (by omega) ?_; conv => whnf)
          | (refine SeqReq.go hX ?_; conv => whnf)
          | (refine OptReq.mk rfl ?_; conv => whnf))
        refine NewReq.mk hL ?_
        clear hL
        intro b6 w hL
        conv => whnf
        conv => whnf
        repeat (first
          | (refine BrReq.tt ?_; conv => whnf)
          | (refine BrReq.ff ?_; conv => whnf)
          | (refine LdReq.own1 hX rfl rfl 0 hL rfl rfl ?_; conv => whnf)
          | (refine LdReq.own1 hX rfl rfl 1 hL rfl rfl ?_; conv => whnf)
          | (refine LdReq.own1 hX rfl rfl 2 hL rfl rfl ?_; conv => whnf)
          | (refine LdReq.own1 hX rfl rfl 3 hL rfl rfl ?_; conv => whnf)
          | (refine LdReq.own1 hX rfl rfl 4 hL rfl rfl ?_; conv => whnf)
          | (refine LdReq.own1 hX rfl rfl 5 hL rfl rfl ?_; conv => whnf)
          | (refine LdReq.own1 hX rfl rfl 6 hL rfl rfl ?_; conv => whnf)
          | (refine LdReq.ownA hX rfl rfl 0 hL rfl rfl ?_; conv => whnf)
          | (refine LdReq.ownA hX rfl rfl 1 hL rfl rfl ?_; conv => whnf)
          | (refine LdReq.ownA hX rfl rfl 2 hL rfl rfl ?_; conv => whnf)
          | (refine LdReq.ownA hX rfl rfl 3 hL rfl rfl ?_; conv => whnf)
          | (refine LdReq.ownA hX rfl rfl 4 hL rfl rfl ?_; conv => whnf)
          | (refine LdReq.ownA hX rfl rfl 5 hL rfl rfl ?_; conv => whnf)
          | (refine LdReq.ownA hX rfl rfl 6 hL rfl rfl ?_; conv => whnf)
          | (refine StReq.own hX rfl 0 hL rfl rfl rfl rfl ?_; clear hL; intro w hL; conv => whnf)
          | (refine StReq.own hX rfl 1 hL rfl rfl rfl rfl ?_; clear hL; intro w hL; conv => whnf)
          | (refine StReq.own hX rfl 2 hL rfl rfl rfl rfl ?_; clear hL; intro w hL; conv => whnf)
          | (refine StReq.own hX rfl 3 hL rfl rfl rfl rfl ?_; clear hL; intro w hL; conv => whnf)
          | (refine StReq.own hX rfl 4 hL rfl rfl rfl rfl ?_; clear hL; intro w hL; conv => whnf)
          | (refine StReq.own hX rfl 5 hL rfl rfl rfl rfl ?_; clear hL; intro w hL; conv => whnf)
          | (refine StReq.own hX rfl 6 hL rfl rfl rfl rfl ?_; clear hL; intro w hL; conv => whnf)
          | (refine ArReq.i64 (by omega) (by omega) ?_; conv => whnf)
          | (refine SeqReq.go hX ?_; conv => whnf)
          | (refine OptReq.mk rfl ?_; conv => whnf))
        have hL : Ev.Loc m [] w0 m2 ([(b6, .cells (toArr (reC kk v0 v1 v2 v3 (.slice A3 n3 c3) lo3 hi3 neg3)) 27 (0, 0)), _, _, _, _] ++ Lx) w := hL
        have hd2 : ∀ (i : Nat) (x : Re), ((rs.take n0).map turnR).reverse[i]? = some x → ∃ cs, rows[i]? = some cs ∧ RepRe m2 cs x := by
          intro i x hx
          obtain ⟨cs, e1, e2⟩ := hdone i x (by rw [if_pos k3]; exact hx)
          exact ⟨cs, e1, e2.le hm2⟩
        obtain ⟨m3, A', c', ev, hL, hm3, hsl, hsrc⟩ := OwnS.freezeRows (size := 9) (l := ((rs.take n0).map turnR).reverse) (by omega) hown hL.back hrows (by simp; omega) hd2
        cases ev
        refine RunReq.append hX 25 27 rfl rfl rfl rfl rfl (L1 := [_]) (OwnS.full (n := 1) (cur := reC kk v0 v1 v2 v3 (.slice A3 n3 c3) lo3 hi3 neg3) (by omega) rfl) hL (news := rows.flatten) (by rw [hflen]) (fun j u hu => ?_) hone (by rw [hflen]; simp [reC]; omega) rfl ?_
        · obtain ⟨a, e1, e2⟩ := hsrc j u hu
          exact ⟨a, e1, hL.cell e2⟩
        clear hL
        intro A6 n6 c6 L6 w hn6 ho6 hL
        replace hL := hL.back
        have hL : Ev.Loc m [] w0 m3 (_ :: _ :: _ :: _ :: L6) w := hL
        have hrows' : ∀ r ∈ reC kk v0 v1 v2 v3 (.slice A3 n3 c3) lo3 hi3 neg3 :: rows, r.length = 9 := by
          intro r hr
          rcases List.mem_cons.1 hr with rfl | hr
          · rfl
          · exact hrows r hr
        have hdone' : ∀ (i : Nat) (x : Re), (if kd = 3 then ((rs.take (rows.length + 1)).map turnR).reverse else (rs.take (rows.length + 1)).map turnR)[i]? = some x → ∃ cs, (reC kk v0 v1 v2 v3 (.slice A3 n3 c3) lo3 hi3 neg3 :: rows)[i]? = some cs ∧ RepRe m3 cs x := by
          intro i x hx
          rw [if_pos k3, htk, List.reverse_append, List.reverse_singleton, List.singleton_append] at hx
          cases i with
          | zero => rw [List.getElem?_cons_zero] at hx; cases hx; exact ⟨_, rfl, hr3.le hm3⟩
          | succ i =>
            rw [List.getElem?_cons_succ] at hx
            obtain ⟨cs, e1, e2⟩ := hd2 i x hx
            exact ⟨cs, by rw [List.getElem?_cons_succ]; exact e1, e2.le hm3⟩
        conv => whnf
        repeat (first
          | (refine BrReq.tt ?_; conv => whnf)
          | (refine BrReq.ff ?_; conv => whnf)
          | (refine LdReq.own1 hX rfl rfl 0 hL rfl rfl ?_; conv => whnf)
          | (refine LdReq.own1 hX rfl rfl 1 hL rfl rfl ?_; conv => whnf)
          | (refine LdReq.own1 hX rfl rfl 2 hL rfl rfl ?_; conv => whnf)
          | (refine LdReq.own1 hX rfl rfl 3 hL rfl rfl ?_; conv => whnf)
          | (refine LdReq.own1 hX rfl rfl 4 hL rfl rfl ?_; conv => whnf)
          | (refine LdReq.own1 hX rfl rfl 5 hL rfl rfl ?_; conv => whnf)
          | (refine LdReq.own1 hX rfl rfl 6 hL rfl rfl ?_; conv => whnf)
          | (refine LdReq.ownA hX rfl rfl 0 hL rfl rfl ?_; conv => whnf)
          | (refine LdReq.ownA hX rfl rfl 1 hL rfl rfl ?_; conv => whnf)
          | (refine LdReq.ownA hX rfl rfl 2 hL rfl rfl ?_; conv => whnf)
          | (refine LdReq.ownA hX rfl rfl 3 hL rfl rfl ?_; conv => whnf)
          | (refine LdReq.ownA hX rfl rfl 4 hL rfl rfl ?_; conv => whnf)
          | (refine LdReq.ownA hX rfl rfl 5 hL rfl rfl ?_; conv => whnf)
          | (refine LdReq.ownA hX rfl rfl 6 hL rfl rfl ?_; conv => whnf)
          | (refine StReq.own hX rfl 0 hL rfl rfl rfl rfl ?_; clear hL; intro w hL; conv => whnf)
          | (refine StReq.own hX rfl 1 hL rfl rfl rfl rfl ?_; clear hL; intro w hL; conv => whnf)
          | (refine StReq.own hX rfl 2 hL rfl rfl rfl rfl ?_; clear hL; intro w hL; conv => whnf)
          | (refine StReq.own hX rfl 3 hL rfl rfl rfl rfl ?_; clear hL; intro w hL; conv => whnf)
          | (refine StReq.own hX rfl 4 hL rfl rfl rfl rfl ?_; clear hL; intro w hL; conv => whnf)
          | (refine StReq.own hX rfl 5 hL rfl rfl rfl rfl ?_; clear hL; intro w hL; conv => whnf)
          | (refine StReq.own hX rfl 6 hL rfl rfl rfl rfl ?_; clear hL; intro w hL; conv => whnf)
          | (refine ArReq.i64 (by omega) (by omega) ?_; conv => whnf)
          | (refine SeqReq.go hX ?_; conv => whnf)
          | (refine OptReq.mk rfl ?_; conv => whnf))
        have hL : Ev.Loc m [] w0 m3 (_ :: _ :: _ :: _ :: L6) w := hL
        refine ⟨rows.length + 1, ⟨by omega, m3, A6, n6, c6, reC kk v0 v1 v2 v3 (.slice A3 n3 c3) lo3 hi3 neg3 :: rows, L6, hm13.trans hm3, ho6, hrows', rfl, hdone', hL.drop⟩, by omega, ?_, ?_⟩
        · repeat (first | exact trivial | (refine And.intro (by (conv => lhs; whnf) <;> (conv => rhs; whnf) <;> (first | rfl)) ?_))
        · repeat (first | exact trivial | (refine And.intro (by (conv => lhs; whnf) <;> (conv => rhs; whnf) <;> (first | rfl)) ?_))
      · conv => whnf
        repeat (first
          | (refine BrReq.tt ?_; conv => whnf)
          | (refine BrReq.ff ?_; conv => whnf)
          | (refine LdReq.own1 hX rfl rfl 0 hL rfl rfl ?_; conv => whnf)
          | (refine LdReq.own1 hX rfl rfl 1 hL rfl rfl ?_; conv => whnf)
          | (refine LdReq.own1 hX rfl rfl 2 hL rfl rfl ?_; conv => whnf)
          | (refine LdReq.own1 hX rfl rfl 3 hL rfl rfl ?_; conv => whnf)
          | (refine LdReq.own1 hX rfl rfl 4 hL rfl rfl ?_; conv => whnf)
          | (refine LdReq.own1 hX rfl rfl 5 hL rfl rfl ?_; conv => whnf)
          | (refine LdReq.own1 hX rfl rfl 6 hL rfl rfl ?_; conv => whnf)
          | (refine LdReq.ownA hX rfl rfl 0 hL rfl rfl ?_; conv => whnf)
          | (refine LdReq.ownA hX rfl rfl 1 hL rfl rfl ?_; conv => whnf)
          | (refine LdReq.ownA hX rfl rfl 2 hL rfl rfl ?_; conv => whnf)
          | (refine LdReq.ownA hX rfl rfl 3 hL rfl rfl ?_; conv => whnf)
          | (refine LdReq.ownA hX rfl rfl 4 hL rfl rfl ?_; conv => whnf)
          | (refine LdReq.ownA hX rfl rfl 5 hL rfl rfl ?_; conv => whnf)
          | (refine LdReq.ownA hX rfl rfl 6 hL rfl rfl ?_; conv => whnf)
          | (refine StReq.own hX rfl 0 hL rfl rfl rfl rfl ?_; clear hL; intro w hL; conv => whnf)
          | (refine StReq.own hX rfl 1 hL rfl rfl rfl rfl ?_; clear hL; intro w hL; conv => whnf)
          | (refine StReq.own hX rfl 2 hL rfl rfl rfl rfl ?_; clear hL; intro w hL; conv => whnf)
          | (refine StReq.own hX rfl 3 hL rfl rfl rfl rfl ?_; clear hL; intro w hL; conv => whnf)
          | (refine StReq.own hX rfl 4 hL rfl rfl rfl rfl ?_; clear hL; intro w hL; conv => whnf)
          | (refine StReq.own hX rfl 5 hL rfl rfl rfl rfl ?_; clear hL; intro w hL; conv => whnf)
          | (refine StReq.own hX rfl 6 hL rfl rfl rfl rfl ?_; clear hL; intro w hL; conv => whnf)
          | (refine ArReq.i64 (by omega) (by omega) ?_; conv => whnf)
          | (refine SeqReq.go hX ?_; conv => whnf)
          | (refine OptReq.mk rfl ?_; conv => whnf))
        refine NewReq.mk hL ?_
        clear hL
        intro b6 w hL
        conv => whnf
        conv => whnf
        repeat (first
          | (refine BrReq.tt ?_; conv => whnf)
          | (refine BrReq.ff ?_; conv => whnf)
          | (refine LdReq.own1 hX rfl rfl 0 hL rfl rfl ?_; conv => whnf)
          | (refine LdReq.own1 hX rfl rfl 1 hL rfl rfl ?_; conv => whnf)
          | (refine LdReq.own1 hX rfl rfl 2 hL rfl rfl ?_; conv => whnf)
          | (refine LdReq.own1 hX rfl rfl 3 hL rfl rfl ?_; conv => whnf)
          | (refine LdReq.own1 hX rfl rfl 4 hL rfl rfl ?_; conv => whnf)
          | (refine LdReq.own1 hX rfl rfl 5 hL rfl rfl ?_; conv => whnf)
          | (refine LdReq.own1 hX rfl rfl 6 hL rfl rfl ?_; conv => whnf)
          | (refine LdReq.ownA hX rfl rfl 0 hL rfl rfl ?_; conv => whnf)
          | (refine LdReq.ownA hX rfl rfl 1 hL rfl rfl ?_; conv => whnf)
          | (refine LdReq.ownA hX rfl rfl 2 hL rfl rfl ?_; conv => whnf)
          | (refine LdReq.ownA hX rfl rfl 3 hL rfl rfl ?_; conv => whnf)
          | (refine LdReq.ownA hX rfl rfl 4 hL rfl rfl ?_; conv => whnf)
          | (refine LdReq.ownA hX rfl rfl 5 hL rfl rfl ?_; conv => whnf)
          | (refine LdReq.ownA hX rfl rfl 6 hL rfl rfl ?_; conv => whnf)
          | (refine StReq.own hX rfl 0 hL rfl rfl rfl rfl ?_; clear hL; intro w hL; conv => whnf)
          | (refine StReq.own hX rfl 1 hL rfl rfl rfl rfl ?_; clear hL; intro w hL; conv => whnf)
          | (refine StReq.own hX rfl 2 hL rfl rfl rfl rfl ?_; clear hL; intro w hL; conv => whnf)
          | (refine StReq.own hX rfl 3 hL rfl rfl rfl rfl ?_; clear hL; intro w hL; conv => whnf)
          | (refine StReq.own hX rfl 4 hL rfl rfl rfl rfl ?_; clear hL; intro w hL; conv => whnf)
          | (refine StReq.own hX rfl 5 hL rfl rfl rfl rfl ?_; clear hL; intro w hL; conv => whnf)
          | (refine StReq.own hX rfl 6 hL rfl rfl rfl rfl ?_; clear hL; intro w hL; conv => whnf)
          | (refine ArReq.i64 (by omega) (by omega) ?_; conv => whnf)
          | (refine SeqReq.go hX ?_; conv => whnf)
          | (refine OptReq.mk rfl ?_; conv => whnf))
        have hL : Ev.Loc m [] w0 m2 ([(b6, .cells (toArr (reC kk v0 v1 v2 v3 (.slice A3 n3 c3) lo3 hi3 neg3)) 27 (0, 0)), _, _, _, _] ++ Lx) w := hL
        refine RunReq.append hX 25 27 rfl rfl rfl rfl rfl hown hL.back (news := reC kk v0 v1 v2 v3 (.slice A3 n3 c3) lo3 hi3 neg3) rfl (hL.src 0 rfl) (rep_one hr3) (by rw [hflen]; simp [reC]; omega) rfl ?_
        clear hL
        intro A6 n6 c6 L6 w hn6 ho6 hL
        replace hL := hL.back
        have hL : Ev.Loc m [] w0 m2 (_ :: _ :: _ :: _ :: _ :: L6) w := hL
        have ef : rows.flatten ++ reC kk v0 v1 v2 v3 (.slice A3 n3 c3) lo3 hi3 neg3 = (rows ++ [reC kk v0 v1 v2 v3 (.slice A3 n3 c3) lo3 hi3 neg3]).flatten := by
          rw [List.flatten_append, List.flatten_cons, List.flatten_nil, List.append_nil]
        rw [ef] at ho6
        have hrows' : ∀ r ∈ rows ++ [reC kk v0 v1 v2 v3 (.slice A3 n3 c3) lo3 hi3 neg3], r.length = 9 := by
          intro r hr
          rcases List.mem_append.1 hr with hr | hr
          · exact hrows r hr
          · rw [List.mem_singleton] at hr; subst hr; rfl
        have hdone' : ∀ (i : Nat) (x : Re), (if kd = 3 then ((rs.take (n0 + 1)).map turnR).reverse else (rs.take (n0 + 1)).map turnR)[i]? = some x → ∃ cs, (rows ++ [reC kk v0 v1 v2 v3 (.slice A3 n3 c3) lo3 hi3 neg3])[i]? = some cs ∧ RepRe m2 cs x := by
          intro i x hx
          rw [if_neg k3, htk] at hx
          have hl : ((rs.take n0).map turnR).length = n0 := by simp; omega
          by_cases hi : i < n0
          · rw [List.getElem?_append_left (by omega)] at hx
            obtain ⟨cs, e1, e2⟩ := hdone i x (by rw [if_neg k3]; exact hx)
            exact ⟨cs, by rw [List.getElem?_append_left (by omega)]; exact e1, e2.le hm2⟩
          · rw [List.getElem?_append_right (by omega), hl] at hx
            have hi0 : i - n0 = 0 := by
              have := (List.getElem?_eq_some_iff.1 hx).1; simp at this; omega
            rw [hi0] at hx
            simp only [List.getElem?_cons_zero, Option.some.injEq] at hx
            subst hx
            refine ⟨_, ?_, hr3⟩
            rw [List.getElem?_append_right (by omega), hlen, hi0]; rfl
        conv => whnf
        repeat (first
          | (refine BrReq.tt ?_; conv => whnf)
          | (refine BrReq.ff ?_; conv => whnf)
          | (refine LdReq.own1 hX rfl rfl 0 hL rfl rfl ?_; conv => whnf)
          | (refine LdReq.own1 hX rfl rfl 1 hL rfl rfl ?_; conv => whnf)
          | (refine LdReq.own1 hX rfl rfl 2 hL rfl rfl ?_; conv => whnf)
          | (refine LdReq.own1 hX rfl rfl 3 hL rfl rfl ?_; conv => whnf)
          | (refine LdReq.own1 hX rfl rfl 4 hL rfl rfl ?_; conv => whnf)
          | (refine LdReq.own1 hX rfl rfl 5 hL rfl rfl ?_; conv => whnf)
          | (refine LdReq.own1 hX rfl rfl 6 hL rfl rfl ?_; conv => whnf)
          | (refine LdReq.ownA hX rfl rfl 0 hL rfl rfl ?_; conv => whnf)
          | (refine LdReq.ownA hX rfl rfl 1 hL rfl rfl ?_; conv => whnf)
          | (refine LdReq.ownA hX rfl rfl 2 hL rfl rfl ?_; conv => whnf)
          | (refine LdReq.ownA hX rfl rfl 3 hL rfl rfl ?_; conv => whnf)
          | (refine LdReq.ownA hX rfl rfl 4 hL rfl rfl ?_; conv => whnf)
          | (refine LdReq.ownA hX rfl rfl 5 hL rfl rfl ?_; conv => whnf)
          | (refine LdReq.ownA hX rfl rfl 6 hL rfl rfl ?_; conv => whnf)
          | (refine StReq.own hX rfl 0 hL rfl rfl rfl rfl ?_; clear hL; intro w hL; conv => whnf)
          | (refine StReq.own hX rfl 1 hL rfl rfl rfl rfl ?_; clear hL; intro w hL; conv => whnf)
          | (refine StReq.own hX rfl 2 hL rfl rfl rfl rfl ?_; clear hL; intro w hL; conv => whnf)
          | (refine StReq.own hX rfl 3 hL rfl rfl rfl rfl ?_; clear hL; intro w hL; conv => whnf)
          | (refine StReq.own hX rfl 4 hL rfl rfl rfl rfl ?_; clear hL; intro w hL; conv => whnf)
          | (refine StReq.own hX rfl 5 hL rfl rfl rfl rfl ?_; clear hL; intro w hL; conv => whnf)
          | (refine StReq.own hX rfl 6 hL rfl rfl rfl rfl ?_; clear hL; intro w hL; conv => whnf)
          | (refine ArReq.i64 (by omega) (by omega) ?_; conv => whnf)
          | (refine SeqReq.go hX ?_; conv => whnf)
          | (refine OptReq.mk rfl ?_; conv => whnf))
        have hL : Ev.Loc m [] w0 m2 (_ :: _ :: _ :: _ :: _ :: L6) w := hL
        refine ⟨n0 + 1, ⟨by omega, m2, A6, n6, c6, rows ++ [reC kk v0 v1 v2 v3 (.slice A3 n3 c3) lo3 hi3 neg3], L6, hm13, ho6, hrows', by rw [List.length_append, hlen]; rfl, hdone', hL.drop.drop⟩, by omega, ?_, ?_⟩
        · repeat (first | exact trivial | (refine And.intro (by (conv => lhs; whnf) <;> (conv => rhs; whnf) <;> (first | rfl)) ?_))
        · repeat (first | exact trivial | (refine And.intro (by (conv => lhs; whnf) <;> (conv => rhs; whnf) <;> (first | rfl)) ?_))
    have hjn : j = rs.length := by omega
    rw [hjn, List.take_length] at hdone
    obtain ⟨m3, A', c', ev, hL, hm3, hsl, -⟩ := OwnS.freezeRows (size := 9) (l := if kd = 3 then (rs.map turnR).reverse else rs.map turnR) (L2 := [_, _, _]) (by omega) hown (Ev.Loc.back (L1 := [_, _, _]) hL) hrows (by split <;> simp <;> omega) hdone
    cases ev
    have fin : RepRe m3 (reC (turnK kd) s0 s1 s2 s3 (.slice A0 rows.length c0) lo hi neg) (turnR (.mk kd s0 s1 s2 s3 rs lo hi neg)) := by
      rw [turnR_eq]
      exact RepRe.shut (hsl.le (Mem.Le.refl m3) fun cs x _ hx => hx.le hm3) ⟨by unfold turnK inI; have := hrng.1; unfold inI at this; repeat (split <;> try omega), hrng.2⟩
    conv => whnf
    repeat' (first
      | (refine BrReq.tt ?_; conv => whnf)
      | (refine BrReq.ff ?_; conv => whnf)
      | (refine LdReq.own1 hX rfl rfl 0 hL rfl rfl ?_; conv => whnf)
      | (refine LdReq.own1 hX rfl rfl 1 hL rfl rfl ?_; conv => whnf)
      | (refine LdReq.own1 hX rfl rfl 2 hL rfl rfl ?_; conv => whnf)
      | (refine LdReq.own1 hX rfl rfl 3 hL rfl rfl ?_; conv => whnf)
      | (refine LdReq.own1 hX rfl rfl 4 hL rfl rfl ?_; conv => whnf)
      | (refine LdReq.own1 hX rfl rfl 5 hL rfl rfl ?_; conv => whnf)
      | (refine LdReq.own1 hX rfl rfl 6 hL rfl rfl ?_; conv => whnf)
      | (refine LdReq.ownA hX rfl rfl 0 hL rfl rfl ?_; conv => whnf)
      | (refine LdReq.ownA hX rfl rfl 1 hL rfl rfl ?_; conv => whnf)
      | (refine LdReq.ownA hX rfl rfl 2 hL rfl rfl ?_; conv => whnf)
      | (refine LdReq.ownA hX rfl rfl 3 hL rfl rfl ?_; conv => whnf)
      | (refine LdReq.ownA hX rfl rfl 4 hL rfl rfl ?_; conv => whnf)
      | (refine LdReq.ownA hX rfl rfl 5 hL rfl rfl ?_; conv => whnf)
      | (refine LdReq.ownA hX rfl rfl 6 hL rfl rfl ?_; conv => whnf)
      | (refine StReq.own hX rfl 0 hL rfl rfl rfl rfl ?_; clear hL; intro w hL; conv => whnf)
      | (refine StReq.own hX rfl 1 hL rfl rfl rfl rfl ?_; clear hL; intro w hL; conv => whnf)
      | (refine StReq.own hX rfl 2 hL rfl rfl rfl rfl ?_; clear hL; intro w hL; conv => whnf)
      | (refine StReq.own hX rfl 3 hL rfl rfl rfl rfl ?_; clear hL; intro w hL; conv => whnf)
      | (refine StReq.own hX rfl 4 hL rfl rfl rfl rfl ?_; clear hL; intro w hL; conv => whnf)
      | (refine StReq.own hX rfl 5 hL rfl rfl rfl rfl ?_; clear hL; intro w hL; conv => whnf)
      | (refine StReq.own hX rfl 6 hL rfl rfl rfl rfl ?_; clear hL; intro w hL; conv => whnf)
      | (refine ArReq.i64 (by omega) (by omega) ?_; conv => whnf)
      | (refine SeqReq.go hX ?_; conv => whnf)
      | (refine BrReq.dec (fun _ => ?_) (fun _ => ?_) <;> (conv => whnf))
      | (refine BrReq.not ?_; refine BrReq.dec (fun _ => ?_) (fun _ => ?_) <;> (conv => whnf))
      | (refine BrReq.bool (fun _ => ?_) (fun _ => ?_) <;> (conv => whnf))
      | (refine OptReq.mk rfl ?_; conv => whnf))
    · have ek : turnK kd = 9 := by unfold turnK; rw [if_pos (by omega)]
      rw [ek] at fin
      exact RetReq.mk hL.drop.drop.drop ⟨rfl, _, rfl, fin⟩
    · have ek : turnK kd = 8 := by unfold turnK; rw [if_neg (by omega), if_pos (by omega)]
      rw [ek] at fin
      exact RetReq.mk hL.drop.drop.drop ⟨rfl, _, rfl, fin⟩
    · have ek : turnK kd = 11 := by unfold turnK; rw [if_neg (by omega), if_neg (by omega), if_pos (by omega)]
      rw [ek] at fin
      exact RetReq.mk hL.drop.drop.drop ⟨rfl, _, rfl, fin⟩
    · have ek : turnK kd = 10 := by unfold turnK; rw [if_neg (by omega), if_neg (by omega), if_neg (by omega), if_pos (by omega)]
      rw [ek] at fin
      exact RetReq.mk hL.drop.drop.drop ⟨rfl, _, rfl, fin⟩
    · have ek : turnK kd = kd := by unfold turnK; rw [if_neg (by omega), if_neg (by omega), if_neg (by omega), if_neg (by omega)]
      rw [ek] at fin
      exact RetReq.mk hL.drop.drop.drop ⟨rfl, _, rfl, fin⟩
end Go.Proofs.Ytmgfcckboncecaa.tree
