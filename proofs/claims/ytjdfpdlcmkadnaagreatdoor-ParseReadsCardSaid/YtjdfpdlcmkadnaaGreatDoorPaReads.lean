/- What a text is read as is read back: the walk. Conditions: the laid variables are what they are. -/
import Derived.Test.YtjdfpdlcmkadnaaGreatDoorPaSound
import Derived.Test.YtjdfpdlcmkadnaaGreatDoorPaNamed
import Derived.Test.YtjdfpdlcmkadnaaGreatDoorPrRefT
import Derived.Test.YtjdfpdlcmkadnaaGreatDoorTreePlains

namespace Go.Proofs.YtjdfpdlcmkadnaaGreatDoor.pa
open Go Go.Ev Go.Proofs Go.Proofs.YtjdfpdlcmkadnaaGreatDoor.lx Go.Proofs.YtjdfpdlcmkadnaaGreatDoor.tree
open Go.Proofs.YtjdfpdlcmkadnaaGreatDoor.pt (textR refT refText_fn near nodesR nodesL nodesL_mem good_plain)

set_option maxHeartbeats 2000000 in
theorem refOpen_fn (r : Re) : ∀ (m : Mem) (cs : List Value), RepRe m cs r → nodesR r ≤ 10000 → FnV Tryz.prog 10 [.agg (toArr cs)] m (.int .i64 (openR r : Nat)) := by
  induction r using Re.ind with
  | h kd s0 s1 s2 s3 rs lo hi neg ih =>
    intro m cs h hnd
    obtain ⟨A, n, c, rfl, hs, hk, -⟩ := h.open
    obtain ⟨hn, hc, hm⟩ := hs.lens
    have hmx : maxLen = 9223372036854775807 := rfl
    have hnl : nodesL rs ≤ 9999 := by simp only [nodesR] at hnd; omega
    have he := hs.elem
    refine Fn.enter (N := 32) hX Tryz.func10 rfl rfl (by show _ ≤ _; simp) (fun w0 hL => ?_)
    conv => whnf
    refine NewReq.mk hL ?_
    clear hL
    intro b1 w hL
    conv => whnf
    conv => whnf
    repeat ((first | refine BrReq.tt ?_ | refine BrReq.ff ?_ | (refine' zl hX rfl rfl hL ?_ ?_ ?_; rotate_left 4; (repeat first | exact .h | refine .t ?_); exact rfl) | (refine' zm hX rfl rfl hL ?_ ?_ ?_; rotate_left 3; (repeat first | exact .h | refine .t ?_); exact rfl) | (refine' zs hX rfl rfl rfl hL ?_ ?_ ?_; rotate_left 3; (repeat first | exact .h | apply Sets.t); exact rfl; clear hL; intro w hL) | refine ArReq.i64 (by omega) (by omega) ?_ | refine SeqReq.go hX ?_ | refine OptReq.mk rfl ?_); conv => whnf)
    refine LoopReq.inv hX (fun q : Nat × Nat => [(3, .int .i64 q.1), (8, .int .i64 q.2)]) [1, 7]
      (fun q w => (q.2 ≤ n ∧ q.1 ≤ 30000 ∧ openL (rs.drop q.2) q.1 = openL rs 0) ∧ Ev.Loc m [] w0 m [(b1, .cells (toArr (reC kd s0 s1 s2 s3 (.slice A n c) lo hi neg)) 28 (0, 0))] w) (fun q => n - q.2) (0, 0)
      ⟨⟨by simp, by simp, rfl⟩, hL⟩ ⟨rfl, rfl, trivial⟩ ?_
    clear hL
    rintro ⟨q, j⟩ w f ⟨⟨hj, hq, hop⟩, hL⟩
    simp only at hj hq hop
    conv => whnf
    repeat ((first | refine BrReq.tt ?_ | refine BrReq.ff ?_ | (refine' zl hX rfl rfl hL ?_ ?_ ?_; rotate_left 4; (repeat first | exact .h | refine .t ?_); exact rfl) | (refine' zm hX rfl rfl hL ?_ ?_ ?_; rotate_left 3; (repeat first | exact .h | refine .t ?_); exact rfl) | (refine' zs hX rfl rfl rfl hL ?_ ?_ ?_; rotate_left 3; (repeat first | exact .h | apply Sets.t); exact rfl; clear hL; intro w hL) | refine ArReq.i64 (by omega) (by omega) ?_ | refine SeqReq.go hX ?_ | refine OptReq.mk rfl ?_); conv => whnf)
    refine BrReq.dec (fun hlt => ?_) (fun hlt => ?_)
    · have hlt' : j < rs.length := by simp only at hlt; omega
      obtain ⟨a, cs', rfl, hl9, hcells, hrep⟩ := he j _ (List.getElem?_eq_getElem hlt')
      obtain ⟨k1, u0, u1, u2, u3, A1, n1, c1, lo1, hi1, neg1, rfl⟩ := hrep.form
      have hnm := nodesL_mem (List.getElem_mem hlt')
      have hon := open_nodes rs[j]
      rw [List.drop_eq_getElem_cons hlt', openL] at hop
      have ihj := ih _ (List.getElem_mem hlt') m _ hrep (by omega)
      conv => whnf
      repeat ((first | (refine Idx2Req.mk j a rfl (by simp only at hlt ⊢; omega) rfl ?_) | refine LdReq.agg hX rfl rfl hL hl9 hcells ?_ | refine BrReq.tt ?_ | refine BrReq.ff ?_ | (refine' zl hX rfl rfl hL ?_ ?_ ?_; rotate_left 4; (repeat first | exact .h | refine .t ?_); exact rfl) | (refine' zm hX rfl rfl hL ?_ ?_ ?_; rotate_left 3; (repeat first | exact .h | refine .t ?_); exact rfl) | (refine' zs hX rfl rfl rfl hL ?_ ?_ ?_; rotate_left 3; (repeat first | exact .h | apply Sets.t); exact rfl; clear hL; intro w hL) | refine ArReq.i64 (by omega) (by omega) ?_ | refine SeqReq.go hX ?_ | refine OptReq.mk rfl ?_); conv => whnf)
      refine CallReq.val ihj hL ?_
      clear hL
      intro w hL
      conv => whnf
      repeat ((first | refine BrReq.tt ?_ | refine BrReq.ff ?_ | (refine' zl hX rfl rfl hL ?_ ?_ ?_; rotate_left 4; (repeat first | exact .h | refine .t ?_); exact rfl) | (refine' zm hX rfl rfl hL ?_ ?_ ?_; rotate_left 3; (repeat first | exact .h | refine .t ?_); exact rfl) | (refine' zs hX rfl rfl rfl hL ?_ ?_ ?_; rotate_left 3; (repeat first | exact .h | apply Sets.t); exact rfl; clear hL; intro w hL) | refine ArReq.i64 (by omega) (by omega) ?_ | refine SeqReq.go hX ?_ | refine OptReq.mk rfl ?_); conv => whnf)
      refine ⟨(max q (openR rs[j] + 1), j + 1), ⟨⟨by simp only at hlt ⊢; omega, by simp only; omega, hop⟩, hL⟩, by first | omega | (simp only; omega), ?_, ?_⟩
      · repeat (first | exact trivial | (refine And.intro (by (conv => lhs; whnf) <;> (conv => rhs; whnf) <;> (first | rfl | (simp only; congr 1; omega))) ?_))
      · repeat (first | exact trivial | (refine And.intro (by (conv => lhs; whnf) <;> (conv => rhs; whnf) <;> (first | rfl | (simp only; congr 1; omega))) ?_))
    have hjn : j = rs.length := by simp only at hlt; omega
    subst hjn
    rw [List.drop_eq_nil_of_le (Nat.le_refl _), openL] at hop
    conv => whnf
    repeat ((first | refine BrReq.tt ?_ | refine BrReq.ff ?_ | (refine' zl hX rfl rfl hL ?_ ?_ ?_; rotate_left 4; (repeat first | exact .h | refine .t ?_); exact rfl) | (refine' zm hX rfl rfl hL ?_ ?_ ?_; rotate_left 3; (repeat first | exact .h | refine .t ?_); exact rfl) | (refine' zs hX rfl rfl rfl hL ?_ ?_ ?_; rotate_left 3; (repeat first | exact .h | apply Sets.t); exact rfl; clear hL; intro w hL) | refine ArReq.i64 (by omega) (by omega) ?_ | refine SeqReq.go hX ?_ | refine OptReq.mk rfl ?_); conv => whnf)
    refine BrReq.dec (fun h6 => ?_) (fun h6 => ?_)
    · conv => whnf
      repeat ((first | refine BrReq.tt ?_ | refine BrReq.ff ?_ | (refine' zl hX rfl rfl hL ?_ ?_ ?_; rotate_left 4; (repeat first | exact .h | refine .t ?_); exact rfl) | (refine' zm hX rfl rfl hL ?_ ?_ ?_; rotate_left 3; (repeat first | exact .h | refine .t ?_); exact rfl) | (refine' zs hX rfl rfl rfl hL ?_ ?_ ?_; rotate_left 3; (repeat first | exact .h | apply Sets.t); exact rfl; clear hL; intro w hL) | refine ArReq.i64 (by omega) (by omega) ?_ | refine SeqReq.go hX ?_ | refine OptReq.mk rfl ?_); conv => whnf)
      exact RetReq.mk hL.drop ⟨rfl, by rw [openR, if_pos (.inl h6), ← hop]; rfl⟩
    · conv => whnf
      repeat ((first | refine BrReq.tt ?_ | refine BrReq.ff ?_ | (refine' zl hX rfl rfl hL ?_ ?_ ?_; rotate_left 4; (repeat first | exact .h | refine .t ?_); exact rfl) | (refine' zm hX rfl rfl hL ?_ ?_ ?_; rotate_left 3; (repeat first | exact .h | refine .t ?_); exact rfl) | (refine' zs hX rfl rfl rfl hL ?_ ?_ ?_; rotate_left 3; (repeat first | exact .h | apply Sets.t); exact rfl; clear hL; intro w hL) | refine ArReq.i64 (by omega) (by omega) ?_ | refine SeqReq.go hX ?_ | refine OptReq.mk rfl ?_); conv => whnf)
      refine BrReq.dec (fun h1 => ?_) (fun h1 => ?_)
      · conv => whnf
        repeat ((first | refine BrReq.tt ?_ | refine BrReq.ff ?_ | (refine' zl hX rfl rfl hL ?_ ?_ ?_; rotate_left 4; (repeat first | exact .h | refine .t ?_); exact rfl) | (refine' zm hX rfl rfl hL ?_ ?_ ?_; rotate_left 3; (repeat first | exact .h | refine .t ?_); exact rfl) | (refine' zs hX rfl rfl rfl hL ?_ ?_ ?_; rotate_left 3; (repeat first | exact .h | apply Sets.t); exact rfl; clear hL; intro w hL) | refine ArReq.i64 (by omega) (by omega) ?_ | refine SeqReq.go hX ?_ | refine OptReq.mk rfl ?_); conv => whnf)
        exact RetReq.mk hL.drop ⟨rfl, by rw [openR, if_pos (.inr h1), ← hop]; rfl⟩
      · conv => whnf
        repeat ((first | refine BrReq.tt ?_ | refine BrReq.ff ?_ | (refine' zl hX rfl rfl hL ?_ ?_ ?_; rotate_left 4; (repeat first | exact .h | refine .t ?_); exact rfl) | (refine' zm hX rfl rfl hL ?_ ?_ ?_; rotate_left 3; (repeat first | exact .h | refine .t ?_); exact rfl) | (refine' zs hX rfl rfl rfl hL ?_ ?_ ?_; rotate_left 3; (repeat first | exact .h | apply Sets.t); exact rfl; clear hL; intro w hL) | refine ArReq.i64 (by omega) (by omega) ?_ | refine SeqReq.go hX ?_ | refine OptReq.mk rfl ?_); conv => whnf)
        exact RetReq.mk hL.drop ⟨rfl, by rw [openR, if_neg (by omega), ← hop]; rfl⟩

set_option maxHeartbeats 4000000 in
theorem reads (m : Mem) (hQ : LibMem m) (s : List UInt8) : FnV Tryz.prog 3 [.string (bs s)] m (.bool true) := by
  have hsz := bs_size s
  refine Fn.enter (N := 94) hX Tryz.func3 rfl rfl (by show _ ≤ _; simp) (fun w0 hL => ?_)
  conv => whnf
  conv => whnf
  repeat ((first | refine BrReq.tt ?_ | refine BrReq.ff ?_ | (refine' zl hX rfl rfl hL ?_ ?_ ?_; rotate_left 4; (repeat first | exact .h | refine .t ?_); exact rfl) | (refine' zm hX rfl rfl hL ?_ ?_ ?_; rotate_left 3; (repeat first | exact .h | refine .t ?_); exact rfl) | (refine' zs hX rfl rfl rfl hL ?_ ?_ ?_; rotate_left 3; (repeat first | exact .h | apply Sets.t); exact rfl; clear hL; intro w hL) | refine ArReq.i64 (by omega) (by omega) ?_ | refine SeqReq.go hX ?_ | refine OptReq.mk rfl ?_); conv => whnf)
  refine CallReq.val (awake_fn m hQ) hL ?_
  clear hL
  intro w hL
  conv => whnf
  repeat ((first | refine BrReq.tt ?_ | refine BrReq.ff ?_ | (refine' zl hX rfl rfl hL ?_ ?_ ?_; rotate_left 4; (repeat first | exact .h | refine .t ?_); exact rfl) | (refine' zm hX rfl rfl hL ?_ ?_ ?_; rotate_left 3; (repeat first | exact .h | refine .t ?_); exact rfl) | (refine' zs hX rfl rfl rfl hL ?_ ?_ ?_; rotate_left 3; (repeat first | exact .h | apply Sets.t); exact rfl; clear hL; intro w hL) | refine ArReq.i64 (by omega) (by omega) ?_ | refine SeqReq.go hX ?_ | refine OptReq.mk rfl ?_); conv => whnf)
  by_cases h2 : 2000 < s.length
  · conv => whnf
    repeat ((first | refine BrReq.yes (by omega) ?_ | refine BrReq.tt ?_ | refine BrReq.ff ?_ | (refine' zl hX rfl rfl hL ?_ ?_ ?_; rotate_left 4; (repeat first | exact .h | refine .t ?_); exact rfl) | (refine' zm hX rfl rfl hL ?_ ?_ ?_; rotate_left 3; (repeat first | exact .h | refine .t ?_); exact rfl) | (refine' zs hX rfl rfl rfl hL ?_ ?_ ?_; rotate_left 3; (repeat first | exact .h | apply Sets.t); exact rfl; clear hL; intro w hL) | refine ArReq.i64 (by omega) (by omega) ?_ | refine SeqReq.go hX ?_ | refine OptReq.mk rfl ?_); conv => whnf)
    refine CallReq.val (awake_fn m hQ) hL ?_
    clear hL
    intro w hL
    conv => whnf
    repeat ((first | refine BrReq.tt ?_ | refine BrReq.ff ?_ | (refine' zl hX rfl rfl hL ?_ ?_ ?_; rotate_left 4; (repeat first | exact .h | refine .t ?_); exact rfl) | (refine' zm hX rfl rfl hL ?_ ?_ ?_; rotate_left 3; (repeat first | exact .h | refine .t ?_); exact rfl) | (refine' zs hX rfl rfl rfl hL ?_ ?_ ?_; rotate_left 3; (repeat first | exact .h | apply Sets.t); exact rfl; clear hL; intro w hL) | refine ArReq.i64 (by omega) (by omega) ?_ | refine SeqReq.go hX ?_ | refine OptReq.mk rfl ?_); conv => whnf)
    exact RetReq.bool hL rfl
  conv => whnf
  repeat ((first | refine BrReq.no (by omega) ?_ | refine BrReq.tt ?_ | refine BrReq.ff ?_ | (refine' zl hX rfl rfl hL ?_ ?_ ?_; rotate_left 4; (repeat first | exact .h | refine .t ?_); exact rfl) | (refine' zm hX rfl rfl hL ?_ ?_ ?_; rotate_left 3; (repeat first | exact .h | refine .t ?_); exact rfl) | (refine' zs hX rfl rfl rfl hL ?_ ?_ ?_; rotate_left 3; (repeat first | exact .h | apply Sets.t); exact rfl; clear hL; intro w hL) | refine ArReq.i64 (by omega) (by omega) ?_ | refine SeqReq.go hX ?_ | refine OptReq.mk rfl ?_); conv => whnf)
  have hp := Parse_fn m hQ s (by omega) (.slice none 0 0) [] (Sl.nil _ _ _)
  have hbad := parse_bad s (by omega)
  have hgood := parse_good s
  generalize parseT s [] = Y at hp hbad hgood
  obtain ⟨r, at_, e⟩ := Y
  simp only at hp hbad hgood
  refine CallReq.pure hp hL ?_
  clear hL
  rintro u m1 w hL hm1 ⟨cs, rfl, hr⟩
  by_cases he : e = 0
  · subst he
    obtain ⟨hf, rfl, hpl⟩ := hgood rfl
    obtain ⟨k1, u0, u1, u2, u3, A1, n1, c1, lo1, hi1, neg1, rfl⟩ := hr.form
    have hfd := hf
    simp only [formedR, Bool.and_eq_true, decide_eq_true_eq] at hfd
    have hsm := (small_size r (by omega)).1
    have hns := nodes_size r (by omega)
    have hgd : pt.Good r := by have := good_plain r hfd.1.2; rwa [Pl.self r hpl] at this
    have hrd : Rd r := rd_of r m1 _ hr hpl hfd.1.2
    have hnear := near r
    refine NewReq.mk hL ?_
    clear hL
    intro b3 w hL
    conv => whnf
    conv => whnf
    repeat ((first | refine BrReq.tt ?_ | refine BrReq.ff ?_ | (refine' zl hX rfl rfl hL ?_ ?_ ?_; rotate_left 4; (repeat first | exact .h | refine .t ?_); exact rfl) | (refine' zm hX rfl rfl hL ?_ ?_ ?_; rotate_left 3; (repeat first | exact .h | refine .t ?_); exact rfl) | (refine' zs hX rfl rfl rfl hL ?_ ?_ ?_; rotate_left 3; (repeat first | exact .h | apply Sets.t); exact rfl; clear hL; intro w hL) | refine ArReq.i64 (by omega) (by omega) ?_ | refine SeqReq.go hX ?_ | refine OptReq.mk rfl ?_); conv => whnf)
    refine CallReq.val (refFormed_fn m1 r _ hr) hL ?_
    clear hL
    intro w hL
    rw [hf]
    conv => whnf
    repeat ((first | refine BrReq.tt ?_ | refine BrReq.ff ?_ | (refine' zl hX rfl rfl hL ?_ ?_ ?_; rotate_left 4; (repeat first | exact .h | refine .t ?_); exact rfl) | (refine' zm hX rfl rfl hL ?_ ?_ ?_; rotate_left 3; (repeat first | exact .h | refine .t ?_); exact rfl) | (refine' zs hX rfl rfl rfl hL ?_ ?_ ?_; rotate_left 3; (repeat first | exact .h | apply Sets.t); exact rfl; clear hL; intro w hL) | refine ArReq.i64 (by omega) (by omega) ?_ | refine SeqReq.go hX ?_ | refine OptReq.mk rfl ?_); conv => whnf)
    refine CallReq.pure (refPlain_fn r m1 _ hr hsm) hL ?_
    clear hL
    rintro v m2 w hL hm2 ⟨cs2, rfl, hr2⟩
    rw [Pl.self r hpl] at hr2
    obtain ⟨x1, y0, y1, y2, y3, A2, n2, c2, lo2, hi2, neg2, rfl⟩ := hr2.form
    refine NewReq.mk hL ?_
    clear hL
    intro b6 w hL
    conv => whnf
    conv => whnf
    repeat ((first | refine BrReq.tt ?_ | refine BrReq.ff ?_ | (refine' zl hX rfl rfl hL ?_ ?_ ?_; rotate_left 4; (repeat first | exact .h | refine .t ?_); exact rfl) | (refine' zm hX rfl rfl hL ?_ ?_ ?_; rotate_left 3; (repeat first | exact .h | refine .t ?_); exact rfl) | (refine' zs hX rfl rfl rfl hL ?_ ?_ ?_; rotate_left 3; (repeat first | exact .h | apply Sets.t); exact rfl; clear hL; intro w hL) | refine ArReq.i64 (by omega) (by omega) ?_ | refine SeqReq.go hX ?_ | refine OptReq.mk rfl ?_); conv => whnf)
    refine CallReq.val (refText_fn r m2 _ hr2 hgd (by omega)) hL ?_
    clear hL
    intro w hL
    have hsz2 := bs_size (refT r)
    by_cases hlen : 10000 < (refT r).length
    · conv => whnf
      repeat ((first | refine BrReq.yes (by omega) ?_ | refine BrReq.tt ?_ | refine BrReq.ff ?_ | (refine' zl hX rfl rfl hL ?_ ?_ ?_; rotate_left 4; (repeat first | exact .h | refine .t ?_); exact rfl) | (refine' zm hX rfl rfl hL ?_ ?_ ?_; rotate_left 3; (repeat first | exact .h | refine .t ?_); exact rfl) | (refine' zs hX rfl rfl rfl hL ?_ ?_ ?_; rotate_left 3; (repeat first | exact .h | apply Sets.t); exact rfl; clear hL; intro w hL) | refine ArReq.i64 (by omega) (by omega) ?_ | refine SeqReq.go hX ?_ | refine OptReq.mk rfl ?_); conv => whnf)
      exact RetReq.bool (hL.sublist (List.nil_sublist _)) rfl
    conv => whnf
    repeat ((first | refine BrReq.no (by omega) ?_ | refine BrReq.tt ?_ | refine BrReq.ff ?_ | (refine' zl hX rfl rfl hL ?_ ?_ ?_; rotate_left 4; (repeat first | exact .h | refine .t ?_); exact rfl) | (refine' zm hX rfl rfl hL ?_ ?_ ?_; rotate_left 3; (repeat first | exact .h | refine .t ?_); exact rfl) | (refine' zs hX rfl rfl rfl hL ?_ ?_ ?_; rotate_left 3; (repeat first | exact .h | apply Sets.t); exact rfl; clear hL; intro w hL) | refine ArReq.i64 (by omega) (by omega) ?_ | refine SeqReq.go hX ?_ | refine OptReq.mk rfl ?_); conv => whnf)
    refine CallReq.val (refOpen_fn r m2 _ hr2 (by omega)) hL ?_
    clear hL
    intro w hL
    by_cases hopn : 40 < openR r
    · conv => whnf
      repeat ((first | refine BrReq.yes (by omega) ?_ | refine BrReq.tt ?_ | refine BrReq.ff ?_ | (refine' zl hX rfl rfl hL ?_ ?_ ?_; rotate_left 4; (repeat first | exact .h | refine .t ?_); exact rfl) | (refine' zm hX rfl rfl hL ?_ ?_ ?_; rotate_left 3; (repeat first | exact .h | refine .t ?_); exact rfl) | (refine' zs hX rfl rfl rfl hL ?_ ?_ ?_; rotate_left 3; (repeat first | exact .h | apply Sets.t); exact rfl; clear hL; intro w hL) | refine ArReq.i64 (by omega) (by omega) ?_ | refine SeqReq.go hX ?_ | refine OptReq.mk rfl ?_); conv => whnf)
      exact RetReq.bool (hL.sublist (List.nil_sublist _)) rfl
    have ht : refT r = textR r := by
      rcases hnear with e | ⟨e, _⟩
      · exact e
      · omega
    have hp2 := Parse_fn m2 (libLe hm2 (libLe hm1 hQ)) (refT r) (by omega) (.slice none 0 0) [] (Sl.nil _ _ _)
    rw [show parseT (refT r) [] = (r, 0, 0) by rw [ht]; exact parse_back r hrd hf (by omega) (by rw [← ht]; omega)] at hp2
    simp only at hp2
    conv => whnf
    repeat ((first | refine BrReq.no (by omega) ?_ | refine BrReq.tt ?_ | refine BrReq.ff ?_ | (refine' zl hX rfl rfl hL ?_ ?_ ?_; rotate_left 4; (repeat first | exact .h | refine .t ?_); exact rfl) | (refine' zm hX rfl rfl hL ?_ ?_ ?_; rotate_left 3; (repeat first | exact .h | refine .t ?_); exact rfl) | (refine' zs hX rfl rfl rfl hL ?_ ?_ ?_; rotate_left 3; (repeat first | exact .h | apply Sets.t); exact rfl; clear hL; intro w hL) | refine ArReq.i64 (by omega) (by omega) ?_ | refine SeqReq.go hX ?_ | refine OptReq.mk rfl ?_); conv => whnf)
    refine CallReq.pure hp2 hL ?_
    clear hL
    rintro v m3 w hL hm3 ⟨cs3, rfl, hr3⟩
    obtain ⟨x6, v0, v1, v2, v3, A4, n4, c4, lo4, hi4, neg4, rfl⟩ := hr3.form
    refine NewReq.mk hL ?_
    clear hL
    intro b8 w hL
    conv => whnf
    have hr2 := hr2.le hm3
    conv => whnf
    repeat ((first | refine BrReq.tt ?_ | refine BrReq.ff ?_ | (refine' zl hX rfl rfl hL ?_ ?_ ?_; rotate_left 4; (repeat first | exact .h | refine .t ?_); exact rfl) | (refine' zm hX rfl rfl hL ?_ ?_ ?_; rotate_left 3; (repeat first | exact .h | refine .t ?_); exact rfl) | (refine' zs hX rfl rfl rfl hL ?_ ?_ ?_; rotate_left 3; (repeat first | exact .h | apply Sets.t); exact rfl; clear hL; intro w hL) | refine ArReq.i64 (by omega) (by omega) ?_ | refine SeqReq.go hX ?_ | refine OptReq.mk rfl ?_); conv => whnf)
    refine CallReq.val (refSame_fn 41 m3 r r _ _ hr3 hr2 (by omega)) hL ?_
    clear hL
    intro w hL
    conv => whnf
    repeat ((first | refine BrReq.tt ?_ | refine BrReq.ff ?_ | (refine' zl hX rfl rfl hL ?_ ?_ ?_; rotate_left 4; (repeat first | exact .h | refine .t ?_); exact rfl) | (refine' zm hX rfl rfl hL ?_ ?_ ?_; rotate_left 3; (repeat first | exact .h | refine .t ?_); exact rfl) | (refine' zs hX rfl rfl rfl hL ?_ ?_ ?_; rotate_left 3; (repeat first | exact .h | apply Sets.t); exact rfl; clear hL; intro w hL) | refine ArReq.i64 (by omega) (by omega) ?_ | refine SeqReq.go hX ?_ | refine OptReq.mk rfl ?_); conv => whnf)
    exact RetReq.bool (hL.sublist (List.nil_sublist _)) (sameR_refl 40 r hfd.1.1)
  · obtain ⟨rfl, ha, hee⟩ := hbad he
    obtain ⟨A1, n1, c1, ecs, hs, -⟩ := hr.open
    cases ecs
    have hn1 : n1 = 0 := hs.lens.1
    subst hn1
    refine NewReq.mk hL ?_
    clear hL
    intro b3 w hL
    conv => whnf
    rcases hee with rfl | rfl | rfl | rfl
    · conv => whnf
      repeat ((first | refine BrReq.yes (by omega) ?_ | refine BrReq.tt ?_ | refine BrReq.ff ?_ | (refine' zl hX rfl rfl hL ?_ ?_ ?_; rotate_left 4; (repeat first | exact .h | refine .t ?_); exact rfl) | (refine' zm hX rfl rfl hL ?_ ?_ ?_; rotate_left 3; (repeat first | exact .h | refine .t ?_); exact rfl) | (refine' zs hX rfl rfl rfl hL ?_ ?_ ?_; rotate_left 3; (repeat first | exact .h | apply Sets.t); exact rfl; clear hL; intro w hL) | refine ArReq.i64 (by omega) (by omega) ?_ | refine SeqReq.go hX ?_ | refine OptReq.mk rfl ?_); conv => whnf)
      exact RetReq.bool hL.drop rfl
    · conv => whnf
      repeat ((first | refine BrReq.yes (by omega) ?_ | refine BrReq.tt ?_ | refine BrReq.ff ?_ | (refine' zl hX rfl rfl hL ?_ ?_ ?_; rotate_left 4; (repeat first | exact .h | refine .t ?_); exact rfl) | (refine' zm hX rfl rfl hL ?_ ?_ ?_; rotate_left 3; (repeat first | exact .h | refine .t ?_); exact rfl) | (refine' zs hX rfl rfl rfl hL ?_ ?_ ?_; rotate_left 3; (repeat first | exact .h | apply Sets.t); exact rfl; clear hL; intro w hL) | refine ArReq.i64 (by omega) (by omega) ?_ | refine SeqReq.go hX ?_ | refine OptReq.mk rfl ?_); conv => whnf)
      exact RetReq.bool hL.drop rfl
    · conv => whnf
      repeat ((first | refine BrReq.yes (by omega) ?_ | refine BrReq.tt ?_ | refine BrReq.ff ?_ | (refine' zl hX rfl rfl hL ?_ ?_ ?_; rotate_left 4; (repeat first | exact .h | refine .t ?_); exact rfl) | (refine' zm hX rfl rfl hL ?_ ?_ ?_; rotate_left 3; (repeat first | exact .h | refine .t ?_); exact rfl) | (refine' zs hX rfl rfl rfl hL ?_ ?_ ?_; rotate_left 3; (repeat first | exact .h | apply Sets.t); exact rfl; clear hL; intro w hL) | refine ArReq.i64 (by omega) (by omega) ?_ | refine SeqReq.go hX ?_ | refine OptReq.mk rfl ?_); conv => whnf)
      exact RetReq.bool hL.drop rfl
    · conv => whnf
      repeat ((first | refine BrReq.yes (by omega) ?_ | refine BrReq.tt ?_ | refine BrReq.ff ?_ | (refine' zl hX rfl rfl hL ?_ ?_ ?_; rotate_left 4; (repeat first | exact .h | refine .t ?_); exact rfl) | (refine' zm hX rfl rfl hL ?_ ?_ ?_; rotate_left 3; (repeat first | exact .h | refine .t ?_); exact rfl) | (refine' zs hX rfl rfl rfl hL ?_ ?_ ?_; rotate_left 3; (repeat first | exact .h | apply Sets.t); exact rfl; clear hL; intro w hL) | refine ArReq.i64 (by omega) (by omega) ?_ | refine SeqReq.go hX ?_ | refine OptReq.mk rfl ?_); conv => whnf)
      exact RetReq.bool hL.drop rfl
end Go.Proofs.YtjdfpdlcmkadnaaGreatDoor.pa
