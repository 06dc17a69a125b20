/- The document's text of a plain pattern: the walk. Conditions: none. -/
import Derived.Test.YtjdfpdlcmkadnaaGreatDoorPrRef
import Derived.Test.YtjdfpdlcmkadnaaGreatDoorPrText

namespace Go.Proofs.YtjdfpdlcmkadnaaGreatDoor.pt
open Go Go.Ev Go.Proofs Go.Proofs.YtjdfpdlcmkadnaaGreatDoor.tree Go.Proofs.YtjdfpdlcmkadnaaGreatDoor.bd Go.Proofs.YtjdfpdlcmkadnaaGreatDoor.tabs

theorem refT_len (r : Re) : (refT r).length + 3 ≤ 2400 * nodesR r := by
  have h1 := text_len r
  rcases near r with e | ⟨_, h⟩
  · rw [e]; exact h1
  · omega
theorem preK_len (k : Int) : (preK k).length ≤ 1 := by unfold preK; split <;> simp
theorem sepK_len (k : Int) : (sepK k).length ≤ 1 := by unfold sepK; split <;> (try split) <;> simp



set_option maxHeartbeats 4000000 in
theorem refText_fn (r : Re) : ∀ (m : Mem) (cs : List Value), RepRe m cs r → Good r → nodesR r ≤ 10000 → FnV Tryz.prog 9 [.agg (toArr cs)] m (.string (bs (refT r))) := by
  induction r using Re.ind with
  | h kd s0 s1 s2 s3 rs lo hi neg ih =>
    intro m cs h hg hnd
    obtain ⟨A, n, c, rfl, hs, hk0, h0, h1, h2, h3, hlo, hhi⟩ := h.open
    obtain ⟨hn, hc, hm⟩ := hs.lens
    cases hg with
    | mk _ _ _ _ _ _ _ _ _ hk hk1 hk7 hp =>
    have hmx : maxLen = 9223372036854775807 := rfl
    have hnl : nodesL rs ≤ 9999 := by simp only [nodesR] at hnd; omega
    have hln := nodesL_len rs
    have ihj : ∀ p ∈ rs, ∀ (m : Mem) (cs : List Value), RepRe m cs p → FnV Tryz.prog 9 [.agg (toArr cs)] m (.string (bs (refT p))) :=
      fun p hm m cs h => ih p hm m cs h (hp p hm) (Nat.le_trans (nodesL_mem hm) (by omega))
    by_cases k1 : kd = 1
    · subst k1
      refine Fn.enter (N := 100) hX Tryz.func9 rfl rfl (by show _ ≤ _; simp) (fun w0 hL => ?_)
      conv => whnf
      refine NewReq.mk hL ?_
      clear hL
      intro b1 w hL
      conv => whnf
      conv => whnf
      repeat ((first | refine BrReq.tt ?_ | refine BrReq.ff ?_ | (refine' zl hX rfl rfl hL ?_ ?_ ?_; rotate_left 4; (repeat first | exact .h | refine .t ?_); exact rfl) | (refine' zm hX rfl rfl hL ?_ ?_ ?_; rotate_left 3; (repeat first | exact .h | refine .t ?_); exact rfl) | (refine' zs hX rfl rfl rfl hL ?_ ?_ ?_; rotate_left 3; (repeat first | exact .h | apply Sets.t); exact rfl; clear hL; intro w hL) | refine ArReq.i64 (by omega) (by omega) ?_ | refine SeqReq.go hX ?_ | refine OptReq.mk rfl ?_); conv => whnf)
      exact RetReq.mk hL.drop ⟨rfl, by rw [refT_eq]; rfl⟩
    by_cases k2 : kd = 2
    · subst k2
      refine Fn.enter (N := 100) hX Tryz.func9 rfl rfl (by show _ ≤ _; simp) (fun w0 hL => ?_)
      conv => whnf
      refine NewReq.mk hL ?_
      clear hL
      intro b1 w hL
      conv => whnf
      conv => whnf
      repeat ((first | refine BrReq.tt ?_ | refine BrReq.ff ?_ | (refine' zl hX rfl rfl hL ?_ ?_ ?_; rotate_left 4; (repeat first | exact .h | refine .t ?_); exact rfl) | (refine' zm hX rfl rfl hL ?_ ?_ ?_; rotate_left 3; (repeat first | exact .h | refine .t ?_); exact rfl) | (refine' zs hX rfl rfl rfl hL ?_ ?_ ?_; rotate_left 3; (repeat first | exact .h | apply Sets.t); exact rfl; clear hL; intro w hL) | refine ArReq.i64 (by omega) (by omega) ?_ | refine SeqReq.go hX ?_ | refine OptReq.mk rfl ?_); conv => whnf)
      refine CallReq.val (refClass_fn m s0 s1 s2 s3 h0 h1 h2 h3) hL ?_
      clear hL
      intro w hL
      conv => whnf
      repeat ((first | refine BrReq.tt ?_ | refine BrReq.ff ?_ | (refine' zl hX rfl rfl hL ?_ ?_ ?_; rotate_left 4; (repeat first | exact .h | refine .t ?_); exact rfl) | (refine' zm hX rfl rfl hL ?_ ?_ ?_; rotate_left 3; (repeat first | exact .h | refine .t ?_); exact rfl) | (refine' zs hX rfl rfl rfl hL ?_ ?_ ?_; rotate_left 3; (repeat first | exact .h | apply Sets.t); exact rfl; clear hL; intro w hL) | refine ArReq.i64 (by omega) (by omega) ?_ | refine SeqReq.go hX ?_ | refine OptReq.mk rfl ?_); conv => whnf)
      exact RetReq.mk hL.drop ⟨rfl, by rw [refT_eq]; rfl⟩
    by_cases k3 : kd = 3
    · subst k3
      refine Fn.enter (N := 100) hX Tryz.func9 rfl rfl (by show _ ≤ _; simp) (fun w0 hL => ?_)
      conv => whnf
      refine NewReq.mk hL ?_
      clear hL
      intro b1 w hL
      conv => whnf
      conv => whnf
      repeat ((first | refine BrReq.tt ?_ | refine BrReq.ff ?_ | (refine' zl hX rfl rfl hL ?_ ?_ ?_; rotate_left 4; (repeat first | exact .h | refine .t ?_); exact rfl) | (refine' zm hX rfl rfl hL ?_ ?_ ?_; rotate_left 3; (repeat first | exact .h | refine .t ?_); exact rfl) | (refine' zs hX rfl rfl rfl hL ?_ ?_ ?_; rotate_left 3; (repeat first | exact .h | apply Sets.t); exact rfl; clear hL; intro w hL) | refine ArReq.i64 (by omega) (by omega) ?_ | refine SeqReq.go hX ?_ | refine OptReq.mk rfl ?_); conv => whnf)
      refine LoopReq.inv hX (fun s : Nat × List UInt8 => [(4, .string (bs s.2)), (56, .int .i64 s.1)]) [1, 3, 55]
        (fun s w => s.1 ≤ n ∧ List.length s.2 ≤ 30000 ∧ loopT (sepK 3) ((rs.map refT).drop s.1) s.2 s.1 = loopT (sepK 3) (rs.map refT) (preK 3) 0 ∧ Ev.Loc m [] w0 m [(b1, .cells (toArr (reC 3 s0 s1 s2 s3 (.slice A n c) lo hi neg)) 28 (0, 0))] w) (fun s => n - s.1) (0, preK 3)
        ⟨by simp, by have := preK_len 3; simp only; omega, rfl, hL⟩ ⟨rfl, rfl, trivial⟩ ?_
      clear hL
      rintro ⟨j, out⟩ w f ⟨hj, hout, hlp, hL⟩
      simp only at hj hout hlp
      have hsl := sepK_len 3
      conv => whnf
      repeat ((first | refine BrReq.tt ?_ | refine BrReq.ff ?_ | (refine' zl hX rfl rfl hL ?_ ?_ ?_; rotate_left 4; (repeat first | exact .h | refine .t ?_); exact rfl) | (refine' zm hX rfl rfl hL ?_ ?_ ?_; rotate_left 3; (repeat first | exact .h | refine .t ?_); exact rfl) | (refine' zs hX rfl rfl rfl hL ?_ ?_ ?_; rotate_left 3; (repeat first | exact .h | apply Sets.t); exact rfl; clear hL; intro w hL) | refine ArReq.i64 (by omega) (by omega) ?_ | refine SeqReq.go hX ?_ | refine OptReq.mk rfl ?_); conv => whnf)
      refine BrReq.dec (fun hlt => ?_) (fun hlt => ?_)
      · have hlt' : j < rs.length := by simp only at hlt; omega
        obtain ⟨a, cs', ea, hl9, hcells, hr1⟩ := hs.elem j _ (List.getElem?_eq_getElem hlt')
        have ih1 := ihj _ (List.getElem_mem hlt') m _ hr1
        have hnd := nodesL_mem (List.getElem_mem hlt')
        have htl := refT_len rs[j]
        have hdr : (rs.map refT).drop j = refT rs[j] :: (rs.map refT).drop (j + 1) := by
          rw [List.drop_eq_getElem_cons (by simpa using hlt')]; simp
        rw [hdr, loopT] at hlp
        generalize rs[j] = x at hr1 ih1 htl hnd hlp
        obtain ⟨k1, u0, u1, u2, u3, A1, n1, c1, lo1, hi1, neg1, rfl⟩ := hr1.form
        conv => whnf
        repeat ((first | refine BrReq.tt ?_ | refine BrReq.ff ?_ | (refine' zl hX rfl rfl hL ?_ ?_ ?_; rotate_left 4; (repeat first | exact .h | refine .t ?_); exact rfl) | (refine' zm hX rfl rfl hL ?_ ?_ ?_; rotate_left 3; (repeat first | exact .h | refine .t ?_); exact rfl) | (refine' zs hX rfl rfl rfl hL ?_ ?_ ?_; rotate_left 3; (repeat first | exact .h | apply Sets.t); exact rfl; clear hL; intro w hL) | refine ArReq.i64 (by omega) (by omega) ?_ | refine SeqReq.go hX ?_ | refine OptReq.mk rfl ?_); conv => whnf)
        refine BrReq.dec (fun h0 => ?_) (fun h0 => ?_)
        · rw [show (if 0 < j then out ++ sepK 3 else out) = out ++ sepK 3 from if_pos (by omega)] at hlp
          have hol : (out ++ sepK 3).length ≤ 30001 := by rw [List.length_append]; omega
          conv => whnf
          repeat ((first | refine UGenReq.strB out (sepK 3) rfl rfl rfl rfl rfl (by omega) ?_ | (refine Idx2Req.mk j a rfl (by simp only at hlt ⊢; omega) ea ?_) | refine LdReq.agg hX rfl rfl hL hl9 hcells ?_ | refine BrReq.tt ?_ | refine BrReq.ff ?_ | (refine' zl hX rfl rfl hL ?_ ?_ ?_; rotate_left 4; (repeat first | exact .h | refine .t ?_); exact rfl) | (refine' zm hX rfl rfl hL ?_ ?_ ?_; rotate_left 3; (repeat first | exact .h | refine .t ?_); exact rfl) | (refine' zs hX rfl rfl rfl hL ?_ ?_ ?_; rotate_left 3; (repeat first | exact .h | apply Sets.t); exact rfl; clear hL; intro w hL) | refine ArReq.i64 (by omega) (by omega) ?_ | refine SeqReq.go hX ?_ | refine OptReq.mk rfl ?_); conv => whnf)
          generalize out ++ sepK 3 = o at hlp hol ⊢
          refine CallReq.val ih1 hL ?_
          clear hL
          intro w hL
          conv => whnf
          repeat ((first | (refine UGenReq.strB [40] (refT x) rfl rfl rfl rfl rfl (by simp only [List.length_cons, List.length_nil]; omega) ?_) | (refine UGenReq.strB ([40] ++ refT x) [41] rfl rfl rfl rfl rfl (by simp only [List.length_cons, List.length_nil, List.length_append]; omega) ?_) | (refine UGenReq.strB o (par (refT x)) rfl rfl rfl rfl rfl (by rw [par_len]; omega) ?_) | refine BrReq.tt ?_ | refine BrReq.ff ?_ | (refine' zl hX rfl rfl hL ?_ ?_ ?_; rotate_left 4; (repeat first | exact .h | refine .t ?_); exact rfl) | (refine' zm hX rfl rfl hL ?_ ?_ ?_; rotate_left 3; (repeat first | exact .h | refine .t ?_); exact rfl) | (refine' zs hX rfl rfl rfl hL ?_ ?_ ?_; rotate_left 3; (repeat first | exact .h | apply Sets.t); exact rfl; clear hL; intro w hL) | refine ArReq.i64 (by omega) (by omega) ?_ | refine SeqReq.go hX ?_ | refine OptReq.mk rfl ?_); conv => whnf)
          have hsz := bs_size (o ++ par (refT x))
          refine BrReq.dec (fun h3 => ?_) (fun h3 => ?_)
          · rw [if_pos (by omega)] at hlp
            conv => whnf
            repeat ((first | refine BrReq.tt ?_ | refine BrReq.ff ?_ | (refine' zl hX rfl rfl hL ?_ ?_ ?_; rotate_left 4; (repeat first | exact .h | refine .t ?_); exact rfl) | (refine' zm hX rfl rfl hL ?_ ?_ ?_; rotate_left 3; (repeat first | exact .h | refine .t ?_); exact rfl) | (refine' zs hX rfl rfl rfl hL ?_ ?_ ?_; rotate_left 3; (repeat first | exact .h | apply Sets.t); exact rfl; clear hL; intro w hL) | refine ArReq.i64 (by omega) (by omega) ?_ | refine SeqReq.go hX ?_ | refine OptReq.mk rfl ?_); conv => whnf)
            refine RetReq.mk hL.drop ⟨rfl, congrArg (fun t => Value.string (bs t)) ?_⟩
            rw [refT_eq]
            show _ = cutT 3 lo hi (loopT (sepK 3) (rs.map refT) (preK 3) 0)
            rw [← hlp]; rfl
          · rw [if_neg (by omega)] at hlp
            conv => whnf
            repeat ((first | refine BrReq.tt ?_ | refine BrReq.ff ?_ | (refine' zl hX rfl rfl hL ?_ ?_ ?_; rotate_left 4; (repeat first | exact .h | refine .t ?_); exact rfl) | (refine' zm hX rfl rfl hL ?_ ?_ ?_; rotate_left 3; (repeat first | exact .h | refine .t ?_); exact rfl) | (refine' zs hX rfl rfl rfl hL ?_ ?_ ?_; rotate_left 3; (repeat first | exact .h | apply Sets.t); exact rfl; clear hL; intro w hL) | refine ArReq.i64 (by omega) (by omega) ?_ | refine SeqReq.go hX ?_ | refine OptReq.mk rfl ?_); conv => whnf)
            refine ⟨(j + 1, o ++ par (refT x)), ⟨by simp only at hlt ⊢; omega, by simp only; omega, hlp, hL⟩, by first | omega | (simp only; omega), ?_, ?_⟩
            · repeat (first | exact trivial | (refine And.intro (by (conv => lhs; whnf) <;> (conv => rhs; whnf) <;> (first | rfl)) ?_))
            · repeat (first | exact trivial | (refine And.intro (by (conv => lhs; whnf) <;> (conv => rhs; whnf) <;> (first | rfl)) ?_))
        · rw [show (if 0 < j then out ++ sepK 3 else out) = out from if_neg (by omega)] at hlp
          have hol : out.length ≤ 30001 := by omega
          conv => whnf
          repeat ((first | (refine Idx2Req.mk j a rfl (by simp only at hlt ⊢; omega) ea ?_) | refine LdReq.agg hX rfl rfl hL hl9 hcells ?_ | refine BrReq.tt ?_ | refine BrReq.ff ?_ | (refine' zl hX rfl rfl hL ?_ ?_ ?_; rotate_left 4; (repeat first | exact .h | refine .t ?_); exact rfl) | (refine' zm hX rfl rfl hL ?_ ?_ ?_; rotate_left 3; (repeat first | exact .h | refine .t ?_); exact rfl) | (refine' zs hX rfl rfl rfl hL ?_ ?_ ?_; rotate_left 3; (repeat first | exact .h | apply Sets.t); exact rfl; clear hL; intro w hL) | refine ArReq.i64 (by omega) (by omega) ?_ | refine SeqReq.go hX ?_ | refine OptReq.mk rfl ?_); conv => whnf)
          generalize out = o at hlp hol ⊢
          refine CallReq.val ih1 hL ?_
          clear hL
          intro w hL
          conv => whnf
          repeat ((first | (refine UGenReq.strB [40] (refT x) rfl rfl rfl rfl rfl (by simp only [List.length_cons, List.length_nil]; omega) ?_) | (refine UGenReq.strB ([40] ++ refT x) [41] rfl rfl rfl rfl rfl (by simp only [List.length_cons, List.length_nil, List.length_append]; omega) ?_) | (refine UGenReq.strB o (par (refT x)) rfl rfl rfl rfl rfl (by rw [par_len]; omega) ?_) | refine BrReq.tt ?_ | refine BrReq.ff ?_ | (refine' zl hX rfl rfl hL ?_ ?_ ?_; rotate_left 4; (repeat first | exact .h | refine .t ?_); exact rfl) | (refine' zm hX rfl rfl hL ?_ ?_ ?_; rotate_left 3; (repeat first | exact .h | refine .t ?_); exact rfl) | (refine' zs hX rfl rfl rfl hL ?_ ?_ ?_; rotate_left 3; (repeat first | exact .h | apply Sets.t); exact rfl; clear hL; intro w hL) | refine ArReq.i64 (by omega) (by omega) ?_ | refine SeqReq.go hX ?_ | refine OptReq.mk rfl ?_); conv => whnf)
          have hsz := bs_size (o ++ par (refT x))
          refine BrReq.dec (fun h3 => ?_) (fun h3 => ?_)
          · rw [if_pos (by omega)] at hlp
            conv => whnf
            repeat ((first | refine BrReq.tt ?_ | refine BrReq.ff ?_ | (refine' zl hX rfl rfl hL ?_ ?_ ?_; rotate_left 4; (repeat first | exact .h | refine .t ?_); exact rfl) | (refine' zm hX rfl rfl hL ?_ ?_ ?_; rotate_left 3; (repeat first | exact .h | refine .t ?_); exact rfl) | (refine' zs hX rfl rfl rfl hL ?_ ?_ ?_; rotate_left 3; (repeat first | exact .h | apply Sets.t); exact rfl; clear hL; intro w hL) | refine ArReq.i64 (by omega) (by omega) ?_ | refine SeqReq.go hX ?_ | refine OptReq.mk rfl ?_); conv => whnf)
            refine RetReq.mk hL.drop ⟨rfl, congrArg (fun t => Value.string (bs t)) ?_⟩
            rw [refT_eq]
            show _ = cutT 3 lo hi (loopT (sepK 3) (rs.map refT) (preK 3) 0)
            rw [← hlp]; rfl
          · rw [if_neg (by omega)] at hlp
            conv => whnf
            repeat ((first | refine BrReq.tt ?_ | refine BrReq.ff ?_ | (refine' zl hX rfl rfl hL ?_ ?_ ?_; rotate_left 4; (repeat first | exact .h | refine .t ?_); exact rfl) | (refine' zm hX rfl rfl hL ?_ ?_ ?_; rotate_left 3; (repeat first | exact .h | refine .t ?_); exact rfl) | (refine' zs hX rfl rfl rfl hL ?_ ?_ ?_; rotate_left 3; (repeat first | exact .h | apply Sets.t); exact rfl; clear hL; intro w hL) | refine ArReq.i64 (by omega) (by omega) ?_ | refine SeqReq.go hX ?_ | refine OptReq.mk rfl ?_); conv => whnf)
            refine ⟨(j + 1, o ++ par (refT x)), ⟨by simp only at hlt ⊢; omega, by simp only; omega, hlp, hL⟩, by first | omega | (simp only; omega), ?_, ?_⟩
            · repeat (first | exact trivial | (refine And.intro (by (conv => lhs; whnf) <;> (conv => rhs; whnf) <;> (first | rfl)) ?_))
            · repeat (first | exact trivial | (refine And.intro (by (conv => lhs; whnf) <;> (conv => rhs; whnf) <;> (first | rfl)) ?_))
      have ej : j = rs.length := by simp only at hlt; omega
      subst ej
      rw [List.drop_eq_nil_of_le (by simp), loopT] at hlp
      have hre : refT (.mk 3 s0 s1 s2 s3 rs lo hi neg) = endT 3 lo hi out := by
        rw [refT_eq]
        show cutT 3 lo hi (loopT (sepK 3) (rs.map refT) (preK 3) 0) = _
        rw [← hlp]; rfl
      rw [hre]
      conv => whnf
      repeat ((first | refine BrReq.tt ?_ | refine BrReq.ff ?_ | (refine' zl hX rfl rfl hL ?_ ?_ ?_; rotate_left 4; (repeat first | exact .h | refine .t ?_); exact rfl) | (refine' zm hX rfl rfl hL ?_ ?_ ?_; rotate_left 3; (repeat first | exact .h | refine .t ?_); exact rfl) | (refine' zs hX rfl rfl rfl hL ?_ ?_ ?_; rotate_left 3; (repeat first | exact .h | apply Sets.t); exact rfl; clear hL; intro w hL) | refine ArReq.i64 (by omega) (by omega) ?_ | refine SeqReq.go hX ?_ | refine OptReq.mk rfl ?_); conv => whnf)
      exact RetReq.mk hL.drop ⟨rfl, rfl⟩
    by_cases k4 : kd = 4
    · subst k4
      refine Fn.enter (N := 100) hX Tryz.func9 rfl rfl (by show _ ≤ _; simp) (fun w0 hL => ?_)
      conv => whnf
      refine NewReq.mk hL ?_
      clear hL
      intro b1 w hL
      conv => whnf
      conv => whnf
      repeat ((first | refine BrReq.tt ?_ | refine BrReq.ff ?_ | (refine' zl hX rfl rfl hL ?_ ?_ ?_; rotate_left 4; (repeat first | exact .h | refine .t ?_); exact rfl) | (refine' zm hX rfl rfl hL ?_ ?_ ?_; rotate_left 3; (repeat first | exact .h | refine .t ?_); exact rfl) | (refine' zs hX rfl rfl rfl hL ?_ ?_ ?_; rotate_left 3; (repeat first | exact .h | apply Sets.t); exact rfl; clear hL; intro w hL) | refine ArReq.i64 (by omega) (by omega) ?_ | refine SeqReq.go hX ?_ | refine OptReq.mk rfl ?_); conv => whnf)
      refine LoopReq.inv hX (fun s : Nat × List UInt8 => [(4, .string (bs s.2)), (56, .int .i64 s.1)]) [1, 3, 55]
        (fun s w => s.1 ≤ n ∧ List.length s.2 ≤ 30000 ∧ loopT (sepK 4) ((rs.map refT).drop s.1) s.2 s.1 = loopT (sepK 4) (rs.map refT) (preK 4) 0 ∧ Ev.Loc m [] w0 m [(b1, .cells (toArr (reC 4 s0 s1 s2 s3 (.slice A n c) lo hi neg)) 28 (0, 0))] w) (fun s => n - s.1) (0, preK 4)
        ⟨by simp, by have := preK_len 4; simp only; omega, rfl, hL⟩ ⟨rfl, rfl, trivial⟩ ?_
      clear hL
      rintro ⟨j, out⟩ w f ⟨hj, hout, hlp, hL⟩
      simp only at hj hout hlp
      have hsl := sepK_len 4
      conv => whnf
      repeat ((first | refine BrReq.tt ?_ | refine BrReq.ff ?_ | (refine' zl hX rfl rfl hL ?_ ?_ ?_; rotate_left 4; (repeat first | exact .h | refine .t ?_); exact rfl) | (refine' zm hX rfl rfl hL ?_ ?_ ?_; rotate_left 3; (repeat first | exact .h | refine .t ?_); exact rfl) | (refine' zs hX rfl rfl rfl hL ?_ ?_ ?_; rotate_left 3; (repeat first | exact .h | apply Sets.t); exact rfl; clear hL; intro w hL) | refine ArReq.i64 (by omega) (by omega) ?_ | refine SeqReq.go hX ?_ | refine OptReq.mk rfl ?_); conv => whnf)
      refine BrReq.dec (fun hlt => ?_) (fun hlt => ?_)
      · have hlt' : j < rs.length := by simp only at hlt; omega
        obtain ⟨a, cs', ea, hl9, hcells, hr1⟩ := hs.elem j _ (List.getElem?_eq_getElem hlt')
        have ih1 := ihj _ (List.getElem_mem hlt') m _ hr1
        have hnd := nodesL_mem (List.getElem_mem hlt')
        have htl := refT_len rs[j]
        have hdr : (rs.map refT).drop j = refT rs[j] :: (rs.map refT).drop (j + 1) := by
          rw [List.drop_eq_getElem_cons (by simpa using hlt')]; simp
        rw [hdr, loopT] at hlp
        generalize rs[j] = x at hr1 ih1 htl hnd hlp
        obtain ⟨k1, u0, u1, u2, u3, A1, n1, c1, lo1, hi1, neg1, rfl⟩ := hr1.form
        conv => whnf
        repeat ((first | refine BrReq.tt ?_ | refine BrReq.ff ?_ | (refine' zl hX rfl rfl hL ?_ ?_ ?_; rotate_left 4; (repeat first | exact .h | refine .t ?_); exact rfl) | (refine' zm hX rfl rfl hL ?_ ?_ ?_; rotate_left 3; (repeat first | exact .h | refine .t ?_); exact rfl) | (refine' zs hX rfl rfl rfl hL ?_ ?_ ?_; rotate_left 3; (repeat first | exact .h | apply Sets.t); exact rfl; clear hL; intro w hL) | refine ArReq.i64 (by omega) (by omega) ?_ | refine SeqReq.go hX ?_ | refine OptReq.mk rfl ?_); conv => whnf)
        refine BrReq.dec (fun h0 => ?_) (fun h0 => ?_)
        · rw [show (if 0 < j then out ++ sepK 4 else out) = out ++ sepK 4 from if_pos (by omega)] at hlp
          have hol : (out ++ sepK 4).length ≤ 30001 := by rw [List.length_append]; omega
          conv => whnf
          repeat ((first | refine UGenReq.strB out (sepK 4) rfl rfl rfl rfl rfl (by omega) ?_ | (refine Idx2Req.mk j a rfl (by simp only at hlt ⊢; omega) ea ?_) | refine LdReq.agg hX rfl rfl hL hl9 hcells ?_ | refine BrReq.tt ?_ | refine BrReq.ff ?_ | (refine' zl hX rfl rfl hL ?_ ?_ ?_; rotate_left 4; (repeat first | exact .h | refine .t ?_); exact rfl) | (refine' zm hX rfl rfl hL ?_ ?_ ?_; rotate_left 3; (repeat first | exact .h | refine .t ?_); exact rfl) | (refine' zs hX rfl rfl rfl hL ?_ ?_ ?_; rotate_left 3; (repeat first | exact .h | apply Sets.t); exact rfl; clear hL; intro w hL) | refine ArReq.i64 (by omega) (by omega) ?_ | refine SeqReq.go hX ?_ | refine OptReq.mk rfl ?_); conv => whnf)
          generalize out ++ sepK 4 = o at hlp hol ⊢
          refine CallReq.val ih1 hL ?_
          clear hL
          intro w hL
          conv => whnf
          repeat ((first | (refine UGenReq.strB [40] (refT x) rfl rfl rfl rfl rfl (by simp only [List.length_cons, List.length_nil]; omega) ?_) | (refine UGenReq.strB ([40] ++ refT x) [41] rfl rfl rfl rfl rfl (by simp only [List.length_cons, List.length_nil, List.length_append]; omega) ?_) | (refine UGenReq.strB o (par (refT x)) rfl rfl rfl rfl rfl (by rw [par_len]; omega) ?_) | refine BrReq.tt ?_ | refine BrReq.ff ?_ | (refine' zl hX rfl rfl hL ?_ ?_ ?_; rotate_left 4; (repeat first | exact .h | refine .t ?_); exact rfl) | (refine' zm hX rfl rfl hL ?_ ?_ ?_; rotate_left 3; (repeat first | exact .h | refine .t ?_); exact rfl) | (refine' zs hX rfl rfl rfl hL ?_ ?_ ?_; rotate_left 3; (repeat first | exact .h | apply Sets.t); exact rfl; clear hL; intro w hL) | refine ArReq.i64 (by omega) (by omega) ?_ | refine SeqReq.go hX ?_ | refine OptReq.mk rfl ?_); conv => whnf)
          have hsz := bs_size (o ++ par (refT x))
          refine BrReq.dec (fun h3 => ?_) (fun h3 => ?_)
          · rw [if_pos (by omega)] at hlp
            conv => whnf
            repeat ((first | refine BrReq.tt ?_ | refine BrReq.ff ?_ | (refine' zl hX rfl rfl hL ?_ ?_ ?_; rotate_left 4; (repeat first | exact .h | refine .t ?_); exact rfl) | (refine' zm hX rfl rfl hL ?_ ?_ ?_; rotate_left 3; (repeat first | exact .h | refine .t ?_); exact rfl) | (refine' zs hX rfl rfl rfl hL ?_ ?_ ?_; rotate_left 3; (repeat first | exact .h | apply Sets.t); exact rfl; clear hL; intro w hL) | refine ArReq.i64 (by omega) (by omega) ?_ | refine SeqReq.go hX ?_ | refine OptReq.mk rfl ?_); conv => whnf)
            refine RetReq.mk hL.drop ⟨rfl, congrArg (fun t => Value.string (bs t)) ?_⟩
            rw [refT_eq]
            show _ = cutT 4 lo hi (loopT (sepK 4) (rs.map refT) (preK 4) 0)
            rw [← hlp]; rfl
          · rw [if_neg (by omega)] at hlp
            conv => whnf
            repeat ((first | refine BrReq.tt ?_ | refine BrReq.ff ?_ | (refine' zl hX rfl rfl hL ?_ ?_ ?_; rotate_left 4; (repeat first | exact .h | refine .t ?_); exact rfl) | (refine' zm hX rfl rfl hL ?_ ?_ ?_; rotate_left 3; (repeat first | exact .h | refine .t ?_); exact rfl) | (refine' zs hX rfl rfl rfl hL ?_ ?_ ?_; rotate_left 3; (repeat first | exact .h | apply Sets.t); exact rfl; clear hL; intro w hL) | refine ArReq.i64 (by omega) (by omega) ?_ | refine SeqReq.go hX ?_ | refine OptReq.mk rfl ?_); conv => whnf)
            refine ⟨(j + 1, o ++ par (refT x)), ⟨by simp only at hlt ⊢; omega, by simp only; omega, hlp, hL⟩, by first | omega | (simp only; omega), ?_, ?_⟩
            · repeat (first | exact trivial | (refine And.intro (by (conv => lhs; whnf) <;> (conv => rhs; whnf) <;> (first | rfl)) ?_))
            · repeat (first | exact trivial | (refine And.intro (by (conv => lhs; whnf) <;> (conv => rhs; whnf) <;> (first | rfl)) ?_))
        · rw [show (if 0 < j then out ++ sepK 4 else out) = out from if_neg (by omega)] at hlp
          have hol : out.length ≤ 30001 := by omega
          conv => whnf
          repeat ((first | (refine Idx2Req.mk j a rfl (by simp only at hlt ⊢; omega) ea ?_) | refine LdReq.agg hX rfl rfl hL hl9 hcells ?_ | refine BrReq.tt ?_ | refine BrReq.ff ?_ | (refine' zl hX rfl rfl hL ?_ ?_ ?_; rotate_left 4; (repeat first | exact .h | refine .t ?_); exact rfl) | (refine' zm hX rfl rfl hL ?_ ?_ ?_; rotate_left 3; (repeat first | exact .h | refine .t ?_); exact rfl) | (refine' zs hX rfl rfl rfl hL ?_ ?_ ?_; rotate_left 3; (repeat first | exact .h | apply Sets.t); exact rfl; clear hL; intro w hL) | refine ArReq.i64 (by omega) (by omega) ?_ | refine SeqReq.go hX ?_ | refine OptReq.mk rfl ?_); conv => whnf)
          generalize out = o at hlp hol ⊢
          refine CallReq.val ih1 hL ?_
          clear hL
          intro w hL
          conv => whnf
          repeat ((first | (refine UGenReq.strB [40] (refT x) rfl rfl rfl rfl rfl (by simp only [List.length_cons, List.length_nil]; omega) ?_) | (refine UGenReq.strB ([40] ++ refT x) [41] rfl rfl rfl rfl rfl (by simp only [List.length_cons, List.length_nil, List.length_append]; omega) ?_) | (refine UGenReq.strB o (par (refT x)) rfl rfl rfl rfl rfl (by rw [par_len]; omega) ?_) | refine BrReq.tt ?_ | refine BrReq.ff ?_ | (refine' zl hX rfl rfl hL ?_ ?_ ?_; rotate_left 4; (repeat first | exact .h | refine .t ?_); exact rfl) | (refine' zm hX rfl rfl hL ?_ ?_ ?_; rotate_left 3; (repeat first | exact .h | refine .t ?_); exact rfl) | (refine' zs hX rfl rfl rfl hL ?_ ?_ ?_; rotate_left 3; (repeat first | exact .h | apply Sets.t); exact rfl; clear hL; intro w hL) | refine ArReq.i64 (by omega) (by omega) ?_ | refine SeqReq.go hX ?_ | refine OptReq.mk rfl ?_); conv => whnf)
          have hsz := bs_size (o ++ par (refT x))
          refine BrReq.dec (fun h3 => ?_) (fun h3 => ?_)
          · rw [if_pos (by omega)] at hlp
            conv => whnf
            repeat ((first | refine BrReq.tt ?_ | refine BrReq.ff ?_ | (refine' zl hX rfl rfl hL ?_ ?_ ?_; rotate_left 4; (repeat first | exact .h | refine .t ?_); exact rfl) | (refine' zm hX rfl rfl hL ?_ ?_ ?_; rotate_left 3; (repeat first | exact .h | refine .t ?_); exact rfl) | (refine' zs hX rfl rfl rfl hL ?_ ?_ ?_; rotate_left 3; (repeat first | exact .h | apply Sets.t); exact rfl; clear hL; intro w hL) | refine ArReq.i64 (by omega) (by omega) ?_ | refine SeqReq.go hX ?_ | refine OptReq.mk rfl ?_); conv => whnf)
            refine RetReq.mk hL.drop ⟨rfl, congrArg (fun t => Value.string (bs t)) ?_⟩
            rw [refT_eq]
            show _ = cutT 4 lo hi (loopT (sepK 4) (rs.map refT) (preK 4) 0)
            rw [← hlp]; rfl
          · rw [if_neg (by omega)] at hlp
            conv => whnf
            repeat ((first | refine BrReq.tt ?_ | refine BrReq.ff ?_ | (refine' zl hX rfl rfl hL ?_ ?_ ?_; rotate_left 4; (repeat first | exact .h | refine .t ?_); exact rfl) | (refine' zm hX rfl rfl hL ?_ ?_ ?_; rotate_left 3; (repeat first | exact .h | refine .t ?_); exact rfl) | (refine' zs hX rfl rfl rfl hL ?_ ?_ ?_; rotate_left 3; (repeat first | exact .h | apply Sets.t); exact rfl; clear hL; intro w hL) | refine ArReq.i64 (by omega) (by omega) ?_ | refine SeqReq.go hX ?_ | refine OptReq.mk rfl ?_); conv => whnf)
            refine ⟨(j + 1, o ++ par (refT x)), ⟨by simp only at hlt ⊢; omega, by simp only; omega, hlp, hL⟩, by first | omega | (simp only; omega), ?_, ?_⟩
            · repeat (first | exact trivial | (refine And.intro (by (conv => lhs; whnf) <;> (conv => rhs; whnf) <;> (first | rfl)) ?_))
            · repeat (first | exact trivial | (refine And.intro (by (conv => lhs; whnf) <;> (conv => rhs; whnf) <;> (first | rfl)) ?_))
      have ej : j = rs.length := by simp only at hlt; omega
      subst ej
      rw [List.drop_eq_nil_of_le (by simp), loopT] at hlp
      have hre : refT (.mk 4 s0 s1 s2 s3 rs lo hi neg) = endT 4 lo hi out := by
        rw [refT_eq]
        show cutT 4 lo hi (loopT (sepK 4) (rs.map refT) (preK 4) 0) = _
        rw [← hlp]; rfl
      rw [hre]
      conv => whnf
      repeat ((first | refine BrReq.tt ?_ | refine BrReq.ff ?_ | (refine' zl hX rfl rfl hL ?_ ?_ ?_; rotate_left 4; (repeat first | exact .h | refine .t ?_); exact rfl) | (refine' zm hX rfl rfl hL ?_ ?_ ?_; rotate_left 3; (repeat first | exact .h | refine .t ?_); exact rfl) | (refine' zs hX rfl rfl rfl hL ?_ ?_ ?_; rotate_left 3; (repeat first | exact .h | apply Sets.t); exact rfl; clear hL; intro w hL) | refine ArReq.i64 (by omega) (by omega) ?_ | refine SeqReq.go hX ?_ | refine OptReq.mk rfl ?_); conv => whnf)
      exact RetReq.mk hL.drop ⟨rfl, rfl⟩
    by_cases k5 : kd = 5
    · subst k5
      refine Fn.enter (N := 100) hX Tryz.func9 rfl rfl (by show _ ≤ _; simp) (fun w0 hL => ?_)
      conv => whnf
      refine NewReq.mk hL ?_
      clear hL
      intro b1 w hL
      conv => whnf
      conv => whnf
      repeat ((first | refine BrReq.tt ?_ | refine BrReq.ff ?_ | (refine' zl hX rfl rfl hL ?_ ?_ ?_; rotate_left 4; (repeat first | exact .h | refine .t ?_); exact rfl) | (refine' zm hX rfl rfl hL ?_ ?_ ?_; rotate_left 3; (repeat first | exact .h | refine .t ?_); exact rfl) | (refine' zs hX rfl rfl rfl hL ?_ ?_ ?_; rotate_left 3; (repeat first | exact .h | apply Sets.t); exact rfl; clear hL; intro w hL) | refine ArReq.i64 (by omega) (by omega) ?_ | refine SeqReq.go hX ?_ | refine OptReq.mk rfl ?_); conv => whnf)
      refine LoopReq.inv hX (fun s : Nat × List UInt8 => [(4, .string (bs s.2)), (56, .int .i64 s.1)]) [1, 3, 55]
        (fun s w => s.1 ≤ n ∧ List.length s.2 ≤ 30000 ∧ loopT (sepK 5) ((rs.map refT).drop s.1) s.2 s.1 = loopT (sepK 5) (rs.map refT) (preK 5) 0 ∧ Ev.Loc m [] w0 m [(b1, .cells (toArr (reC 5 s0 s1 s2 s3 (.slice A n c) lo hi neg)) 28 (0, 0))] w) (fun s => n - s.1) (0, preK 5)
        ⟨by simp, by have := preK_len 5; simp only; omega, rfl, hL⟩ ⟨rfl, rfl, trivial⟩ ?_
      clear hL
      rintro ⟨j, out⟩ w f ⟨hj, hout, hlp, hL⟩
      simp only at hj hout hlp
      have hsl := sepK_len 5
      conv => whnf
      repeat ((first | refine BrReq.tt ?_ | refine BrReq.ff ?_ | (refine' zl hX rfl rfl hL ?_ ?_ ?_; rotate_left 4; (repeat first | exact .h | refine .t ?_); exact rfl) | (refine' zm hX rfl rfl hL ?_ ?_ ?_; rotate_left 3; (repeat first | exact .h | refine .t ?_); exact rfl) | (refine' zs hX rfl rfl rfl hL ?_ ?_ ?_; rotate_left 3; (repeat first | exact .h | apply Sets.t); exact rfl; clear hL; intro w hL) | refine ArReq.i64 (by omega) (by omega) ?_ | refine SeqReq.go hX ?_ | refine OptReq.mk rfl ?_); conv => whnf)
      refine BrReq.dec (fun hlt => ?_) (fun hlt => ?_)
      · have hlt' : j < rs.length := by simp only at hlt; omega
        obtain ⟨a, cs', ea, hl9, hcells, hr1⟩ := hs.elem j _ (List.getElem?_eq_getElem hlt')
        have ih1 := ihj _ (List.getElem_mem hlt') m _ hr1
        have hnd := nodesL_mem (List.getElem_mem hlt')
        have htl := refT_len rs[j]
        have hdr : (rs.map refT).drop j = refT rs[j] :: (rs.map refT).drop (j + 1) := by
          rw [List.drop_eq_getElem_cons (by simpa using hlt')]; simp
        rw [hdr, loopT] at hlp
        generalize rs[j] = x at hr1 ih1 htl hnd hlp
        obtain ⟨k1, u0, u1, u2, u3, A1, n1, c1, lo1, hi1, neg1, rfl⟩ := hr1.form
        conv => whnf
        repeat ((first | refine BrReq.tt ?_ | refine BrReq.ff ?_ | (refine' zl hX rfl rfl hL ?_ ?_ ?_; rotate_left 4; (repeat first | exact .h | refine .t ?_); exact rfl) | (refine' zm hX rfl rfl hL ?_ ?_ ?_; rotate_left 3; (repeat first | exact .h | refine .t ?_); exact rfl) | (refine' zs hX rfl rfl rfl hL ?_ ?_ ?_; rotate_left 3; (repeat first | exact .h | apply Sets.t); exact rfl; clear hL; intro w hL) | refine ArReq.i64 (by omega) (by omega) ?_ | refine SeqReq.go hX ?_ | refine OptReq.mk rfl ?_); conv => whnf)
        refine BrReq.dec (fun h0 => ?_) (fun h0 => ?_)
        · rw [show (if 0 < j then out ++ sepK 5 else out) = out ++ sepK 5 from if_pos (by omega)] at hlp
          have hol : (out ++ sepK 5).length ≤ 30001 := by rw [List.length_append]; omega
          conv => whnf
          repeat ((first | refine UGenReq.strB out (sepK 5) rfl rfl rfl rfl rfl (by omega) ?_ | (refine Idx2Req.mk j a rfl (by simp only at hlt ⊢; omega) ea ?_) | refine LdReq.agg hX rfl rfl hL hl9 hcells ?_ | refine BrReq.tt ?_ | refine BrReq.ff ?_ | (refine' zl hX rfl rfl hL ?_ ?_ ?_; rotate_left 4; (repeat first | exact .h | refine .t ?_); exact rfl) | (refine' zm hX rfl rfl hL ?_ ?_ ?_; rotate_left 3; (repeat first | exact .h | refine .t ?_); exact rfl) | (refine' zs hX rfl rfl rfl hL ?_ ?_ ?_; rotate_left 3; (repeat first | exact .h | apply Sets.t); exact rfl; clear hL; intro w hL) | refine ArReq.i64 (by omega) (by omega) ?_ | refine SeqReq.go hX ?_ | refine OptReq.mk rfl ?_); conv => whnf)
          generalize out ++ sepK 5 = o at hlp hol ⊢
          refine CallReq.val ih1 hL ?_
          clear hL
          intro w hL
          conv => whnf
          repeat ((first | (refine UGenReq.strB [40] (refT x) rfl rfl rfl rfl rfl (by simp only [List.length_cons, List.length_nil]; omega) ?_) | (refine UGenReq.strB ([40] ++ refT x) [41] rfl rfl rfl rfl rfl (by simp only [List.length_cons, List.length_nil, List.length_append]; omega) ?_) | (refine UGenReq.strB o (par (refT x)) rfl rfl rfl rfl rfl (by rw [par_len]; omega) ?_) | refine BrReq.tt ?_ | refine BrReq.ff ?_ | (refine' zl hX rfl rfl hL ?_ ?_ ?_; rotate_left 4; (repeat first | exact .h | refine .t ?_); exact rfl) | (refine' zm hX rfl rfl hL ?_ ?_ ?_; rotate_left 3; (repeat first | exact .h | refine .t ?_); exact rfl) | (refine' zs hX rfl rfl rfl hL ?_ ?_ ?_; rotate_left 3; (repeat first | exact .h | apply Sets.t); exact rfl; clear hL; intro w hL) | refine ArReq.i64 (by omega) (by omega) ?_ | refine SeqReq.go hX ?_ | refine OptReq.mk rfl ?_); conv => whnf)
          have hsz := bs_size (o ++ par (refT x))
          refine BrReq.dec (fun h3 => ?_) (fun h3 => ?_)
          · rw [if_pos (by omega)] at hlp
            conv => whnf
            repeat ((first | refine BrReq.tt ?_ | refine BrReq.ff ?_ | (refine' zl hX rfl rfl hL ?_ ?_ ?_; rotate_left 4; (repeat first | exact .h | refine .t ?_); exact rfl) | (refine' zm hX rfl rfl hL ?_ ?_ ?_; rotate_left 3; (repeat first | exact .h | refine .t ?_); exact rfl) | (refine' zs hX rfl rfl rfl hL ?_ ?_ ?_; rotate_left 3; (repeat first | exact .h | apply Sets.t); exact rfl; clear hL; intro w hL) | refine ArReq.i64 (by omega) (by omega) ?_ | refine SeqReq.go hX ?_ | refine OptReq.mk rfl ?_); conv => whnf)
            refine RetReq.mk hL.drop ⟨rfl, congrArg (fun t => Value.string (bs t)) ?_⟩
            rw [refT_eq]
            show _ = cutT 5 lo hi (loopT (sepK 5) (rs.map refT) (preK 5) 0)
            rw [← hlp]; rfl
          · rw [if_neg (by omega)] at hlp
            conv => whnf
            repeat ((first | refine BrReq.tt ?_ | refine BrReq.ff ?_ | (refine' zl hX rfl rfl hL ?_ ?_ ?_; rotate_left 4; (repeat first | exact .h | refine .t ?_); exact rfl) | (refine' zm hX rfl rfl hL ?_ ?_ ?_; rotate_left 3; (repeat first | exact .h | refine .t ?_); exact rfl) | (refine' zs hX rfl rfl rfl hL ?_ ?_ ?_; rotate_left 3; (repeat first | exact .h | apply Sets.t); exact rfl; clear hL; intro w hL) | refine ArReq.i64 (by omega) (by omega) ?_ | refine SeqReq.go hX ?_ | refine OptReq.mk rfl ?_); conv => whnf)
            refine ⟨(j + 1, o ++ par (refT x)), ⟨by simp only at hlt ⊢; omega, by simp only; omega, hlp, hL⟩, by first | omega | (simp only; omega), ?_, ?_⟩
            · repeat (first | exact trivial | (refine And.intro (by (conv => lhs; whnf) <;> (conv => rhs; whnf) <;> (first | rfl)) ?_))
            · repeat (first | exact trivial | (refine And.intro (by (conv => lhs; whnf) <;> (conv => rhs; whnf) <;> (first | rfl)) ?_))
        · rw [show (if 0 < j then out ++ sepK 5 else out) = out from if_neg (by omega)] at hlp
          have hol : out.length ≤ 30001 := by omega
          conv => whnf
          repeat ((first | (refine Idx2Req.mk j a rfl (by simp only at hlt ⊢; omega) ea ?_) | refine LdReq.agg hX rfl rfl hL hl9 hcells ?_ | refine BrReq.tt ?_ | refine BrReq.ff ?_ | (refine' zl hX rfl rfl hL ?_ ?_ ?_; rotate_left 4; (repeat first | exact .h | refine .t ?_); exact rfl) | (refine' zm hX rfl rfl hL ?_ ?_ ?_; rotate_left 3; (repeat first | exact .h | refine .t ?_); exact rfl) | (refine' zs hX rfl rfl rfl hL ?_ ?_ ?_; rotate_left 3; (repeat first | exact .h | apply Sets.t); exact rfl; clear hL; intro w hL) | refine ArReq.i64 (by omega) (by omega) ?_ | refine SeqReq.go hX ?_ | refine OptReq.mk rfl ?_); conv => whnf)
          generalize out = o at hlp hol ⊢
          refine CallReq.val ih1 hL ?_
          clear hL
          intro w hL
          conv => whnf
          repeat ((first | (refine UGenReq.strB [40] (refT x) rfl rfl rfl rfl rfl (by simp only [List.length_cons, List.length_nil]; omega) ?_) | (refine UGenReq.strB ([40] ++ refT x) [41] rfl rfl rfl rfl rfl (by simp only [List.length_cons, List.length_nil, List.length_append]; omega) ?_) | (refine UGenReq.strB o (par (refT x)) rfl rfl rfl rfl rfl (by rw [par_len]; omega) ?_) | refine BrReq.tt ?_ | refine BrReq.ff ?_ | (refine' zl hX rfl rfl hL ?_ ?_ ?_; rotate_left 4; (repeat first | exact .h | refine .t ?_); exact rfl) | (refine' zm hX rfl rfl hL ?_ ?_ ?_; rotate_left 3; (repeat first | exact .h | refine .t ?_); exact rfl) | (refine' zs hX rfl rfl rfl hL ?_ ?_ ?_; rotate_left 3; (repeat first | exact .h | apply Sets.t); exact rfl; clear hL; intro w hL) | refine ArReq.i64 (by omega) (by omega) ?_ | refine SeqReq.go hX ?_ | refine OptReq.mk rfl ?_); conv => whnf)
          have hsz := bs_size (o ++ par (refT x))
          refine BrReq.dec (fun h3 => ?_) (fun h3 => ?_)
          · rw [if_pos (by omega)] at hlp
            conv => whnf
            repeat ((first | refine BrReq.tt ?_ | refine BrReq.ff ?_ | (refine' zl hX rfl rfl hL ?_ ?_ ?_; rotate_left 4; (repeat first | exact .h | refine .t ?_); exact rfl) | (refine' zm hX rfl rfl hL ?_ ?_ ?_; rotate_left 3; (repeat first | exact .h | refine .t ?_); exact rfl) | (refine' zs hX rfl rfl rfl hL ?_ ?_ ?_; rotate_left 3; (repeat first | exact .h | apply Sets.t); exact rfl; clear hL; intro w hL) | refine ArReq.i64 (by omega) (by omega) ?_ | refine SeqReq.go hX ?_ | refine OptReq.mk rfl ?_); conv => whnf)
            refine RetReq.mk hL.drop ⟨rfl, congrArg (fun t => Value.string (bs t)) ?_⟩
            rw [refT_eq]
            show _ = cutT 5 lo hi (loopT (sepK 5) (rs.map refT) (preK 5) 0)
            rw [← hlp]; rfl
          · rw [if_neg (by omega)] at hlp
            conv => whnf
            repeat ((first | refine BrReq.tt ?_ | refine BrReq.ff ?_ | (refine' zl hX rfl rfl hL ?_ ?_ ?_; rotate_left 4; (repeat first | exact .h | refine .t ?_); exact rfl) | (refine' zm hX rfl rfl hL ?_ ?_ ?_; rotate_left 3; (repeat first | exact .h | refine .t ?_); exact rfl) | (refine' zs hX rfl rfl rfl hL ?_ ?_ ?_; rotate_left 3; (repeat first | exact .h | apply Sets.t); exact rfl; clear hL; intro w hL) | refine ArReq.i64 (by omega) (by omega) ?_ | refine SeqReq.go hX ?_ | refine OptReq.mk rfl ?_); conv => whnf)
            refine ⟨(j + 1, o ++ par (refT x)), ⟨by simp only at hlt ⊢; omega, by simp only; omega, hlp, hL⟩, by first | omega | (simp only; omega), ?_, ?_⟩
            · repeat (first | exact trivial | (refine And.intro (by (conv => lhs; whnf) <;> (conv => rhs; whnf) <;> (first | rfl)) ?_))
            · repeat (first | exact trivial | (refine And.intro (by (conv => lhs; whnf) <;> (conv => rhs; whnf) <;> (first | rfl)) ?_))
      have ej : j = rs.length := by simp only at hlt; omega
      subst ej
      rw [List.drop_eq_nil_of_le (by simp), loopT] at hlp
      have hre : refT (.mk 5 s0 s1 s2 s3 rs lo hi neg) = endT 5 lo hi out := by
        rw [refT_eq]
        show cutT 5 lo hi (loopT (sepK 5) (rs.map refT) (preK 5) 0) = _
        rw [← hlp]; rfl
      rw [hre]
      conv => whnf
      repeat ((first | refine BrReq.tt ?_ | refine BrReq.ff ?_ | (refine' zl hX rfl rfl hL ?_ ?_ ?_; rotate_left 4; (repeat first | exact .h | refine .t ?_); exact rfl) | (refine' zm hX rfl rfl hL ?_ ?_ ?_; rotate_left 3; (repeat first | exact .h | refine .t ?_); exact rfl) | (refine' zs hX rfl rfl rfl hL ?_ ?_ ?_; rotate_left 3; (repeat first | exact .h | apply Sets.t); exact rfl; clear hL; intro w hL) | refine ArReq.i64 (by omega) (by omega) ?_ | refine SeqReq.go hX ?_ | refine OptReq.mk rfl ?_); conv => whnf)
      exact RetReq.mk hL.drop ⟨rfl, rfl⟩
    by_cases k6 : kd = 6
    · subst k6
      refine Fn.enter (N := 100) hX Tryz.func9 rfl rfl (by show _ ≤ _; simp) (fun w0 hL => ?_)
      conv => whnf
      refine NewReq.mk hL ?_
      clear hL
      intro b1 w hL
      conv => whnf
      conv => whnf
      repeat ((first | refine BrReq.tt ?_ | refine BrReq.ff ?_ | (refine' zl hX rfl rfl hL ?_ ?_ ?_; rotate_left 4; (repeat first | exact .h | refine .t ?_); exact rfl) | (refine' zm hX rfl rfl hL ?_ ?_ ?_; rotate_left 3; (repeat first | exact .h | refine .t ?_); exact rfl) | (refine' zs hX rfl rfl rfl hL ?_ ?_ ?_; rotate_left 3; (repeat first | exact .h | apply Sets.t); exact rfl; clear hL; intro w hL) | refine ArReq.i64 (by omega) (by omega) ?_ | refine SeqReq.go hX ?_ | refine OptReq.mk rfl ?_); conv => whnf)
      refine LoopReq.inv hX (fun s : Nat × List UInt8 => [(4, .string (bs s.2)), (56, .int .i64 s.1)]) [1, 3, 55]
        (fun s w => s.1 ≤ n ∧ List.length s.2 ≤ 30000 ∧ loopT (sepK 6) ((rs.map refT).drop s.1) s.2 s.1 = loopT (sepK 6) (rs.map refT) (preK 6) 0 ∧ Ev.Loc m [] w0 m [(b1, .cells (toArr (reC 6 s0 s1 s2 s3 (.slice A n c) lo hi neg)) 28 (0, 0))] w) (fun s => n - s.1) (0, preK 6)
        ⟨by simp, by have := preK_len 6; simp only; omega, rfl, hL⟩ ⟨rfl, rfl, trivial⟩ ?_
      clear hL
      rintro ⟨j, out⟩ w f ⟨hj, hout, hlp, hL⟩
      simp only at hj hout hlp
      have hsl := sepK_len 6
      conv => whnf
      repeat ((first | refine BrReq.tt ?_ | refine BrReq.ff ?_ | (refine' zl hX rfl rfl hL ?_ ?_ ?_; rotate_left 4; (repeat first | exact .h | refine .t ?_); exact rfl) | (refine' zm hX rfl rfl hL ?_ ?_ ?_; rotate_left 3; (repeat first | exact .h | refine .t ?_); exact rfl) | (refine' zs hX rfl rfl rfl hL ?_ ?_ ?_; rotate_left 3; (repeat first | exact .h | apply Sets.t); exact rfl; clear hL; intro w hL) | refine ArReq.i64 (by omega) (by omega) ?_ | refine SeqReq.go hX ?_ | refine OptReq.mk rfl ?_); conv => whnf)
      refine BrReq.dec (fun hlt => ?_) (fun hlt => ?_)
      · have hlt' : j < rs.length := by simp only at hlt; omega
        obtain ⟨a, cs', ea, hl9, hcells, hr1⟩ := hs.elem j _ (List.getElem?_eq_getElem hlt')
        have ih1 := ihj _ (List.getElem_mem hlt') m _ hr1
        have hnd := nodesL_mem (List.getElem_mem hlt')
        have htl := refT_len rs[j]
        have hdr : (rs.map refT).drop j = refT rs[j] :: (rs.map refT).drop (j + 1) := by
          rw [List.drop_eq_getElem_cons (by simpa using hlt')]; simp
        rw [hdr, loopT] at hlp
        generalize rs[j] = x at hr1 ih1 htl hnd hlp
        obtain ⟨k1, u0, u1, u2, u3, A1, n1, c1, lo1, hi1, neg1, rfl⟩ := hr1.form
        conv => whnf
        repeat ((first | refine BrReq.tt ?_ | refine BrReq.ff ?_ | (refine' zl hX rfl rfl hL ?_ ?_ ?_; rotate_left 4; (repeat first | exact .h | refine .t ?_); exact rfl) | (refine' zm hX rfl rfl hL ?_ ?_ ?_; rotate_left 3; (repeat first | exact .h | refine .t ?_); exact rfl) | (refine' zs hX rfl rfl rfl hL ?_ ?_ ?_; rotate_left 3; (repeat first | exact .h | apply Sets.t); exact rfl; clear hL; intro w hL) | refine ArReq.i64 (by omega) (by omega) ?_ | refine SeqReq.go hX ?_ | refine OptReq.mk rfl ?_); conv => whnf)
        refine BrReq.dec (fun h0 => ?_) (fun h0 => ?_)
        · rw [show (if 0 < j then out ++ sepK 6 else out) = out ++ sepK 6 from if_pos (by omega)] at hlp
          have hol : (out ++ sepK 6).length ≤ 30001 := by rw [List.length_append]; omega
          conv => whnf
          repeat ((first | refine UGenReq.strB out (sepK 6) rfl rfl rfl rfl rfl (by omega) ?_ | (refine Idx2Req.mk j a rfl (by simp only at hlt ⊢; omega) ea ?_) | refine LdReq.agg hX rfl rfl hL hl9 hcells ?_ | refine BrReq.tt ?_ | refine BrReq.ff ?_ | (refine' zl hX rfl rfl hL ?_ ?_ ?_; rotate_left 4; (repeat first | exact .h | refine .t ?_); exact rfl) | (refine' zm hX rfl rfl hL ?_ ?_ ?_; rotate_left 3; (repeat first | exact .h | refine .t ?_); exact rfl) | (refine' zs hX rfl rfl rfl hL ?_ ?_ ?_; rotate_left 3; (repeat first | exact .h | apply Sets.t); exact rfl; clear hL; intro w hL) | refine ArReq.i64 (by omega) (by omega) ?_ | refine SeqReq.go hX ?_ | refine OptReq.mk rfl ?_); conv => whnf)
          generalize out ++ sepK 6 = o at hlp hol ⊢
          refine CallReq.val ih1 hL ?_
          clear hL
          intro w hL
          conv => whnf
          repeat ((first | (refine UGenReq.strB [40] (refT x) rfl rfl rfl rfl rfl (by simp only [List.length_cons, List.length_nil]; omega) ?_) | (refine UGenReq.strB ([40] ++ refT x) [41] rfl rfl rfl rfl rfl (by simp only [List.length_cons, List.length_nil, List.length_append]; omega) ?_) | (refine UGenReq.strB o (par (refT x)) rfl rfl rfl rfl rfl (by rw [par_len]; omega) ?_) | refine BrReq.tt ?_ | refine BrReq.ff ?_ | (refine' zl hX rfl rfl hL ?_ ?_ ?_; rotate_left 4; (repeat first | exact .h | refine .t ?_); exact rfl) | (refine' zm hX rfl rfl hL ?_ ?_ ?_; rotate_left 3; (repeat first | exact .h | refine .t ?_); exact rfl) | (refine' zs hX rfl rfl rfl hL ?_ ?_ ?_; rotate_left 3; (repeat first | exact .h | apply Sets.t); exact rfl; clear hL; intro w hL) | refine ArReq.i64 (by omega) (by omega) ?_ | refine SeqReq.go hX ?_ | refine OptReq.mk rfl ?_); conv => whnf)
          have hsz := bs_size (o ++ par (refT x))
          refine BrReq.dec (fun h3 => ?_) (fun h3 => ?_)
          · rw [if_pos (by omega)] at hlp
            conv => whnf
            repeat ((first | refine BrReq.tt ?_ | refine BrReq.ff ?_ | (refine' zl hX rfl rfl hL ?_ ?_ ?_; rotate_left 4; (repeat first | exact .h | refine .t ?_); exact rfl) | (refine' zm hX rfl rfl hL ?_ ?_ ?_; rotate_left 3; (repeat first | exact .h | refine .t ?_); exact rfl) | (refine' zs hX rfl rfl rfl hL ?_ ?_ ?_; rotate_left 3; (repeat first | exact .h | apply Sets.t); exact rfl; clear hL; intro w hL) | refine ArReq.i64 (by omega) (by omega) ?_ | refine SeqReq.go hX ?_ | refine OptReq.mk rfl ?_); conv => whnf)
            refine RetReq.mk hL.drop ⟨rfl, congrArg (fun t => Value.string (bs t)) ?_⟩
            rw [refT_eq]
            show _ = cutT 6 lo hi (loopT (sepK 6) (rs.map refT) (preK 6) 0)
            rw [← hlp]; rfl
          · rw [if_neg (by omega)] at hlp
            conv => whnf
            repeat ((first | refine BrReq.tt ?_ | refine BrReq.ff ?_ | (refine' zl hX rfl rfl hL ?_ ?_ ?_; rotate_left 4; (repeat first | exact .h | refine .t ?_); exact rfl) | (refine' zm hX rfl rfl hL ?_ ?_ ?_; rotate_left 3; (repeat first | exact .h | refine .t ?_); exact rfl) | (refine' zs hX rfl rfl rfl hL ?_ ?_ ?_; rotate_left 3; (repeat first | exact .h | apply Sets.t); exact rfl; clear hL; intro w hL) | refine ArReq.i64 (by omega) (by omega) ?_ | refine SeqReq.go hX ?_ | refine OptReq.mk rfl ?_); conv => whnf)
            refine ⟨(j + 1, o ++ par (refT x)), ⟨by simp only at hlt ⊢; omega, by simp only; omega, hlp, hL⟩, by first | omega | (simp only; omega), ?_, ?_⟩
            · repeat (first | exact trivial | (refine And.intro (by (conv => lhs; whnf) <;> (conv => rhs; whnf) <;> (first | rfl)) ?_))
            · repeat (first | exact trivial | (refine And.intro (by (conv => lhs; whnf) <;> (conv => rhs; whnf) <;> (first | rfl)) ?_))
        · rw [show (if 0 < j then out ++ sepK 6 else out) = out from if_neg (by omega)] at hlp
          have hol : out.length ≤ 30001 := by omega
          conv => whnf
          repeat ((first | (refine Idx2Req.mk j a rfl (by simp only at hlt ⊢; omega) ea ?_) | refine LdReq.agg hX rfl rfl hL hl9 hcells ?_ | refine BrReq.tt ?_ | refine BrReq.ff ?_ | (refine' zl hX rfl rfl hL ?_ ?_ ?_; rotate_left 4; (repeat first | exact .h | refine .t ?_); exact rfl) | (refine' zm hX rfl rfl hL ?_ ?_ ?_; rotate_left 3; (repeat first | exact .h | refine .t ?_); exact rfl) | (refine' zs hX rfl rfl rfl hL ?_ ?_ ?_; rotate_left 3; (repeat first | exact .h | apply Sets.t); exact rfl; clear hL; intro w hL) | refine ArReq.i64 (by omega) (by omega) ?_ | refine SeqReq.go hX ?_ | refine OptReq.mk rfl ?_); conv => whnf)
          generalize out = o at hlp hol ⊢
          refine CallReq.val ih1 hL ?_
          clear hL
          intro w hL
          conv => whnf
          repeat ((first | (refine UGenReq.strB [40] (refT x) rfl rfl rfl rfl rfl (by simp only [List.length_cons, List.length_nil]; omega) ?_) | (refine UGenReq.strB ([40] ++ refT x) [41] rfl rfl rfl rfl rfl (by simp only [List.length_cons, List.length_nil, List.length_append]; omega) ?_) | (refine UGenReq.strB o (par (refT x)) rfl rfl rfl rfl rfl (by rw [par_len]; omega) ?_) | refine BrReq.tt ?_ | refine BrReq.ff ?_ | (refine' zl hX rfl rfl hL ?_ ?_ ?_; rotate_left 4; (repeat first | exact .h | refine .t ?_); exact rfl) | (refine' zm hX rfl rfl hL ?_ ?_ ?_; rotate_left 3; (repeat first | exact .h | refine .t ?_); exact rfl) | (refine' zs hX rfl rfl rfl hL ?_ ?_ ?_; rotate_left 3; (repeat first | exact .h | apply Sets.t); exact rfl; clear hL; intro w hL) | refine ArReq.i64 (by omega) (by omega) ?_ | refine SeqReq.go hX ?_ | refine OptReq.mk rfl ?_); conv => whnf)
          have hsz := bs_size (o ++ par (refT x))
          refine BrReq.dec (fun h3 => ?_) (fun h3 => ?_)
          · rw [if_pos (by omega)] at hlp
            conv => whnf
            repeat ((first | refine BrReq.tt ?_ | refine BrReq.ff ?_ | (refine' zl hX rfl rfl hL ?_ ?_ ?_; rotate_left 4; (repeat first | exact .h | refine .t ?_); exact rfl) | (refine' zm hX rfl rfl hL ?_ ?_ ?_; rotate_left 3; (repeat first | exact .h | refine .t ?_); exact rfl) | (refine' zs hX rfl rfl rfl hL ?_ ?_ ?_; rotate_left 3; (repeat first | exact .h | apply Sets.t); exact rfl; clear hL; intro w hL) | refine ArReq.i64 (by omega) (by omega) ?_ | refine SeqReq.go hX ?_ | refine OptReq.mk rfl ?_); conv => whnf)
            refine RetReq.mk hL.drop ⟨rfl, congrArg (fun t => Value.string (bs t)) ?_⟩
            rw [refT_eq]
            show _ = cutT 6 lo hi (loopT (sepK 6) (rs.map refT) (preK 6) 0)
            rw [← hlp]; rfl
          · rw [if_neg (by omega)] at hlp
            conv => whnf
            repeat ((first | refine BrReq.tt ?_ | refine BrReq.ff ?_ | (refine' zl hX rfl rfl hL ?_ ?_ ?_; rotate_left 4; (repeat first | exact .h | refine .t ?_); exact rfl) | (refine' zm hX rfl rfl hL ?_ ?_ ?_; rotate_left 3; (repeat first | exact .h | refine .t ?_); exact rfl) | (refine' zs hX rfl rfl rfl hL ?_ ?_ ?_; rotate_left 3; (repeat first | exact .h | apply Sets.t); exact rfl; clear hL; intro w hL) | refine ArReq.i64 (by omega) (by omega) ?_ | refine SeqReq.go hX ?_ | refine OptReq.mk rfl ?_); conv => whnf)
            refine ⟨(j + 1, o ++ par (refT x)), ⟨by simp only at hlt ⊢; omega, by simp only; omega, hlp, hL⟩, by first | omega | (simp only; omega), ?_, ?_⟩
            · repeat (first | exact trivial | (refine And.intro (by (conv => lhs; whnf) <;> (conv => rhs; whnf) <;> (first | rfl)) ?_))
            · repeat (first | exact trivial | (refine And.intro (by (conv => lhs; whnf) <;> (conv => rhs; whnf) <;> (first | rfl)) ?_))
      have ej : j = rs.length := by simp only at hlt; omega
      subst ej
      rw [List.drop_eq_nil_of_le (by simp), loopT] at hlp
      have hre : refT (.mk 6 s0 s1 s2 s3 rs lo hi neg) = endT 6 lo hi out := by
        rw [refT_eq]
        show cutT 6 lo hi (loopT (sepK 6) (rs.map refT) (preK 6) 0) = _
        rw [← hlp]; rfl
      rw [hre]
      conv => whnf
      repeat ((first | refine BrReq.tt ?_ | refine BrReq.ff ?_ | (refine' zl hX rfl rfl hL ?_ ?_ ?_; rotate_left 4; (repeat first | exact .h | refine .t ?_); exact rfl) | (refine' zm hX rfl rfl hL ?_ ?_ ?_; rotate_left 3; (repeat first | exact .h | refine .t ?_); exact rfl) | (refine' zs hX rfl rfl rfl hL ?_ ?_ ?_; rotate_left 3; (repeat first | exact .h | apply Sets.t); exact rfl; clear hL; intro w hL) | refine ArReq.i64 (by omega) (by omega) ?_ | refine SeqReq.go hX ?_ | refine OptReq.mk rfl ?_); conv => whnf)
      exact RetReq.mk hL.drop ⟨rfl, rfl⟩
    by_cases k7 : kd = 7
    · subst k7
      refine Fn.enter (N := 100) hX Tryz.func9 rfl rfl (by show _ ≤ _; simp) (fun w0 hL => ?_)
      conv => whnf
      refine NewReq.mk hL ?_
      clear hL
      intro b1 w hL
      conv => whnf
      conv => whnf
      repeat ((first | refine BrReq.tt ?_ | refine BrReq.ff ?_ | (refine' zl hX rfl rfl hL ?_ ?_ ?_; rotate_left 4; (repeat first | exact .h | refine .t ?_); exact rfl) | (refine' zm hX rfl rfl hL ?_ ?_ ?_; rotate_left 3; (repeat first | exact .h | refine .t ?_); exact rfl) | (refine' zs hX rfl rfl rfl hL ?_ ?_ ?_; rotate_left 3; (repeat first | exact .h | apply Sets.t); exact rfl; clear hL; intro w hL) | refine ArReq.i64 (by omega) (by omega) ?_ | refine SeqReq.go hX ?_ | refine OptReq.mk rfl ?_); conv => whnf)
      refine LoopReq.inv hX (fun s : Nat × List UInt8 => [(4, .string (bs s.2)), (56, .int .i64 s.1)]) [1, 3, 55]
        (fun s w => s.1 ≤ n ∧ List.length s.2 ≤ 30000 ∧ loopT (sepK 7) ((rs.map refT).drop s.1) s.2 s.1 = loopT (sepK 7) (rs.map refT) (preK 7) 0 ∧ Ev.Loc m [] w0 m [(b1, .cells (toArr (reC 7 s0 s1 s2 s3 (.slice A n c) lo hi neg)) 28 (0, 0))] w) (fun s => n - s.1) (0, preK 7)
        ⟨by simp, by have := preK_len 7; simp only; omega, rfl, hL⟩ ⟨rfl, rfl, trivial⟩ ?_
      clear hL
      rintro ⟨j, out⟩ w f ⟨hj, hout, hlp, hL⟩
      simp only at hj hout hlp
      have hsl := sepK_len 7
      conv => whnf
      repeat ((first | refine BrReq.tt ?_ | refine BrReq.ff ?_ | (refine' zl hX rfl rfl hL ?_ ?_ ?_; rotate_left 4; (repeat first | exact .h | refine .t ?_); exact rfl) | (refine' zm hX rfl rfl hL ?_ ?_ ?_; rotate_left 3; (repeat first | exact .h | refine .t ?_); exact rfl) | (refine' zs hX rfl rfl rfl hL ?_ ?_ ?_; rotate_left 3; (repeat first | exact .h | apply Sets.t); exact rfl; clear hL; intro w hL) | refine ArReq.i64 (by omega) (by omega) ?_ | refine SeqReq.go hX ?_ | refine OptReq.mk rfl ?_); conv => whnf)
      refine BrReq.dec (fun hlt => ?_) (fun hlt => ?_)
      · have hlt' : j < rs.length := by simp only at hlt; omega
        obtain ⟨a, cs', ea, hl9, hcells, hr1⟩ := hs.elem j _ (List.getElem?_eq_getElem hlt')
        have ih1 := ihj _ (List.getElem_mem hlt') m _ hr1
        have hnd := nodesL_mem (List.getElem_mem hlt')
        have htl := refT_len rs[j]
        have hdr : (rs.map refT).drop j = refT rs[j] :: (rs.map refT).drop (j + 1) := by
          rw [List.drop_eq_getElem_cons (by simpa using hlt')]; simp
        rw [hdr, loopT] at hlp
        generalize rs[j] = x at hr1 ih1 htl hnd hlp
        obtain ⟨k1, u0, u1, u2, u3, A1, n1, c1, lo1, hi1, neg1, rfl⟩ := hr1.form
        conv => whnf
        repeat ((first | refine BrReq.tt ?_ | refine BrReq.ff ?_ | (refine' zl hX rfl rfl hL ?_ ?_ ?_; rotate_left 4; (repeat first | exact .h | refine .t ?_); exact rfl) | (refine' zm hX rfl rfl hL ?_ ?_ ?_; rotate_left 3; (repeat first | exact .h | refine .t ?_); exact rfl) | (refine' zs hX rfl rfl rfl hL ?_ ?_ ?_; rotate_left 3; (repeat first | exact .h | apply Sets.t); exact rfl; clear hL; intro w hL) | refine ArReq.i64 (by omega) (by omega) ?_ | refine SeqReq.go hX ?_ | refine OptReq.mk rfl ?_); conv => whnf)
        refine BrReq.dec (fun h0 => ?_) (fun h0 => ?_)
        · rw [show (if 0 < j then out ++ sepK 7 else out) = out ++ sepK 7 from if_pos (by omega)] at hlp
          have hol : (out ++ sepK 7).length ≤ 30001 := by rw [List.length_append]; omega
          conv => whnf
          repeat ((first | refine UGenReq.strB out (sepK 7) rfl rfl rfl rfl rfl (by omega) ?_ | (refine Idx2Req.mk j a rfl (by simp only at hlt ⊢; omega) ea ?_) | refine LdReq.agg hX rfl rfl hL hl9 hcells ?_ | refine BrReq.tt ?_ | refine BrReq.ff ?_ | (refine' zl hX rfl rfl hL ?_ ?_ ?_; rotate_left 4; (repeat first | exact .h | refine .t ?_); exact rfl) | (refine' zm hX rfl rfl hL ?_ ?_ ?_; rotate_left 3; (repeat first | exact .h | refine .t ?_); exact rfl) | (refine' zs hX rfl rfl rfl hL ?_ ?_ ?_; rotate_left 3; (repeat first | exact .h | apply Sets.t); exact rfl; clear hL; intro w hL) | refine ArReq.i64 (by omega) (by omega) ?_ | refine SeqReq.go hX ?_ | refine OptReq.mk rfl ?_); conv => whnf)
          generalize out ++ sepK 7 = o at hlp hol ⊢
          refine CallReq.val ih1 hL ?_
          clear hL
          intro w hL
          conv => whnf
          repeat ((first | (refine UGenReq.strB [40] (refT x) rfl rfl rfl rfl rfl (by simp only [List.length_cons, List.length_nil]; omega) ?_) | (refine UGenReq.strB ([40] ++ refT x) [41] rfl rfl rfl rfl rfl (by simp only [List.length_cons, List.length_nil, List.length_append]; omega) ?_) | (refine UGenReq.strB o (par (refT x)) rfl rfl rfl rfl rfl (by rw [par_len]; omega) ?_) | refine BrReq.tt ?_ | refine BrReq.ff ?_ | (refine' zl hX rfl rfl hL ?_ ?_ ?_; rotate_left 4; (repeat first | exact .h | refine .t ?_); exact rfl) | (refine' zm hX rfl rfl hL ?_ ?_ ?_; rotate_left 3; (repeat first | exact .h | refine .t ?_); exact rfl) | (refine' zs hX rfl rfl rfl hL ?_ ?_ ?_; rotate_left 3; (repeat first | exact .h | apply Sets.t); exact rfl; clear hL; intro w hL) | refine ArReq.i64 (by omega) (by omega) ?_ | refine SeqReq.go hX ?_ | refine OptReq.mk rfl ?_); conv => whnf)
          have hsz := bs_size (o ++ par (refT x))
          refine BrReq.dec (fun h3 => ?_) (fun h3 => ?_)
          · rw [if_pos (by omega)] at hlp
            conv => whnf
            repeat ((first | refine BrReq.tt ?_ | refine BrReq.ff ?_ | (refine' zl hX rfl rfl hL ?_ ?_ ?_; rotate_left 4; (repeat first | exact .h | refine .t ?_); exact rfl) | (refine' zm hX rfl rfl hL ?_ ?_ ?_; rotate_left 3; (repeat first | exact .h | refine .t ?_); exact rfl) | (refine' zs hX rfl rfl rfl hL ?_ ?_ ?_; rotate_left 3; (repeat first | exact .h | apply Sets.t); exact rfl; clear hL; intro w hL) | refine ArReq.i64 (by omega) (by omega) ?_ | refine SeqReq.go hX ?_ | refine OptReq.mk rfl ?_); conv => whnf)
            refine RetReq.mk hL.drop ⟨rfl, congrArg (fun t => Value.string (bs t)) ?_⟩
            rw [refT_eq]
            show _ = cutT 7 lo hi (loopT (sepK 7) (rs.map refT) (preK 7) 0)
            rw [← hlp]; rfl
          · rw [if_neg (by omega)] at hlp
            conv => whnf
            repeat ((first | refine BrReq.tt ?_ | refine BrReq.ff ?_ | (refine' zl hX rfl rfl hL ?_ ?_ ?_; rotate_left 4; (repeat first | exact .h | refine .t ?_); exact rfl) | (refine' zm hX rfl rfl hL ?_ ?_ ?_; rotate_left 3; (repeat first | exact .h | refine .t ?_); exact rfl) | (refine' zs hX rfl rfl rfl hL ?_ ?_ ?_; rotate_left 3; (repeat first | exact .h | apply Sets.t); exact rfl; clear hL; intro w hL) | refine ArReq.i64 (by omega) (by omega) ?_ | refine SeqReq.go hX ?_ | refine OptReq.mk rfl ?_); conv => whnf)
            refine ⟨(j + 1, o ++ par (refT x)), ⟨by simp only at hlt ⊢; omega, by simp only; omega, hlp, hL⟩, by first | omega | (simp only; omega), ?_, ?_⟩
            · repeat (first | exact trivial | (refine And.intro (by (conv => lhs; whnf) <;> (conv => rhs; whnf) <;> (first | rfl)) ?_))
            · repeat (first | exact trivial | (refine And.intro (by (conv => lhs; whnf) <;> (conv => rhs; whnf) <;> (first | rfl)) ?_))
        · rw [show (if 0 < j then out ++ sepK 7 else out) = out from if_neg (by omega)] at hlp
          have hol : out.length ≤ 30001 := by omega
          conv => whnf
          repeat ((first | (refine Idx2Req.mk j a rfl (by simp only at hlt ⊢; omega) ea ?_) | refine LdReq.agg hX rfl rfl hL hl9 hcells ?_ | refine BrReq.tt ?_ | refine BrReq.ff ?_ | (refine' zl hX rfl rfl hL ?_ ?_ ?_; rotate_left 4; (repeat first | exact .h | refine .t ?_); exact rfl) | (refine' zm hX rfl rfl hL ?_ ?_ ?_; rotate_left 3; (repeat first | exact .h | refine .t ?_); exact rfl) | (refine' zs hX rfl rfl rfl hL ?_ ?_ ?_; rotate_left 3; (repeat first | exact .h | apply Sets.t); exact rfl; clear hL; intro w hL) | refine ArReq.i64 (by omega) (by omega) ?_ | refine SeqReq.go hX ?_ | refine OptReq.mk rfl ?_); conv => whnf)
          generalize out = o at hlp hol ⊢
          refine CallReq.val ih1 hL ?_
          clear hL
          intro w hL
          conv => whnf
          repeat ((first | (refine UGenReq.strB [40] (refT x) rfl rfl rfl rfl rfl (by simp only [List.length_cons, List.length_nil]; omega) ?_) | (refine UGenReq.strB ([40] ++ refT x) [41] rfl rfl rfl rfl rfl (by simp only [List.length_cons, List.length_nil, List.length_append]; omega) ?_) | (refine UGenReq.strB o (par (refT x)) rfl rfl rfl rfl rfl (by rw [par_len]; omega) ?_) | refine BrReq.tt ?_ | refine BrReq.ff ?_ | (refine' zl hX rfl rfl hL ?_ ?_ ?_; rotate_left 4; (repeat first | exact .h | refine .t ?_); exact rfl) | (refine' zm hX rfl rfl hL ?_ ?_ ?_; rotate_left 3; (repeat first | exact .h | refine .t ?_); exact rfl) | (refine' zs hX rfl rfl rfl hL ?_ ?_ ?_; rotate_left 3; (repeat first | exact .h | apply Sets.t); exact rfl; clear hL; intro w hL) | refine ArReq.i64 (by omega) (by omega) ?_ | refine SeqReq.go hX ?_ | refine OptReq.mk rfl ?_); conv => whnf)
          have hsz := bs_size (o ++ par (refT x))
          refine BrReq.dec (fun h3 => ?_) (fun h3 => ?_)
          · rw [if_pos (by omega)] at hlp
            conv => whnf
            repeat ((first | refine BrReq.tt ?_ | refine BrReq.ff ?_ | (refine' zl hX rfl rfl hL ?_ ?_ ?_; rotate_left 4; (repeat first | exact .h | refine .t ?_); exact rfl) | (refine' zm hX rfl rfl hL ?_ ?_ ?_; rotate_left 3; (repeat first | exact .h | refine .t ?_); exact rfl) | (refine' zs hX rfl rfl rfl hL ?_ ?_ ?_; rotate_left 3; (repeat first | exact .h | apply Sets.t); exact rfl; clear hL; intro w hL) | refine ArReq.i64 (by omega) (by omega) ?_ | refine SeqReq.go hX ?_ | refine OptReq.mk rfl ?_); conv => whnf)
            refine RetReq.mk hL.drop ⟨rfl, congrArg (fun t => Value.string (bs t)) ?_⟩
            rw [refT_eq]
            show _ = cutT 7 lo hi (loopT (sepK 7) (rs.map refT) (preK 7) 0)
            rw [← hlp]; rfl
          · rw [if_neg (by omega)] at hlp
            conv => whnf
            repeat ((first | refine BrReq.tt ?_ | refine BrReq.ff ?_ | (refine' zl hX rfl rfl hL ?_ ?_ ?_; rotate_left 4; (repeat first | exact .h | refine .t ?_); exact rfl) | (refine' zm hX rfl rfl hL ?_ ?_ ?_; rotate_left 3; (repeat first | exact .h | refine .t ?_); exact rfl) | (refine' zs hX rfl rfl rfl hL ?_ ?_ ?_; rotate_left 3; (repeat first | exact .h | apply Sets.t); exact rfl; clear hL; intro w hL) | refine ArReq.i64 (by omega) (by omega) ?_ | refine SeqReq.go hX ?_ | refine OptReq.mk rfl ?_); conv => whnf)
            refine ⟨(j + 1, o ++ par (refT x)), ⟨by simp only at hlt ⊢; omega, by simp only; omega, hlp, hL⟩, by first | omega | (simp only; omega), ?_, ?_⟩
            · repeat (first | exact trivial | (refine And.intro (by (conv => lhs; whnf) <;> (conv => rhs; whnf) <;> (first | rfl)) ?_))
            · repeat (first | exact trivial | (refine And.intro (by (conv => lhs; whnf) <;> (conv => rhs; whnf) <;> (first | rfl)) ?_))
      have ej : j = rs.length := by simp only at hlt; omega
      subst ej
      rw [List.drop_eq_nil_of_le (by simp), loopT] at hlp
      have hre : refT (.mk 7 s0 s1 s2 s3 rs lo hi neg) = endT 7 lo hi out := by
        rw [refT_eq]
        show cutT 7 lo hi (loopT (sepK 7) (rs.map refT) (preK 7) 0) = _
        rw [← hlp]; rfl
      rw [hre]
      obtain ⟨l1, rfl⟩ : ∃ l1 : Nat, lo = l1 := ⟨lo.toNat, by omega⟩
      have hl20 : l1 ≤ 20 := by omega
      have hnl1 := numT_len l1
      conv => whnf
      repeat ((first | refine BrReq.tt ?_ | refine BrReq.ff ?_ | (refine' zl hX rfl rfl hL ?_ ?_ ?_; rotate_left 4; (repeat first | exact .h | refine .t ?_); exact rfl) | (refine' zm hX rfl rfl hL ?_ ?_ ?_; rotate_left 3; (repeat first | exact .h | refine .t ?_); exact rfl) | (refine' zs hX rfl rfl rfl hL ?_ ?_ ?_; rotate_left 3; (repeat first | exact .h | apply Sets.t); exact rfl; clear hL; intro w hL) | refine ArReq.i64 (by omega) (by omega) ?_ | refine SeqReq.go hX ?_ | refine OptReq.mk rfl ?_); conv => whnf)
      refine CallReq.val (Digits_fn m l1 hl20) hL ?_
      clear hL
      intro w hL
      conv => whnf
      repeat ((first | (refine UGenReq.strB [123] (numT l1) rfl rfl rfl rfl rfl (by simp only [List.length_cons, List.length_nil]; omega) ?_) | (refine UGenReq.strB ([123] ++ numT l1) [44] rfl rfl rfl rfl rfl (by simp only [List.length_cons, List.length_nil, List.length_append]; omega) ?_) | (refine UGenReq.strB out ([123] ++ numT l1 ++ [44]) rfl rfl rfl rfl rfl (by simp only [List.length_cons, List.length_nil, List.length_append]; omega) ?_) | refine BrReq.tt ?_ | refine BrReq.ff ?_ | (refine' zl hX rfl rfl hL ?_ ?_ ?_; rotate_left 4; (repeat first | exact .h | refine .t ?_); exact rfl) | (refine' zm hX rfl rfl hL ?_ ?_ ?_; rotate_left 3; (repeat first | exact .h | refine .t ?_); exact rfl) | (refine' zs hX rfl rfl rfl hL ?_ ?_ ?_; rotate_left 3; (repeat first | exact .h | apply Sets.t); exact rfl; clear hL; intro w hL) | refine ArReq.i64 (by omega) (by omega) ?_ | refine SeqReq.go hX ?_ | refine OptReq.mk rfl ?_); conv => whnf)
      refine BrReq.dec (fun hh => ?_) (fun hh => ?_)
      · obtain ⟨h1, rfl⟩ : ∃ h1 : Nat, hi = h1 := ⟨hi.toNat, by omega⟩
        have hh20 : h1 ≤ 20 := by omega
        have hnl2 := numT_len h1
        conv => whnf
        repeat ((first | refine BrReq.tt ?_ | refine BrReq.ff ?_ | (refine' zl hX rfl rfl hL ?_ ?_ ?_; rotate_left 4; (repeat first | exact .h | refine .t ?_); exact rfl) | (refine' zm hX rfl rfl hL ?_ ?_ ?_; rotate_left 3; (repeat first | exact .h | refine .t ?_); exact rfl) | (refine' zs hX rfl rfl rfl hL ?_ ?_ ?_; rotate_left 3; (repeat first | exact .h | apply Sets.t); exact rfl; clear hL; intro w hL) | refine ArReq.i64 (by omega) (by omega) ?_ | refine SeqReq.go hX ?_ | refine OptReq.mk rfl ?_); conv => whnf)
        refine CallReq.val (Digits_fn m h1 hh20) hL ?_
        clear hL
        intro w hL
        conv => whnf
        repeat ((first | (refine UGenReq.strB (out ++ ([123] ++ numT l1 ++ [44])) (numT h1) rfl rfl rfl rfl rfl (by simp only [List.length_cons, List.length_nil, List.length_append]; omega) ?_) | (refine UGenReq.strB (out ++ ([123] ++ numT l1 ++ [44]) ++ numT h1) [125] rfl rfl rfl rfl rfl (by simp only [List.length_cons, List.length_nil, List.length_append]; omega) ?_) | refine BrReq.tt ?_ | refine BrReq.ff ?_ | (refine' zl hX rfl rfl hL ?_ ?_ ?_; rotate_left 4; (repeat first | exact .h | refine .t ?_); exact rfl) | (refine' zm hX rfl rfl hL ?_ ?_ ?_; rotate_left 3; (repeat first | exact .h | refine .t ?_); exact rfl) | (refine' zs hX rfl rfl rfl hL ?_ ?_ ?_; rotate_left 3; (repeat first | exact .h | apply Sets.t); exact rfl; clear hL; intro w hL) | refine ArReq.i64 (by omega) (by omega) ?_ | refine SeqReq.go hX ?_ | refine OptReq.mk rfl ?_); conv => whnf)
        refine RetReq.mk hL.drop ⟨rfl, congrArg (fun t => Value.string (bs t)) ?_⟩
        unfold endT
        rw [if_pos rfl, if_pos (by omega)]; rfl
      · conv => whnf
        repeat ((first | (refine UGenReq.strB (out ++ ([123] ++ numT l1 ++ [44])) [125] rfl rfl rfl rfl rfl (by simp only [List.length_cons, List.length_nil, List.length_append]; omega) ?_) | refine BrReq.tt ?_ | refine BrReq.ff ?_ | (refine' zl hX rfl rfl hL ?_ ?_ ?_; rotate_left 4; (repeat first | exact .h | refine .t ?_); exact rfl) | (refine' zm hX rfl rfl hL ?_ ?_ ?_; rotate_left 3; (repeat first | exact .h | refine .t ?_); exact rfl) | (refine' zs hX rfl rfl rfl hL ?_ ?_ ?_; rotate_left 3; (repeat first | exact .h | apply Sets.t); exact rfl; clear hL; intro w hL) | refine ArReq.i64 (by omega) (by omega) ?_ | refine SeqReq.go hX ?_ | refine OptReq.mk rfl ?_); conv => whnf)
        refine RetReq.mk hL.drop ⟨rfl, congrArg (fun t => Value.string (bs t)) ?_⟩
        unfold endT
        rw [if_pos rfl, if_neg (by omega)]; rfl
    by_cases k8 : kd = 8
    · subst k8
      obtain ⟨p, rfl⟩ : ∃ p, rs = [p] := List.length_eq_one_iff.1 (hk1 (by omega))
      obtain ⟨a, cs', ea, hl9, hcells, hr1⟩ := hs.elem 0 p rfl
      have htp := ihj p (by simp) m _ hr1
      obtain ⟨k1, u0, u1, u2, u3, A1, n1, c1, lo1, hi1, neg1, rfl⟩ := hr1.form
      have htl1 := refT_len p
      have hnd1 := nodesL_mem (l := [p]) (p := p) (by simp)
      have hn1 : n = 1 := hn
      cases neg
      · refine Fn.enter (N := 100) hX Tryz.func9 rfl rfl (by show _ ≤ _; simp) (fun w0 hL => ?_)
        conv => whnf
        refine NewReq.mk hL ?_
        clear hL
        intro b1 w hL
        conv => whnf
        conv => whnf
        repeat ((first | refine Idx2Req.mk 0 a rfl (by omega) ea ?_ | refine LdReq.agg hX rfl rfl hL hl9 hcells ?_ | refine UGenReq.strB [40, 63] [60] rfl rfl rfl rfl rfl (by decide) ?_ | refine UGenReq.strB [40, 63] [61] rfl rfl rfl rfl rfl (by decide) ?_ | refine BrReq.tt ?_ | refine BrReq.ff ?_ | (refine' zl hX rfl rfl hL ?_ ?_ ?_; rotate_left 4; (repeat first | exact .h | refine .t ?_); exact rfl) | (refine' zm hX rfl rfl hL ?_ ?_ ?_; rotate_left 3; (repeat first | exact .h | refine .t ?_); exact rfl) | (refine' zs hX rfl rfl rfl hL ?_ ?_ ?_; rotate_left 3; (repeat first | exact .h | apply Sets.t); exact rfl; clear hL; intro w hL) | refine ArReq.i64 (by omega) (by omega) ?_ | refine SeqReq.go hX ?_ | refine OptReq.mk rfl ?_); conv => whnf)
        refine CallReq.val htp hL ?_
        clear hL
        intro w hL
        conv => whnf
        repeat ((first | (refine UGenReq.strB ([40, 63] ++ [61]) (refT p) rfl rfl rfl rfl rfl (by simp only [List.length_cons, List.length_nil, List.length_append]; omega) ?_) | (refine UGenReq.strB ([40, 63] ++ [61] ++ refT p) [41] rfl rfl rfl rfl rfl (by simp only [List.length_cons, List.length_nil, List.length_append]; omega) ?_) | refine BrReq.tt ?_ | refine BrReq.ff ?_ | (refine' zl hX rfl rfl hL ?_ ?_ ?_; rotate_left 4; (repeat first | exact .h | refine .t ?_); exact rfl) | (refine' zm hX rfl rfl hL ?_ ?_ ?_; rotate_left 3; (repeat first | exact .h | refine .t ?_); exact rfl) | (refine' zs hX rfl rfl rfl hL ?_ ?_ ?_; rotate_left 3; (repeat first | exact .h | apply Sets.t); exact rfl; clear hL; intro w hL) | refine ArReq.i64 (by omega) (by omega) ?_ | refine SeqReq.go hX ?_ | refine OptReq.mk rfl ?_); conv => whnf)
        exact RetReq.mk hL.drop ⟨rfl, by rw [refT_eq]; rfl⟩
      · refine Fn.enter (N := 100) hX Tryz.func9 rfl rfl (by show _ ≤ _; simp) (fun w0 hL => ?_)
        conv => whnf
        refine NewReq.mk hL ?_
        clear hL
        intro b1 w hL
        conv => whnf
        conv => whnf
        repeat ((first | refine Idx2Req.mk 0 a rfl (by omega) ea ?_ | refine LdReq.agg hX rfl rfl hL hl9 hcells ?_ | refine UGenReq.strB [40, 63] [60] rfl rfl rfl rfl rfl (by decide) ?_ | refine UGenReq.strB [40, 63] [33] rfl rfl rfl rfl rfl (by decide) ?_ | refine BrReq.tt ?_ | refine BrReq.ff ?_ | (refine' zl hX rfl rfl hL ?_ ?_ ?_; rotate_left 4; (repeat first | exact .h | refine .t ?_); exact rfl) | (refine' zm hX rfl rfl hL ?_ ?_ ?_; rotate_left 3; (repeat first | exact .h | refine .t ?_); exact rfl) | (refine' zs hX rfl rfl rfl hL ?_ ?_ ?_; rotate_left 3; (repeat first | exact .h | apply Sets.t); exact rfl; clear hL; intro w hL) | refine ArReq.i64 (by omega) (by omega) ?_ | refine SeqReq.go hX ?_ | refine OptReq.mk rfl ?_); conv => whnf)
        refine CallReq.val htp hL ?_
        clear hL
        intro w hL
        conv => whnf
        repeat ((first | (refine UGenReq.strB ([40, 63] ++ [33]) (refT p) rfl rfl rfl rfl rfl (by simp only [List.length_cons, List.length_nil, List.length_append]; omega) ?_) | (refine UGenReq.strB ([40, 63] ++ [33] ++ refT p) [41] rfl rfl rfl rfl rfl (by simp only [List.length_cons, List.length_nil, List.length_append]; omega) ?_) | refine BrReq.tt ?_ | refine BrReq.ff ?_ | (refine' zl hX rfl rfl hL ?_ ?_ ?_; rotate_left 4; (repeat first | exact .h | refine .t ?_); exact rfl) | (refine' zm hX rfl rfl hL ?_ ?_ ?_; rotate_left 3; (repeat first | exact .h | refine .t ?_); exact rfl) | (refine' zs hX rfl rfl rfl hL ?_ ?_ ?_; rotate_left 3; (repeat first | exact .h | apply Sets.t); exact rfl; clear hL; intro w hL) | refine ArReq.i64 (by omega) (by omega) ?_ | refine SeqReq.go hX ?_ | refine OptReq.mk rfl ?_); conv => whnf)
        exact RetReq.mk hL.drop ⟨rfl, by rw [refT_eq]; rfl⟩
    by_cases k9 : kd = 9
    · subst k9
      obtain ⟨p, rfl⟩ : ∃ p, rs = [p] := List.length_eq_one_iff.1 (hk1 (by omega))
      obtain ⟨a, cs', ea, hl9, hcells, hr1⟩ := hs.elem 0 p rfl
      have htp := ihj p (by simp) m _ hr1
      obtain ⟨k1, u0, u1, u2, u3, A1, n1, c1, lo1, hi1, neg1, rfl⟩ := hr1.form
      have htl1 := refT_len p
      have hnd1 := nodesL_mem (l := [p]) (p := p) (by simp)
      have hn1 : n = 1 := hn
      cases neg
      · refine Fn.enter (N := 100) hX Tryz.func9 rfl rfl (by show _ ≤ _; simp) (fun w0 hL => ?_)
        conv => whnf
        refine NewReq.mk hL ?_
        clear hL
        intro b1 w hL
        conv => whnf
        conv => whnf
        repeat ((first | refine Idx2Req.mk 0 a rfl (by omega) ea ?_ | refine LdReq.agg hX rfl rfl hL hl9 hcells ?_ | refine UGenReq.strB [40, 63] [60] rfl rfl rfl rfl rfl (by decide) ?_ | refine UGenReq.strB ([40, 63] ++ [60]) [61] rfl rfl rfl rfl rfl (by decide) ?_ | refine BrReq.tt ?_ | refine BrReq.ff ?_ | (refine' zl hX rfl rfl hL ?_ ?_ ?_; rotate_left 4; (repeat first | exact .h | refine .t ?_); exact rfl) | (refine' zm hX rfl rfl hL ?_ ?_ ?_; rotate_left 3; (repeat first | exact .h | refine .t ?_); exact rfl) | (refine' zs hX rfl rfl rfl hL ?_ ?_ ?_; rotate_left 3; (repeat first | exact .h | apply Sets.t); exact rfl; clear hL; intro w hL) | refine ArReq.i64 (by omega) (by omega) ?_ | refine SeqReq.go hX ?_ | refine OptReq.mk rfl ?_); conv => whnf)
        refine CallReq.val htp hL ?_
        clear hL
        intro w hL
        conv => whnf
        repeat ((first | (refine UGenReq.strB (([40, 63] ++ [60]) ++ [61]) (refT p) rfl rfl rfl rfl rfl (by simp only [List.length_cons, List.length_nil, List.length_append]; omega) ?_) | (refine UGenReq.strB (([40, 63] ++ [60]) ++ [61] ++ refT p) [41] rfl rfl rfl rfl rfl (by simp only [List.length_cons, List.length_nil, List.length_append]; omega) ?_) | refine BrReq.tt ?_ | refine BrReq.ff ?_ | (refine' zl hX rfl rfl hL ?_ ?_ ?_; rotate_left 4; (repeat first | exact .h | refine .t ?_); exact rfl) | (refine' zm hX rfl rfl hL ?_ ?_ ?_; rotate_left 3; (repeat first | exact .h | refine .t ?_); exact rfl) | (refine' zs hX rfl rfl rfl hL ?_ ?_ ?_; rotate_left 3; (repeat first | exact .h | apply Sets.t); exact rfl; clear hL; intro w hL) | refine ArReq.i64 (by omega) (by omega) ?_ | refine SeqReq.go hX ?_ | refine OptReq.mk rfl ?_); conv => whnf)
        exact RetReq.mk hL.drop ⟨rfl, by rw [refT_eq]; rfl⟩
      · refine Fn.enter (N := 100) hX Tryz.func9 rfl rfl (by show _ ≤ _; simp) (fun w0 hL => ?_)
        conv => whnf
        refine NewReq.mk hL ?_
        clear hL
        intro b1 w hL
        conv => whnf
        conv => whnf
        repeat ((first | refine Idx2Req.mk 0 a rfl (by omega) ea ?_ | refine LdReq.agg hX rfl rfl hL hl9 hcells ?_ | refine UGenReq.strB [40, 63] [60] rfl rfl rfl rfl rfl (by decide) ?_ | refine UGenReq.strB ([40, 63] ++ [60]) [33] rfl rfl rfl rfl rfl (by decide) ?_ | refine BrReq.tt ?_ | refine BrReq.ff ?_ | (refine' zl hX rfl rfl hL ?_ ?_ ?_; rotate_left 4; (repeat first | exact .h | refine .t ?_); exact rfl) | (refine' zm hX rfl rfl hL ?_ ?_ ?_; rotate_left 3; (repeat first | exact .h | refine .t ?_); exact rfl) | (refine' zs hX rfl rfl rfl hL ?_ ?_ ?_; rotate_left 3; (repeat first | exact .h | apply Sets.t); exact rfl; clear hL; intro w hL) | refine ArReq.i64 (by omega) (by omega) ?_ | refine SeqReq.go hX ?_ | refine OptReq.mk rfl ?_); conv => whnf)
        refine CallReq.val htp hL ?_
        clear hL
        intro w hL
        conv => whnf
        repeat ((first | (refine UGenReq.strB (([40, 63] ++ [60]) ++ [33]) (refT p) rfl rfl rfl rfl rfl (by simp only [List.length_cons, List.length_nil, List.length_append]; omega) ?_) | (refine UGenReq.strB (([40, 63] ++ [60]) ++ [33] ++ refT p) [41] rfl rfl rfl rfl rfl (by simp only [List.length_cons, List.length_nil, List.length_append]; omega) ?_) | refine BrReq.tt ?_ | refine BrReq.ff ?_ | (refine' zl hX rfl rfl hL ?_ ?_ ?_; rotate_left 4; (repeat first | exact .h | refine .t ?_); exact rfl) | (refine' zm hX rfl rfl hL ?_ ?_ ?_; rotate_left 3; (repeat first | exact .h | refine .t ?_); exact rfl) | (refine' zs hX rfl rfl rfl hL ?_ ?_ ?_; rotate_left 3; (repeat first | exact .h | apply Sets.t); exact rfl; clear hL; intro w hL) | refine ArReq.i64 (by omega) (by omega) ?_ | refine SeqReq.go hX ?_ | refine OptReq.mk rfl ?_); conv => whnf)
        exact RetReq.mk hL.drop ⟨rfl, by rw [refT_eq]; rfl⟩
    by_cases k10 : kd = 10
    · subst k10
      refine Fn.enter (N := 100) hX Tryz.func9 rfl rfl (by show _ ≤ _; simp) (fun w0 hL => ?_)
      conv => whnf
      refine NewReq.mk hL ?_
      clear hL
      intro b1 w hL
      conv => whnf
      conv => whnf
      repeat ((first | refine BrReq.tt ?_ | refine BrReq.ff ?_ | (refine' zl hX rfl rfl hL ?_ ?_ ?_; rotate_left 4; (repeat first | exact .h | refine .t ?_); exact rfl) | (refine' zm hX rfl rfl hL ?_ ?_ ?_; rotate_left 3; (repeat first | exact .h | refine .t ?_); exact rfl) | (refine' zs hX rfl rfl rfl hL ?_ ?_ ?_; rotate_left 3; (repeat first | exact .h | apply Sets.t); exact rfl; clear hL; intro w hL) | refine ArReq.i64 (by omega) (by omega) ?_ | refine SeqReq.go hX ?_ | refine OptReq.mk rfl ?_); conv => whnf)
      exact RetReq.mk hL.drop ⟨rfl, by rw [refT_eq]; rfl⟩
    obtain rfl : kd = 11 := by omega
    refine Fn.enter (N := 100) hX Tryz.func9 rfl rfl (by show _ ≤ _; simp) (fun w0 hL => ?_)
    conv => whnf
    refine NewReq.mk hL ?_
    clear hL
    intro b1 w hL
    conv => whnf
    conv => whnf
    repeat ((first | refine BrReq.tt ?_ | refine BrReq.ff ?_ | (refine' zl hX rfl rfl hL ?_ ?_ ?_; rotate_left 4; (repeat first | exact .h | refine .t ?_); exact rfl) | (refine' zm hX rfl rfl hL ?_ ?_ ?_; rotate_left 3; (repeat first | exact .h | refine .t ?_); exact rfl) | (refine' zs hX rfl rfl rfl hL ?_ ?_ ?_; rotate_left 3; (repeat first | exact .h | apply Sets.t); exact rfl; clear hL; intro w hL) | refine ArReq.i64 (by omega) (by omega) ?_ | refine SeqReq.go hX ?_ | refine OptReq.mk rfl ?_); conv => whnf)
    exact RetReq.mk hL.drop ⟨rfl, by rw [refT_eq]; rfl⟩
end Go.Proofs.YtjdfpdlcmkadnaaGreatDoor.pt
