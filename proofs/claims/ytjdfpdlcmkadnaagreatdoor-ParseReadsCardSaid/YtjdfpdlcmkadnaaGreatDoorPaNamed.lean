/- A name is read as what it stands for: the walk. Conditions: the laid variables are what they are. -/
import Derived.Test.YtjdfpdlcmkadnaaGreatDoorPaNames
import Derived.Test.YtjdfpdlcmkadnaaGreatDoorLxRefB
import Derived.Test.YtjdfpdlcmkadnaaGreatDoorTreeAlike
import Derived.Test.YtjdfpdlcmkadnaaGreatDoorLxLaid

namespace Go.Proofs.YtjdfpdlcmkadnaaGreatDoor.pa
open Go Go.Ev Go.Proofs Go.Proofs.YtjdfpdlcmkadnaaGreatDoor.lx Go.Proofs.YtjdfpdlcmkadnaaGreatDoor.tree

set_option maxRecDepth 100000 in
theorem parse_awake : parseT [97] [] = (bytesR (putF zeroF 97), 0, 0) := by
  have hw : outT [97] = ([(0, wB (putF zeroF 97))], 0, 0) := rfl
  unfold parseT
  rw [hw, if_neg (fun h => h rfl)]
  simp only
  generalize hS : startP [(0, wB (putF zeroF 97))] = s
  have k0 : kindP s = 1 := by rw [← hS]; rfl
  have k1 : kindP (nextP s) = 0 := by rw [← hS]; rfl
  have hws : (headW s).2.set = putF zeroF 97 := by rw [← hS]; rfl
  have hP : P ([97] : List UInt8).length [] 24 .alt s = some (bytesR (putF zeroF 97), nextP s) := by
    have b2 := p_both (p_cat1 (p_bytes (fin := ([97] : List UInt8).length) (ds := []) (k := 0) k0) (by rw [k0]; decide) (by rw [k0]; decide) (.inl k1)) (by rw [k1]; decide)
    rw [hws] at b2
    exact P_more _ _ (k := 7) (by decide) (p_alt1 b2 (by rw [k1]; decide))
  rw [show 16 * [(0, wB (putF zeroF 97))].length + 8 = 24 from rfl, hP]
  simp only
  unfold endP
  rw [k1, if_neg (by decide)]
  unfold checkP
  rw [if_neg (by rw [← hS]; exact fun h => h rfl), if_neg (by decide +kernel), if_neg (by decide +kernel), if_pos (by decide +kernel)]
theorem awake_fn (m : Mem) (hQ : LibMem m) : FnV Tryz.prog 5 [] m (.bool true) := by
  have hw := Parse_fn m hQ [97] (by decide) (.slice none 0 0) [] (Sl.nil _ _ _)
  rw [parse_awake] at hw
  refine Fn.enter (N := 16) hX Tryz.func5 rfl rfl (by show _ ≤ _; simp) (fun w0 hL => ?_)
  conv => whnf
  conv => whnf
  repeat ((first | refine BrReq.tt ?_ | refine BrReq.ff ?_ | (refine' zl hX rfl rfl hL ?_ ?_ ?_; rotate_left 4; (repeat first | exact .h | refine .t ?_); exact rfl) | (refine' zm hX rfl rfl hL ?_ ?_ ?_; rotate_left 3; (repeat first | exact .h | refine .t ?_); exact rfl) | (refine' zs hX rfl rfl rfl hL ?_ ?_ ?_; rotate_left 3; (repeat first | exact .h | apply Sets.t); exact rfl; clear hL; intro w hL) | refine ArReq.i64 (by omega) (by omega) ?_ | refine SeqReq.go hX ?_ | refine OptReq.mk rfl ?_); conv => whnf)
  refine CallReq.pure hw hL ?_
  clear hL
  rintro u m1 w hL hm1 ⟨cs, rfl, hr⟩
  obtain ⟨A, n, c, rfl, -⟩ := RepRe.open hr
  refine NewReq.mk hL ?_
  clear hL
  intro b1 w hL
  conv => whnf
  conv => whnf
  repeat ((first | refine BrReq.tt ?_ | refine BrReq.ff ?_ | (refine' zl hX rfl rfl hL ?_ ?_ ?_; rotate_left 4; (repeat first | exact .h | refine .t ?_); exact rfl) | (refine' zm hX rfl rfl hL ?_ ?_ ?_; rotate_left 3; (repeat first | exact .h | refine .t ?_); exact rfl) | (refine' zs hX rfl rfl rfl hL ?_ ?_ ?_; rotate_left 3; (repeat first | exact .h | apply Sets.t); exact rfl; clear hL; intro w hL) | refine ArReq.i64 (by omega) (by omega) ?_ | refine SeqReq.go hX ?_ | refine OptReq.mk rfl ?_); conv => whnf)
  exact RetReq.bool hL.drop rfl

set_option maxHeartbeats 4000000 in
theorem walk (m : Mem) (hQ : LibMem m) (r : Re) (cs : List Value) (h : RepRe m cs r) (n : List UInt8) : FnV Tryz.prog 4 [.agg (toArr cs), .string (bs n)] m (.bool true) := by
  have hsz := bs_size n
  obtain ⟨k1, u0, u1, u2, u3, A1, n1, c1, lo1, hi1, neg1, rfl⟩ := h.form
  refine Fn.enter (N := 128) hX Tryz.func4 rfl rfl (by show _ ≤ _; simp) (fun w0 hL => ?_)
  conv => whnf
  refine NewReq.mk hL ?_
  clear hL
  intro b2 w hL
  conv => whnf
  conv => whnf
  repeat ((first | refine BrReq.tt ?_ | refine BrReq.ff ?_ | (refine' zl hX rfl rfl hL ?_ ?_ ?_; rotate_left 4; (repeat first | exact .h | refine .t ?_); exact rfl) | (refine' zm hX rfl rfl hL ?_ ?_ ?_; rotate_left 3; (repeat first | exact .h | refine .t ?_); exact rfl) | (refine' zs hX rfl rfl rfl hL ?_ ?_ ?_; rotate_left 3; (repeat first | exact .h | apply Sets.t); exact rfl; clear hL; intro w hL) | refine ArReq.i64 (by omega) (by omega) ?_ | refine SeqReq.go hX ?_ | refine OptReq.mk rfl ?_); conv => whnf)
  refine CallReq.val (awake_fn m hQ) hL ?_
  clear hL
  intro w hL
  conv => whnf
  repeat ((first | refine BrReq.tt ?_ | refine BrReq.ff ?_ | (refine' zl hX rfl rfl hL ?_ ?_ ?_; rotate_left 4; (repeat first | exact .h | refine .t ?_); exact rfl) | (refine' zm hX rfl rfl hL ?_ ?_ ?_; rotate_left 3; (repeat first | exact .h | refine .t ?_); exact rfl) | (refine' zs hX rfl rfl rfl hL ?_ ?_ ?_; rotate_left 3; (repeat first | exact .h | apply Sets.t); exact rfl; clear hL; intro w hL) | refine ArReq.i64 (by omega) (by omega) ?_ | refine SeqReq.go hX ?_ | refine OptReq.mk rfl ?_); conv => whnf)
  refine CallReq.val (Few_fn m r _ h 60 (by omega)) hL ?_
  clear hL
  intro w hL
  conv => whnf
  repeat ((first | refine BrReq.tt ?_ | refine BrReq.ff ?_ | (refine' zl hX rfl rfl hL ?_ ?_ ?_; rotate_left 4; (repeat first | exact .h | refine .t ?_); exact rfl) | (refine' zm hX rfl rfl hL ?_ ?_ ?_; rotate_left 3; (repeat first | exact .h | refine .t ?_); exact rfl) | (refine' zs hX rfl rfl rfl hL ?_ ?_ ?_; rotate_left 3; (repeat first | exact .h | apply Sets.t); exact rfl; clear hL; intro w hL) | refine ArReq.i64 (by omega) (by omega) ?_ | refine SeqReq.go hX ?_ | refine OptReq.mk rfl ?_); conv => whnf)
  refine BrReq.not ?_
  refine BrReq.dec (fun f1 => ?_) (fun f1 => ?_)
  rotate_left
  · conv => whnf
    repeat ((first | refine BrReq.yes (by omega) ?_ | refine BrReq.tt ?_ | refine BrReq.ff ?_ | (refine' zl hX rfl rfl hL ?_ ?_ ?_; rotate_left 4; (repeat first | exact .h | refine .t ?_); exact rfl) | (refine' zm hX rfl rfl hL ?_ ?_ ?_; rotate_left 3; (repeat first | exact .h | refine .t ?_); exact rfl) | (refine' zs hX rfl rfl rfl hL ?_ ?_ ?_; rotate_left 3; (repeat first | exact .h | apply Sets.t); exact rfl; clear hL; intro w hL) | refine ArReq.i64 (by omega) (by omega) ?_ | refine SeqReq.go hX ?_ | refine OptReq.mk rfl ?_); conv => whnf)
    refine CallReq.val (awake_fn m hQ) hL ?_
    clear hL
    intro w hL
    conv => whnf
    repeat ((first | refine BrReq.tt ?_ | refine BrReq.ff ?_ | (refine' zl hX rfl rfl hL ?_ ?_ ?_; rotate_left 4; (repeat first | exact .h | refine .t ?_); exact rfl) | (refine' zm hX rfl rfl hL ?_ ?_ ?_; rotate_left 3; (repeat first | exact .h | refine .t ?_); exact rfl) | (refine' zs hX rfl rfl rfl hL ?_ ?_ ?_; rotate_left 3; (repeat first | exact .h | apply Sets.t); exact rfl; clear hL; intro w hL) | refine ArReq.i64 (by omega) (by omega) ?_ | refine SeqReq.go hX ?_ | refine OptReq.mk rfl ?_); conv => whnf)
    exact RetReq.bool hL.drop rfl
  have hs := small_of _ r f1
  by_cases h2 : 100 < n.length
  · conv => whnf
    repeat ((first | refine BrReq.yes (by omega) ?_ | refine BrReq.tt ?_ | refine BrReq.ff ?_ | (refine' zl hX rfl rfl hL ?_ ?_ ?_; rotate_left 4; (repeat first | exact .h | refine .t ?_); exact rfl) | (refine' zm hX rfl rfl hL ?_ ?_ ?_; rotate_left 3; (repeat first | exact .h | refine .t ?_); exact rfl) | (refine' zs hX rfl rfl rfl hL ?_ ?_ ?_; rotate_left 3; (repeat first | exact .h | apply Sets.t); exact rfl; clear hL; intro w hL) | refine ArReq.i64 (by omega) (by omega) ?_ | refine SeqReq.go hX ?_ | refine OptReq.mk rfl ?_); conv => whnf)
    refine CallReq.val (awake_fn m hQ) hL ?_
    clear hL
    intro w hL
    conv => whnf
    repeat ((first | refine BrReq.tt ?_ | refine BrReq.ff ?_ | (refine' zl hX rfl rfl hL ?_ ?_ ?_; rotate_left 4; (repeat first | exact .h | refine .t ?_); exact rfl) | (refine' zm hX rfl rfl hL ?_ ?_ ?_; rotate_left 3; (repeat first | exact .h | refine .t ?_); exact rfl) | (refine' zs hX rfl rfl rfl hL ?_ ?_ ?_; rotate_left 3; (repeat first | exact .h | apply Sets.t); exact rfl; clear hL; intro w hL) | refine ArReq.i64 (by omega) (by omega) ?_ | refine SeqReq.go hX ?_ | refine OptReq.mk rfl ?_); conv => whnf)
    exact RetReq.bool hL.drop rfl
  conv => whnf
  repeat ((first | refine BrReq.no (by omega) ?_ | refine BrReq.tt ?_ | refine BrReq.ff ?_ | (refine' zl hX rfl rfl hL ?_ ?_ ?_; rotate_left 4; (repeat first | exact .h | refine .t ?_); exact rfl) | (refine' zm hX rfl rfl hL ?_ ?_ ?_; rotate_left 3; (repeat first | exact .h | refine .t ?_); exact rfl) | (refine' zs hX rfl rfl rfl hL ?_ ?_ ?_; rotate_left 3; (repeat first | exact .h | apply Sets.t); exact rfl; clear hL; intro w hL) | refine ArReq.i64 (by omega) (by omega) ?_ | refine SeqReq.go hX ?_ | refine OptReq.mk rfl ?_); conv => whnf)
  refine CallReq.val (refFormed_fn m r _ h) hL ?_
  clear hL
  intro w hL
  cases hf : formedR r with
  | false =>
    conv => whnf
    repeat ((first | refine BrReq.yes (by omega) ?_ | refine BrReq.tt ?_ | refine BrReq.ff ?_ | (refine' zl hX rfl rfl hL ?_ ?_ ?_; rotate_left 4; (repeat first | exact .h | refine .t ?_); exact rfl) | (refine' zm hX rfl rfl hL ?_ ?_ ?_; rotate_left 3; (repeat first | exact .h | refine .t ?_); exact rfl) | (refine' zs hX rfl rfl rfl hL ?_ ?_ ?_; rotate_left 3; (repeat first | exact .h | apply Sets.t); exact rfl; clear hL; intro w hL) | refine ArReq.i64 (by omega) (by omega) ?_ | refine SeqReq.go hX ?_ | refine OptReq.mk rfl ?_); conv => whnf)
    refine CallReq.val (awake_fn m hQ) hL ?_
    clear hL
    intro w hL
    conv => whnf
    repeat ((first | refine BrReq.tt ?_ | refine BrReq.ff ?_ | (refine' zl hX rfl rfl hL ?_ ?_ ?_; rotate_left 4; (repeat first | exact .h | refine .t ?_); exact rfl) | (refine' zm hX rfl rfl hL ?_ ?_ ?_; rotate_left 3; (repeat first | exact .h | refine .t ?_); exact rfl) | (refine' zs hX rfl rfl rfl hL ?_ ?_ ?_; rotate_left 3; (repeat first | exact .h | apply Sets.t); exact rfl; clear hL; intro w hL) | refine ArReq.i64 (by omega) (by omega) ?_ | refine SeqReq.go hX ?_ | refine OptReq.mk rfl ?_); conv => whnf)
    exact RetReq.bool hL.drop rfl
  | true =>
  conv => whnf
  repeat ((first | refine BrReq.tt ?_ | refine BrReq.ff ?_ | (refine' zl hX rfl rfl hL ?_ ?_ ?_; rotate_left 4; (repeat first | exact .h | refine .t ?_); exact rfl) | (refine' zm hX rfl rfl hL ?_ ?_ ?_; rotate_left 3; (repeat first | exact .h | refine .t ?_); exact rfl) | (refine' zs hX rfl rfl rfl hL ?_ ?_ ?_; rotate_left 3; (repeat first | exact .h | apply Sets.t); exact rfl; clear hL; intro w hL) | refine ArReq.i64 (by omega) (by omega) ?_ | refine SeqReq.go hX ?_ | refine OptReq.mk rfl ?_); conv => whnf)
  refine CallReq.val (refNamed_fn m n (by omega)) hL ?_
  clear hL
  intro w hL
  cases hn : namedT n with
  | false =>
    conv => whnf
    repeat ((first | refine BrReq.yes (by omega) ?_ | refine BrReq.tt ?_ | refine BrReq.ff ?_ | (refine' zl hX rfl rfl hL ?_ ?_ ?_; rotate_left 4; (repeat first | exact .h | refine .t ?_); exact rfl) | (refine' zm hX rfl rfl hL ?_ ?_ ?_; rotate_left 3; (repeat first | exact .h | refine .t ?_); exact rfl) | (refine' zs hX rfl rfl rfl hL ?_ ?_ ?_; rotate_left 3; (repeat first | exact .h | apply Sets.t); exact rfl; clear hL; intro w hL) | refine ArReq.i64 (by omega) (by omega) ?_ | refine SeqReq.go hX ?_ | refine OptReq.mk rfl ?_); conv => whnf)
    refine CallReq.val (awake_fn m hQ) hL ?_
    clear hL
    intro w hL
    conv => whnf
    repeat ((first | refine BrReq.tt ?_ | refine BrReq.ff ?_ | (refine' zl hX rfl rfl hL ?_ ?_ ?_; rotate_left 4; (repeat first | exact .h | refine .t ?_); exact rfl) | (refine' zm hX rfl rfl hL ?_ ?_ ?_; rotate_left 3; (repeat first | exact .h | refine .t ?_); exact rfl) | (refine' zs hX rfl rfl rfl hL ?_ ?_ ?_; rotate_left 3; (repeat first | exact .h | apply Sets.t); exact rfl; clear hL; intro w hL) | refine ArReq.i64 (by omega) (by omega) ?_ | refine SeqReq.go hX ?_ | refine OptReq.mk rfl ?_); conv => whnf)
    exact RetReq.bool hL.drop rfl
  | true =>
  conv => whnf
  repeat ((first | refine BrReq.tt ?_ | refine BrReq.ff ?_ | (refine' zl hX rfl rfl hL ?_ ?_ ?_; rotate_left 4; (repeat first | exact .h | refine .t ?_); exact rfl) | (refine' zm hX rfl rfl hL ?_ ?_ ?_; rotate_left 3; (repeat first | exact .h | refine .t ?_); exact rfl) | (refine' zs hX rfl rfl rfl hL ?_ ?_ ?_; rotate_left 3; (repeat first | exact .h | apply Sets.t); exact rfl; clear hL; intro w hL) | refine ArReq.i64 (by omega) (by omega) ?_ | refine SeqReq.go hX ?_ | refine OptReq.mk rfl ?_); conv => whnf)
  refine NewReq.mk hL ?_
  clear hL
  intro b5 w hL
  conv => whnf
  simp only [spliceL, zerosL, reC, toArr, Value.cells, List.set_cons_zero, List.set_cons_succ, List.take, List.drop, Nat.zero_mul, Nat.one_mul, List.replicate, List.cons_append, List.nil_append, List.append_nil] at hL
  replace hL : Ev.Loc m [] w0 m ([(b5, .cells (toArr ([.string (bs n) :: reC k1 u0 u1 u2 u3 (.slice A1 n1 c1) lo1 hi1 neg1, .string (bs n) :: reC 10 0 0 0 0 (.slice none 0 0) 0 0 false].flatten)) 40 (0, 0))] ++ [(b2, .cells (toArr (reC k1 u0 u1 u2 u3 (.slice A1 n1 c1) lo1 hi1 neg1)) 28 (0, 0))]) w := hL
  generalize hdef : [((n, r) : List UInt8 × Re), (n, leafR 10)] = defs
  obtain ⟨mf, Af, cf, ev, hLf, hmf, hsl, -⟩ := OwnS.freezeRows (te := 40) (size := 10) (R := isDef m) (l := defs) (L2 := [_]) (rows := [.string (bs n) :: reC k1 u0 u1 u2 u3 (.slice A1 n1 c1) lo1 hi1 neg1, .string (bs n) :: reC 10 0 0 0 0 (.slice none 0 0) 0 0 false]) (by omega) (OwnS.full (n := 2) (by decide) rfl) hL (by intro x hx; simp only [List.mem_cons, List.not_mem_nil, or_false] at hx; rcases hx with rfl | rfl <;> rfl) (by rw [← hdef]; rfl) (fun i x hx => by
    rw [← hdef] at hx
    match i, hx with
    | 0, hx => cases hx; exact ⟨_, rfl, _, rfl, h⟩
    | 1, hx => cases hx; exact ⟨_, rfl, _, rfl, leaf_rep m 10 (by simp [inI])⟩)
  clear hL
  have hL := hLf
  clear hLf
  have hsl := hsl.le (Mem.Le.refl mf) fun cs d _ ⟨cs', e, hr⟩ => (⟨cs', e, hr.le hmf⟩ : isDef mf cs d)
  cases ev
  have h := h.le hmf
  have hQ := libLe hmf hQ
  have hp1 := Parse_fn mf hQ ([123] ++ n ++ [125]) (by simp only [List.length_append, List.length_cons, List.length_nil]; omega) _ defs hsl
  rw [← hdef, parse_a n r _ hn hf] at hp1
  simp only at hp1
  conv => whnf
  repeat ((first | (refine UGenReq.strB [123] n rfl rfl rfl rfl rfl (by simp only [List.length_cons, List.length_nil]; omega) ?_) | (refine UGenReq.strB ([123] ++ n) [125] rfl rfl rfl rfl rfl (by simp only [List.length_append, List.length_cons, List.length_nil]; omega) ?_) | refine BrReq.tt ?_ | refine BrReq.ff ?_ | (refine' zl hX rfl rfl hL ?_ ?_ ?_; rotate_left 4; (repeat first | exact .h | refine .t ?_); exact rfl) | (refine' zm hX rfl rfl hL ?_ ?_ ?_; rotate_left 3; (repeat first | exact .h | refine .t ?_); exact rfl) | (refine' zs hX rfl rfl rfl hL ?_ ?_ ?_; rotate_left 3; (repeat first | exact .h | apply Sets.t); exact rfl; clear hL; intro w hL) | refine ArReq.i64 (by omega) (by omega) ?_ | refine SeqReq.go hX ?_ | refine OptReq.mk rfl ?_); conv => whnf)
  refine CallReq.pure hp1 hL ?_
  clear hL
  rintro u m1 w hL hm1 ⟨cs1, rfl, hr1⟩
  obtain ⟨x1, y0, y1, y2, y3, A2, n2, c2, lo2, hi2, neg2, rfl⟩ := hr1.form
  refine NewReq.mk hL ?_
  clear hL
  intro b6 w hL
  conv => whnf
  have h := h.le hm1
  have hQ := libLe hm1 hQ
  have hsl := defs_le hsl hm1
  obtain ⟨Y, hYe, hY⟩ : ∃ Y, parseT ([32, 123] ++ n ++ [125, 124, 97]) defs = Y ∧ (deepR 40 r ≤ 39 → sizeR r ≤ 998 → Y = (twoR r, 0, 0)) := ⟨_, rfl, fun a b => by rw [← hdef]; exact parse_b n r _ hn hf a b⟩
  have hp2 := Parse_fn m1 hQ ([32, 123] ++ n ++ [125, 124, 97]) (by simp only [List.length_append, List.length_cons, List.length_nil]; omega) _ defs hsl
  rw [hYe] at hp2
  conv => whnf
  repeat ((first | (refine UGenReq.strB [32, 123] n rfl rfl rfl rfl rfl (by simp only [List.length_cons, List.length_nil]; omega) ?_) | (refine UGenReq.strB ([32, 123] ++ n) [125, 124, 97] rfl rfl rfl rfl rfl (by simp only [List.length_append, List.length_cons, List.length_nil]; omega) ?_) | refine BrReq.tt ?_ | refine BrReq.ff ?_ | (refine' zl hX rfl rfl hL ?_ ?_ ?_; rotate_left 4; (repeat first | exact .h | refine .t ?_); exact rfl) | (refine' zm hX rfl rfl hL ?_ ?_ ?_; rotate_left 3; (repeat first | exact .h | refine .t ?_); exact rfl) | (refine' zs hX rfl rfl rfl hL ?_ ?_ ?_; rotate_left 3; (repeat first | exact .h | apply Sets.t); exact rfl; clear hL; intro w hL) | refine ArReq.i64 (by omega) (by omega) ?_ | refine SeqReq.go hX ?_ | refine OptReq.mk rfl ?_); conv => whnf)
  refine CallReq.pure hp2 hL ?_
  clear hL
  rintro u m2 w hL hm2 ⟨cs2, rfl, hr2⟩
  obtain ⟨x5, z0, z1, z2, z3, A3, n3, c3, lo3, hi3, neg3, rfl⟩ := hr2.form
  refine NewReq.mk hL ?_
  clear hL
  intro b9 w hL
  conv => whnf
  have h := h.le hm2
  have hQ := libLe hm2 hQ
  have hr1 := hr1.le hm2
  have hsl := defs_le hsl hm2
  obtain ⟨Z, hZe, hZ⟩ : ∃ Z, parseT ([97, 123] ++ n ++ [113, 125]) defs = Z ∧ (n.length < 20 → Z = (leafR 0, 1, 5)) := ⟨_, rfl, fun a => parse_c n _ hn a (by
    rw [← hdef]
    intro d hd e
    simp only [List.mem_cons, List.not_mem_nil, or_false] at hd
    rcases hd with rfl | rfl <;> (have := congrArg List.length e; simp at this))⟩
  have hp3 := Parse_fn m2 hQ ([97, 123] ++ n ++ [113, 125]) (by simp only [List.length_append, List.length_cons, List.length_nil]; omega) _ defs hsl
  rw [hZe] at hp3
  conv => whnf
  repeat ((first | (refine UGenReq.strB [97, 123] n rfl rfl rfl rfl rfl (by simp only [List.length_cons, List.length_nil]; omega) ?_) | (refine UGenReq.strB ([97, 123] ++ n) [113, 125] rfl rfl rfl rfl rfl (by simp only [List.length_append, List.length_cons, List.length_nil]; omega) ?_) | refine BrReq.tt ?_ | refine BrReq.ff ?_ | (refine' zl hX rfl rfl hL ?_ ?_ ?_; rotate_left 4; (repeat first | exact .h | refine .t ?_); exact rfl) | (refine' zm hX rfl rfl hL ?_ ?_ ?_; rotate_left 3; (repeat first | exact .h | refine .t ?_); exact rfl) | (refine' zs hX rfl rfl rfl hL ?_ ?_ ?_; rotate_left 3; (repeat first | exact .h | apply Sets.t); exact rfl; clear hL; intro w hL) | refine ArReq.i64 (by omega) (by omega) ?_ | refine SeqReq.go hX ?_ | refine OptReq.mk rfl ?_); conv => whnf)
  refine CallReq.pure hp3 hL ?_
  clear hL
  rintro u m3 w hL hm3 ⟨cs3, rfl, hr3⟩
  obtain ⟨x6, v0, v1, v2, v3, A4, n4, c4, lo4, hi4, neg4, rfl⟩ := hr3.form
  refine NewReq.mk hL ?_
  clear hL
  intro b12 w hL
  conv => whnf
  have h := h.le hm3
  have hr1 := hr1.le hm3
  have hr2 := hr2.le hm3
  replace hL : Ev.Loc m [] w0 m3 [(b12, .cells (toArr zRe) 28 (0, 0)), (b9, .cells (toArr (reC x5 z0 z1 z2 z3 (.slice A3 n3 c3) lo3 hi3 neg3)) 28 (0, 0)), (b6, .cells (toArr (reC x1 y0 y1 y2 y3 (.slice A2 n2 c2) lo2 hi2 neg2)) 28 (0, 0)), (b2, .cells (toArr (reC k1 u0 u1 u2 u3 (.slice A1 n1 c1) lo1 hi1 neg1)) 28 (0, 0))] w := hL
  conv => whnf
  repeat ((first | refine BrReq.tt ?_ | refine BrReq.ff ?_ | (refine' zl hX rfl rfl hL ?_ ?_ ?_; rotate_left 4; (repeat first | exact .h | refine .t ?_); exact rfl) | (refine' zm hX rfl rfl hL ?_ ?_ ?_; rotate_left 3; (repeat first | exact .h | refine .t ?_); exact rfl) | (refine' zs hX rfl rfl rfl hL ?_ ?_ ?_; rotate_left 3; (repeat first | exact .h | apply Sets.t); exact rfl; clear hL; intro w hL) | refine ArReq.i64 (by omega) (by omega) ?_ | refine SeqReq.go hX ?_ | refine OptReq.mk rfl ?_); conv => whnf)
  have hd40 : deepR 40 r ≤ 40 := by
    have := hf
    simp only [formedR, Bool.and_eq_true, decide_eq_true_eq] at this
    exact this.1.1
  refine BrReq.dec (fun h20 => ?_) (fun h20 => ?_)
  · obtain rfl := hZ (by omega)
    conv => whnf
    repeat ((first | refine BrReq.tt ?_ | refine BrReq.ff ?_ | (refine' zl hX rfl rfl hL ?_ ?_ ?_; rotate_left 4; (repeat first | exact .h | refine .t ?_); exact rfl) | (refine' zm hX rfl rfl hL ?_ ?_ ?_; rotate_left 3; (repeat first | exact .h | refine .t ?_); exact rfl) | (refine' zs hX rfl rfl rfl hL ?_ ?_ ?_; rotate_left 3; (repeat first | exact .h | apply Sets.t); exact rfl; clear hL; intro w hL) | refine ArReq.i64 (by omega) (by omega) ?_ | refine SeqReq.go hX ?_ | refine OptReq.mk rfl ?_); conv => whnf)
    refine CallReq.val (refDeep_fn 40 m3 r _ h (by omega)) hL ?_
    clear hL
    intro w hL
    by_cases hd : 39 < deepR 40 r
    · conv => whnf
      repeat ((first | refine BrReq.yes (by omega) ?_ | refine BrReq.tt ?_ | refine BrReq.ff ?_ | (refine' zl hX rfl rfl hL ?_ ?_ ?_; rotate_left 4; (repeat first | exact .h | refine .t ?_); exact rfl) | (refine' zm hX rfl rfl hL ?_ ?_ ?_; rotate_left 3; (repeat first | exact .h | refine .t ?_); exact rfl) | (refine' zs hX rfl rfl rfl hL ?_ ?_ ?_; rotate_left 3; (repeat first | exact .h | apply Sets.t); exact rfl; clear hL; intro w hL) | refine ArReq.i64 (by omega) (by omega) ?_ | refine SeqReq.go hX ?_ | refine OptReq.mk rfl ?_); conv => whnf)
      refine CallReq.val (refSame_fn 41 m3 r r _ _ hr1 h (by omega)) hL ?_
      clear hL
      intro w hL
      conv => whnf
      repeat ((first | refine BrReq.tt ?_ | refine BrReq.ff ?_ | (refine' zl hX rfl rfl hL ?_ ?_ ?_; rotate_left 4; (repeat first | exact .h | refine .t ?_); exact rfl) | (refine' zm hX rfl rfl hL ?_ ?_ ?_; rotate_left 3; (repeat first | exact .h | refine .t ?_); exact rfl) | (refine' zs hX rfl rfl rfl hL ?_ ?_ ?_; rotate_left 3; (repeat first | exact .h | apply Sets.t); exact rfl; clear hL; intro w hL) | refine ArReq.i64 (by omega) (by omega) ?_ | refine SeqReq.go hX ?_ | refine OptReq.mk rfl ?_); conv => whnf)
      exact RetReq.bool (hL.sublist (List.nil_sublist _)) (sameR_refl 40 r hd40)
    · conv => whnf
      repeat ((first | refine BrReq.no (by omega) ?_ | refine BrReq.tt ?_ | refine BrReq.ff ?_ | (refine' zl hX rfl rfl hL ?_ ?_ ?_; rotate_left 4; (repeat first | exact .h | refine .t ?_); exact rfl) | (refine' zm hX rfl rfl hL ?_ ?_ ?_; rotate_left 3; (repeat first | exact .h | refine .t ?_); exact rfl) | (refine' zs hX rfl rfl rfl hL ?_ ?_ ?_; rotate_left 3; (repeat first | exact .h | apply Sets.t); exact rfl; clear hL; intro w hL) | refine ArReq.i64 (by omega) (by omega) ?_ | refine SeqReq.go hX ?_ | refine OptReq.mk rfl ?_); conv => whnf)
      refine CallReq.val (refSize_fn r m3 _ h) hL ?_
      clear hL
      intro w hL
      by_cases hz : 998 < sizeR r
      · conv => whnf
        repeat ((first | refine BrReq.yes (by omega) ?_ | refine BrReq.tt ?_ | refine BrReq.ff ?_ | (refine' zl hX rfl rfl hL ?_ ?_ ?_; rotate_left 4; (repeat first | exact .h | refine .t ?_); exact rfl) | (refine' zm hX rfl rfl hL ?_ ?_ ?_; rotate_left 3; (repeat first | exact .h | refine .t ?_); exact rfl) | (refine' zs hX rfl rfl rfl hL ?_ ?_ ?_; rotate_left 3; (repeat first | exact .h | apply Sets.t); exact rfl; clear hL; intro w hL) | refine ArReq.i64 (by omega) (by omega) ?_ | refine SeqReq.go hX ?_ | refine OptReq.mk rfl ?_); conv => whnf)
        refine CallReq.val (refSame_fn 41 m3 r r _ _ hr1 h (by omega)) hL ?_
        clear hL
        intro w hL
        conv => whnf
        repeat ((first | refine BrReq.tt ?_ | refine BrReq.ff ?_ | (refine' zl hX rfl rfl hL ?_ ?_ ?_; rotate_left 4; (repeat first | exact .h | refine .t ?_); exact rfl) | (refine' zm hX rfl rfl hL ?_ ?_ ?_; rotate_left 3; (repeat first | exact .h | refine .t ?_); exact rfl) | (refine' zs hX rfl rfl rfl hL ?_ ?_ ?_; rotate_left 3; (repeat first | exact .h | apply Sets.t); exact rfl; clear hL; intro w hL) | refine ArReq.i64 (by omega) (by omega) ?_ | refine SeqReq.go hX ?_ | refine OptReq.mk rfl ?_); conv => whnf)
        exact RetReq.bool (hL.sublist (List.nil_sublist _)) (sameR_refl 40 r hd40)
      · conv => whnf
        repeat ((first | refine BrReq.no (by omega) ?_ | refine BrReq.tt ?_ | refine BrReq.ff ?_ | (refine' zl hX rfl rfl hL ?_ ?_ ?_; rotate_left 4; (repeat first | exact .h | refine .t ?_); exact rfl) | (refine' zm hX rfl rfl hL ?_ ?_ ?_; rotate_left 3; (repeat first | exact .h | refine .t ?_); exact rfl) | (refine' zs hX rfl rfl rfl hL ?_ ?_ ?_; rotate_left 3; (repeat first | exact .h | apply Sets.t); exact rfl; clear hL; intro w hL) | refine ArReq.i64 (by omega) (by omega) ?_ | refine SeqReq.go hX ?_ | refine OptReq.mk rfl ?_); conv => whnf)
        obtain rfl := hY (by omega) (by omega)
        obtain ⟨A3, n3, c3, er2, hs2, -⟩ := hr2.open
        cases er2
        refine DrawReq.plan hX (.fst 0 (.fst 1 (.fst 2 (.fst 3 (.fst 4 (.alt 5 (.fst 6 (.fst 7 (.fst 8 (.fst 9 (.fst 10 (.fst 11 (.fst 12 (.fst 13 (.fst 14 (.fst 15 (.fst 16 (.fst 17 (.fst 18 (.fst 19 (.fst 20 (.fst 21 (.fst 22 (.fst 23 (.fst 24 (.fst 25 (.fst 26 (.fst 27 (.alt 28 (.fst 29 (.fst 30 (.done))) (.stop)))))))))))))))))))))))) (.stop))))))) [(b9, .cells (toArr (reC 4 0 0 0 0 (.slice A3 n3 c3) 0 0 false)) 28 (0, 0)), (b6, .cells (toArr (reC x1 y0 y1 y2 y3 (.slice A2 n2 c2) lo2 hi2 neg2)) 28 (0, 0)), (b2, .cells (toArr (reC k1 u0 u1 u2 u3 (.slice A1 n1 c1) lo1 hi1 neg1)) 28 (0, 0))] (by kernel_rfl) (by kernel_rfl) hL (fun h => h.drop) ?_
        clear hL
        intro w hL
        conv => whnf
        repeat ((first | (refine' zq hX rfl rfl ?_ ?_ ?_; rotate_left 4; (repeat first | exact .h | refine .t ?_); exact rfl) | (refine' zr hX rfl rfl ?_ ?_ ?_; rotate_left 3; (repeat first | exact .h | refine .t ?_); exact rfl) | refine AltReq.one ?_ | refine BrReq.tt ?_ | refine BrReq.ff ?_ | (refine' zl hX rfl rfl hL ?_ ?_ ?_; rotate_left 4; (repeat first | exact .h | refine .t ?_); exact rfl) | (refine' zm hX rfl rfl hL ?_ ?_ ?_; rotate_left 3; (repeat first | exact .h | refine .t ?_); exact rfl) | (refine' zs hX rfl rfl rfl hL ?_ ?_ ?_; rotate_left 3; (repeat first | exact .h | apply Sets.t); exact rfl; clear hL; intro w hL) | refine ArReq.i64 (by omega) (by omega) ?_ | refine SeqReq.go hX ?_ | refine OptReq.mk rfl ?_); conv => whnf)
        refine CallReq.val (refSame_fn 41 m3 r r _ _ hr1 h (by omega)) hL ?_
        clear hL
        intro w hL
        have hsm := sameR_refl 40 r hd40
        rw [hsm]
        refine SReq.mk hL.drop ?_
        replace hL := hL.drop
        conv => whnf
        repeat ((first | (refine' zq hX rfl rfl ?_ ?_ ?_; rotate_left 4; (repeat first | exact .h | refine .t ?_); exact rfl) | (refine' zr hX rfl rfl ?_ ?_ ?_; rotate_left 3; (repeat first | exact .h | refine .t ?_); exact rfl) | refine AltReq.one ?_ | refine BrReq.tt ?_ | refine BrReq.ff ?_ | (refine' zl hX rfl rfl hL ?_ ?_ ?_; rotate_left 4; (repeat first | exact .h | refine .t ?_); exact rfl) | (refine' zm hX rfl rfl hL ?_ ?_ ?_; rotate_left 3; (repeat first | exact .h | refine .t ?_); exact rfl) | (refine' zs hX rfl rfl rfl hL ?_ ?_ ?_; rotate_left 3; (repeat first | exact .h | apply Sets.t); exact rfl; clear hL; intro w hL) | refine ArReq.i64 (by omega) (by omega) ?_ | refine SeqReq.go hX ?_ | refine OptReq.mk rfl ?_); conv => whnf)
        have hn3 : n3 = 2 := hs2.lens.1
        obtain ⟨a, cs', ea, hl9, hcells, hrp⟩ := hs2.elem 0 r rfl
        refine BrReq.yes (by omega) ?_
        conv => whnf
        repeat ((first | refine Idx2Req.mk 0 a rfl (by omega) ea ?_ | refine QLdReq.agg hX rfl rfl hl9 hcells ?_ | (refine' zq hX rfl rfl ?_ ?_ ?_; rotate_left 4; (repeat first | exact .h | refine .t ?_); exact rfl) | (refine' zr hX rfl rfl ?_ ?_ ?_; rotate_left 3; (repeat first | exact .h | refine .t ?_); exact rfl) | refine AltReq.one ?_ | refine BrReq.tt ?_ | refine BrReq.ff ?_ | (refine' zl hX rfl rfl hL ?_ ?_ ?_; rotate_left 4; (repeat first | exact .h | refine .t ?_); exact rfl) | (refine' zm hX rfl rfl hL ?_ ?_ ?_; rotate_left 3; (repeat first | exact .h | refine .t ?_); exact rfl) | (refine' zs hX rfl rfl rfl hL ?_ ?_ ?_; rotate_left 3; (repeat first | exact .h | apply Sets.t); exact rfl; clear hL; intro w hL) | refine ArReq.i64 (by omega) (by omega) ?_ | refine SeqReq.go hX ?_ | refine OptReq.mk rfl ?_); conv => whnf)
        refine CallReq.val (refSame_fn 41 m3 r r _ _ hrp h (by omega)) hL ?_
        clear hL
        intro w hL
        rw [hsm]
        refine SReq.mk hL ?_
        conv => whnf
        repeat ((first | (refine' zq hX rfl rfl ?_ ?_ ?_; rotate_left 4; (repeat first | exact .h | refine .t ?_); exact rfl) | (refine' zr hX rfl rfl ?_ ?_ ?_; rotate_left 3; (repeat first | exact .h | refine .t ?_); exact rfl) | refine AltReq.one ?_ | refine BrReq.tt ?_ | refine BrReq.ff ?_ | (refine' zl hX rfl rfl hL ?_ ?_ ?_; rotate_left 4; (repeat first | exact .h | refine .t ?_); exact rfl) | (refine' zm hX rfl rfl hL ?_ ?_ ?_; rotate_left 3; (repeat first | exact .h | refine .t ?_); exact rfl) | (refine' zs hX rfl rfl rfl hL ?_ ?_ ?_; rotate_left 3; (repeat first | exact .h | apply Sets.t); exact rfl; clear hL; intro w hL) | refine ArReq.i64 (by omega) (by omega) ?_ | refine SeqReq.go hX ?_ | refine OptReq.mk rfl ?_); conv => whnf)
        exact RetReq.bool (hL.sublist (List.nil_sublist _)) rfl
  · conv => whnf
    repeat ((first | refine BrReq.tt ?_ | refine BrReq.ff ?_ | (refine' zl hX rfl rfl hL ?_ ?_ ?_; rotate_left 4; (repeat first | exact .h | refine .t ?_); exact rfl) | (refine' zm hX rfl rfl hL ?_ ?_ ?_; rotate_left 3; (repeat first | exact .h | refine .t ?_); exact rfl) | (refine' zs hX rfl rfl rfl hL ?_ ?_ ?_; rotate_left 3; (repeat first | exact .h | apply Sets.t); exact rfl; clear hL; intro w hL) | refine ArReq.i64 (by omega) (by omega) ?_ | refine SeqReq.go hX ?_ | refine OptReq.mk rfl ?_); conv => whnf)
    refine CallReq.val (refDeep_fn 40 m3 r _ h (by omega)) hL ?_
    clear hL
    intro w hL
    by_cases hd : 39 < deepR 40 r
    · conv => whnf
      repeat ((first | refine BrReq.yes (by omega) ?_ | refine BrReq.tt ?_ | refine BrReq.ff ?_ | (refine' zl hX rfl rfl hL ?_ ?_ ?_; rotate_left 4; (repeat first | exact .h | refine .t ?_); exact rfl) | (refine' zm hX rfl rfl hL ?_ ?_ ?_; rotate_left 3; (repeat first | exact .h | refine .t ?_); exact rfl) | (refine' zs hX rfl rfl rfl hL ?_ ?_ ?_; rotate_left 3; (repeat first | exact .h | apply Sets.t); exact rfl; clear hL; intro w hL) | refine ArReq.i64 (by omega) (by omega) ?_ | refine SeqReq.go hX ?_ | refine OptReq.mk rfl ?_); conv => whnf)
      refine CallReq.val (refSame_fn 41 m3 r r _ _ hr1 h (by omega)) hL ?_
      clear hL
      intro w hL
      conv => whnf
      repeat ((first | refine BrReq.tt ?_ | refine BrReq.ff ?_ | (refine' zl hX rfl rfl hL ?_ ?_ ?_; rotate_left 4; (repeat first | exact .h | refine .t ?_); exact rfl) | (refine' zm hX rfl rfl hL ?_ ?_ ?_; rotate_left 3; (repeat first | exact .h | refine .t ?_); exact rfl) | (refine' zs hX rfl rfl rfl hL ?_ ?_ ?_; rotate_left 3; (repeat first | exact .h | apply Sets.t); exact rfl; clear hL; intro w hL) | refine ArReq.i64 (by omega) (by omega) ?_ | refine SeqReq.go hX ?_ | refine OptReq.mk rfl ?_); conv => whnf)
      exact RetReq.bool (hL.sublist (List.nil_sublist _)) (sameR_refl 40 r hd40)
    · conv => whnf
      repeat ((first | refine BrReq.no (by omega) ?_ | refine BrReq.tt ?_ | refine BrReq.ff ?_ | (refine' zl hX rfl rfl hL ?_ ?_ ?_; rotate_left 4; (repeat first | exact .h | refine .t ?_); exact rfl) | (refine' zm hX rfl rfl hL ?_ ?_ ?_; rotate_left 3; (repeat first | exact .h | refine .t ?_); exact rfl) | (refine' zs hX rfl rfl rfl hL ?_ ?_ ?_; rotate_left 3; (repeat first | exact .h | apply Sets.t); exact rfl; clear hL; intro w hL) | refine ArReq.i64 (by omega) (by omega) ?_ | refine SeqReq.go hX ?_ | refine OptReq.mk rfl ?_); conv => whnf)
      refine CallReq.val (refSize_fn r m3 _ h) hL ?_
      clear hL
      intro w hL
      by_cases hz : 998 < sizeR r
      · conv => whnf
        repeat ((first | refine BrReq.yes (by omega) ?_ | refine BrReq.tt ?_ | refine BrReq.ff ?_ | (refine' zl hX rfl rfl hL ?_ ?_ ?_; rotate_left 4; (repeat first | exact .h | refine .t ?_); exact rfl) | (refine' zm hX rfl rfl hL ?_ ?_ ?_; rotate_left 3; (repeat first | exact .h | refine .t ?_); exact rfl) | (refine' zs hX rfl rfl rfl hL ?_ ?_ ?_; rotate_left 3; (repeat first | exact .h | apply Sets.t); exact rfl; clear hL; intro w hL) | refine ArReq.i64 (by omega) (by omega) ?_ | refine SeqReq.go hX ?_ | refine OptReq.mk rfl ?_); conv => whnf)
        refine CallReq.val (refSame_fn 41 m3 r r _ _ hr1 h (by omega)) hL ?_
        clear hL
        intro w hL
        conv => whnf
        repeat ((first | refine BrReq.tt ?_ | refine BrReq.ff ?_ | (refine' zl hX rfl rfl hL ?_ ?_ ?_; rotate_left 4; (repeat first | exact .h | refine .t ?_); exact rfl) | (refine' zm hX rfl rfl hL ?_ ?_ ?_; rotate_left 3; (repeat first | exact .h | refine .t ?_); exact rfl) | (refine' zs hX rfl rfl rfl hL ?_ ?_ ?_; rotate_left 3; (repeat first | exact .h | apply Sets.t); exact rfl; clear hL; intro w hL) | refine ArReq.i64 (by omega) (by omega) ?_ | refine SeqReq.go hX ?_ | refine OptReq.mk rfl ?_); conv => whnf)
        exact RetReq.bool (hL.sublist (List.nil_sublist _)) (sameR_refl 40 r hd40)
      · conv => whnf
        repeat ((first | refine BrReq.no (by omega) ?_ | refine BrReq.tt ?_ | refine BrReq.ff ?_ | (refine' zl hX rfl rfl hL ?_ ?_ ?_; rotate_left 4; (repeat first | exact .h | refine .t ?_); exact rfl) | (refine' zm hX rfl rfl hL ?_ ?_ ?_; rotate_left 3; (repeat first | exact .h | refine .t ?_); exact rfl) | (refine' zs hX rfl rfl rfl hL ?_ ?_ ?_; rotate_left 3; (repeat first | exact .h | apply Sets.t); exact rfl; clear hL; intro w hL) | refine ArReq.i64 (by omega) (by omega) ?_ | refine SeqReq.go hX ?_ | refine OptReq.mk rfl ?_); conv => whnf)
        obtain rfl := hY (by omega) (by omega)
        obtain ⟨A3, n3, c3, er2, hs2, -⟩ := hr2.open
        cases er2
        refine DrawReq.plan hX (.fst 0 (.fst 1 (.fst 2 (.fst 3 (.fst 4 (.alt 5 (.fst 6 (.fst 7 (.fst 8 (.fst 9 (.fst 10 (.fst 11 (.fst 12 (.fst 13 (.fst 14 (.fst 15 (.fst 16 (.fst 17 (.fst 18 (.fst 19 (.fst 20 (.fst 21 (.fst 22 (.fst 23 (.fst 24 (.fst 25 (.fst 26 (.fst 27 (.alt 28 (.fst 29 (.fst 30 (.done))) (.stop)))))))))))))))))))))))) (.stop))))))) [(b9, .cells (toArr (reC 4 0 0 0 0 (.slice A3 n3 c3) 0 0 false)) 28 (0, 0)), (b6, .cells (toArr (reC x1 y0 y1 y2 y3 (.slice A2 n2 c2) lo2 hi2 neg2)) 28 (0, 0)), (b2, .cells (toArr (reC k1 u0 u1 u2 u3 (.slice A1 n1 c1) lo1 hi1 neg1)) 28 (0, 0))] (by kernel_rfl) (by kernel_rfl) hL (fun h => h.drop) ?_
        clear hL
        intro w hL
        conv => whnf
        repeat ((first | (refine' zq hX rfl rfl ?_ ?_ ?_; rotate_left 4; (repeat first | exact .h | refine .t ?_); exact rfl) | (refine' zr hX rfl rfl ?_ ?_ ?_; rotate_left 3; (repeat first | exact .h | refine .t ?_); exact rfl) | refine AltReq.one ?_ | refine BrReq.tt ?_ | refine BrReq.ff ?_ | (refine' zl hX rfl rfl hL ?_ ?_ ?_; rotate_left 4; (repeat first | exact .h | refine .t ?_); exact rfl) | (refine' zm hX rfl rfl hL ?_ ?_ ?_; rotate_left 3; (repeat first | exact .h | refine .t ?_); exact rfl) | (refine' zs hX rfl rfl rfl hL ?_ ?_ ?_; rotate_left 3; (repeat first | exact .h | apply Sets.t); exact rfl; clear hL; intro w hL) | refine ArReq.i64 (by omega) (by omega) ?_ | refine SeqReq.go hX ?_ | refine OptReq.mk rfl ?_); conv => whnf)
        refine CallReq.val (refSame_fn 41 m3 r r _ _ hr1 h (by omega)) hL ?_
        clear hL
        intro w hL
        have hsm := sameR_refl 40 r hd40
        rw [hsm]
        refine SReq.mk hL.drop ?_
        replace hL := hL.drop
        conv => whnf
        repeat ((first | (refine' zq hX rfl rfl ?_ ?_ ?_; rotate_left 4; (repeat first | exact .h | refine .t ?_); exact rfl) | (refine' zr hX rfl rfl ?_ ?_ ?_; rotate_left 3; (repeat first | exact .h | refine .t ?_); exact rfl) | refine AltReq.one ?_ | refine BrReq.tt ?_ | refine BrReq.ff ?_ | (refine' zl hX rfl rfl hL ?_ ?_ ?_; rotate_left 4; (repeat first | exact .h | refine .t ?_); exact rfl) | (refine' zm hX rfl rfl hL ?_ ?_ ?_; rotate_left 3; (repeat first | exact .h | refine .t ?_); exact rfl) | (refine' zs hX rfl rfl rfl hL ?_ ?_ ?_; rotate_left 3; (repeat first | exact .h | apply Sets.t); exact rfl; clear hL; intro w hL) | refine ArReq.i64 (by omega) (by omega) ?_ | refine SeqReq.go hX ?_ | refine OptReq.mk rfl ?_); conv => whnf)
        have hn3 : n3 = 2 := hs2.lens.1
        obtain ⟨a, cs', ea, hl9, hcells, hrp⟩ := hs2.elem 0 r rfl
        refine BrReq.yes (by omega) ?_
        conv => whnf
        repeat ((first | refine Idx2Req.mk 0 a rfl (by omega) ea ?_ | refine QLdReq.agg hX rfl rfl hl9 hcells ?_ | (refine' zq hX rfl rfl ?_ ?_ ?_; rotate_left 4; (repeat first | exact .h | refine .t ?_); exact rfl) | (refine' zr hX rfl rfl ?_ ?_ ?_; rotate_left 3; (repeat first | exact .h | refine .t ?_); exact rfl) | refine AltReq.one ?_ | refine BrReq.tt ?_ | refine BrReq.ff ?_ | (refine' zl hX rfl rfl hL ?_ ?_ ?_; rotate_left 4; (repeat first | exact .h | refine .t ?_); exact rfl) | (refine' zm hX rfl rfl hL ?_ ?_ ?_; rotate_left 3; (repeat first | exact .h | refine .t ?_); exact rfl) | (refine' zs hX rfl rfl rfl hL ?_ ?_ ?_; rotate_left 3; (repeat first | exact .h | apply Sets.t); exact rfl; clear hL; intro w hL) | refine ArReq.i64 (by omega) (by omega) ?_ | refine SeqReq.go hX ?_ | refine OptReq.mk rfl ?_); conv => whnf)
        refine CallReq.val (refSame_fn 41 m3 r r _ _ hrp h (by omega)) hL ?_
        clear hL
        intro w hL
        rw [hsm]
        refine SReq.mk hL ?_
        conv => whnf
        repeat ((first | (refine' zq hX rfl rfl ?_ ?_ ?_; rotate_left 4; (repeat first | exact .h | refine .t ?_); exact rfl) | (refine' zr hX rfl rfl ?_ ?_ ?_; rotate_left 3; (repeat first | exact .h | refine .t ?_); exact rfl) | refine AltReq.one ?_ | refine BrReq.tt ?_ | refine BrReq.ff ?_ | (refine' zl hX rfl rfl hL ?_ ?_ ?_; rotate_left 4; (repeat first | exact .h | refine .t ?_); exact rfl) | (refine' zm hX rfl rfl hL ?_ ?_ ?_; rotate_left 3; (repeat first | exact .h | refine .t ?_); exact rfl) | (refine' zs hX rfl rfl rfl hL ?_ ?_ ?_; rotate_left 3; (repeat first | exact .h | apply Sets.t); exact rfl; clear hL; intro w hL) | refine ArReq.i64 (by omega) (by omega) ?_ | refine SeqReq.go hX ?_ | refine OptReq.mk rfl ?_); conv => whnf)
        exact RetReq.bool (hL.sublist (List.nil_sublist _)) rfl
end Go.Proofs.YtjdfpdlcmkadnaaGreatDoor.pa
