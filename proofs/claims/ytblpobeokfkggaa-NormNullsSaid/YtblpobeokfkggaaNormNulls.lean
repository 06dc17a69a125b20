/- NormNulls, proved. Conditions: none beyond the row's own. -/
import Derived.Test.YtblpobeokfkggaaNoAwake
import Derived.Test.YtblpobeokfkggaaArSpans
import Derived.Test.YtblpobeokfkggaaRows

namespace Go.Proofs.Ytblpobeokfkggaa.nnl
open Go Go.Ev Go.Proofs Go.ChangeShapes Go.WideShapes Go.ChangeAt Go.RowKit Go.Proofs.Ytblpobeokfkggaa.ar Go.Proofs.Ytblpobeokfkggaa.tabs

theorem any1 (f : Nat → Nat → Bool) : anyT 1 f 0 0 = true := by
  unfold anyT
  show (decide (0 = 0) || thenT 1 (anyK 1 f 0) f 0 0) = true
  simp
theorem then1 (f g : Nat → Nat → Bool) : thenT 1 f g 0 0 = (f 0 0 && g 0 0) := by
  unfold thenT
  simp [List.range, List.range.loop]
theorem nod_nul {bits n : Nat} {x : Nd} (h : rightN x n = true) (f : Nat → Tb) : nodT [] [(bits : Int)] x f 0 0 = nulV bits x fun j => f j 0 0 := by
  obtain ⟨h1, h2, h3, h4⟩ := right_lt h
  unfold nodT nulV
  by_cases k1 : x.k = 1
  · rw [if_pos k1, if_pos (.inl k1)]; rfl
  rw [if_neg k1]
  by_cases k2 : x.k = 2
  · rw [if_pos k2, if_neg (by omega), if_neg (by omega), if_neg (by omega), if_neg (by omega), if_neg (by omega)]; rfl
  rw [if_neg k2]
  by_cases k3 : x.k = 3
  · rw [if_pos k3, if_neg (by omega), if_pos (.inl k3)]; exact then1 _ _
  rw [if_neg k3]
  by_cases k4 : x.k = 4
  · rw [if_pos k4, if_neg (by omega), if_neg (by omega), if_pos k4]
  rw [if_neg k4]
  by_cases k5 : x.k = 5
  · rw [if_pos k5, if_neg (by omega), if_pos (.inr k5)]
  rw [if_neg k5]
  by_cases k6 : x.k = 6
  · rw [if_pos k6, if_neg (by omega), if_neg (by omega), if_neg (by omega), if_pos k6]
    show (decide (0 ≤ 0) && _) = _
    rw [decide_eq_true (Nat.le_refl 0), Bool.true_and]
  rw [if_neg k6]
  by_cases k7 : x.k = 7
  · rw [if_pos k7, if_pos (.inr k7)]; exact any1 _
  rw [if_neg k7]
  by_cases k8 : x.k = 8
  · rw [if_pos k8, if_neg (by omega), if_neg (by omega), if_neg (by omega), if_neg (by omega), if_pos k8]
    show (decide (0 = 0) && _) = _
    rw [decide_eq_true rfl, Bool.true_and]
    show (decide ((bits : Int).toNat / _ % 2 = 1) != _) = _
    rw [Int.toNat_natCast]
  · rw [if_neg k8, if_neg (by omega), if_neg (by omega), if_neg (by omega), if_neg (by omega), if_neg k8]
theorem tab_nul (bits : Nat) {ns : List Nd} (hO : ∀ (i : Nat) (x : Nd), ns[i]? = some x → rightN x i = true) : ∀ (i : Nat), i < ns.length → tabN [] [(bits : Int)] ns i 0 0 = nulN bits ns i := by
  intro i
  induction i using Nat.strongRecOn with
  | ind i ih =>
    intro hi
    have hx := List.getElem?_eq_getElem hi
    rw [tabN_eq _ _ hO hx, nulN_eq bits hO hx, nod_nul (hO i _ hx)]
    exact nulV_ext (hO i _ hx) fun j hj => ih j hj (by omega)

theorem few_fn (m : Mem) (A : Option Addr) (n c : Nat) : FnV Try.prog 7 [.slice A n c] m (.bool (decide ((n : Int) ≤ 40))) := by
  refine Fn.enter (N := 6) hX Try.func7 rfl rfl (by show _ ≤ _; simp) (fun w0 hL => ?_)
  conv => whnf
  conv => whnf
  repeat ((first | refine BrReq.tt ?_ | refine BrReq.ff ?_ | (refine' zl hX rfl rfl hL ?_ ?_ ?_; rotate_left 4; (repeat first | exact .h | refine .t ?_); exact rfl) | (refine' zm hX rfl rfl hL ?_ ?_ ?_; rotate_left 3; (repeat first | exact .h | refine .t ?_); exact rfl) | (refine' zs hX rfl rfl rfl hL ?_ ?_ ?_; rotate_left 3; (repeat first | exact .h | apply Sets.t); exact rfl; clear hL; intro w hL) | refine ArReq.i64 (by omega) (by omega) ?_ | refine SeqReq.go hX ?_ | refine OptReq.mk rfl ?_); conv => whnf)
  exact RetReq.bool hL rfl

set_option maxHeartbeats 2000000 in
theorem walk (m : Mem) (v : Value) (l : List Nd) (hl : Sl m 8 isNd v l) (hi : ∀ x ∈ l, InN x) (q : Int) (bits : Nat) (hbits : bits < 256) : FnV Try.prog 3 [v, .int .i64 q, .int .u8 bits] m (.bool true) := by
  obtain ⟨A, n, c, rfl, -⟩ := id hl
  have hok := okA_made l [] okA_nil hi
  refine Fn.enter (N := 48) hX Try.func3 rfl rfl (by show _ ≤ _; simp) (fun w0 hL => ?_)
  conv => whnf
  conv => whnf
  repeat ((first | refine BrReq.tt ?_ | refine BrReq.ff ?_ | (refine' zl hX rfl rfl hL ?_ ?_ ?_; rotate_left 4; (repeat first | exact .h | refine .t ?_); exact rfl) | (refine' zm hX rfl rfl hL ?_ ?_ ?_; rotate_left 3; (repeat first | exact .h | refine .t ?_); exact rfl) | (refine' zs hX rfl rfl rfl hL ?_ ?_ ?_; rotate_left 3; (repeat first | exact .h | apply Sets.t); exact rfl; clear hL; intro w hL) | refine ArReq.i64 (by omega) (by omega) ?_ | refine SeqReq.go hX ?_ | refine OptReq.mk rfl ?_); conv => whnf)
  refine CallReq.val (awake_fn m) hL ?_
  clear hL
  intro w hL
  conv => whnf
  repeat ((first | refine BrReq.tt ?_ | refine BrReq.ff ?_ | (refine' zl hX rfl rfl hL ?_ ?_ ?_; rotate_left 4; (repeat first | exact .h | refine .t ?_); exact rfl) | (refine' zm hX rfl rfl hL ?_ ?_ ?_; rotate_left 3; (repeat first | exact .h | refine .t ?_); exact rfl) | (refine' zs hX rfl rfl rfl hL ?_ ?_ ?_; rotate_left 3; (repeat first | exact .h | apply Sets.t); exact rfl; clear hL; intro w hL) | refine ArReq.i64 (by omega) (by omega) ?_ | refine SeqReq.go hX ?_ | refine OptReq.mk rfl ?_); conv => whnf)
  refine CallReq.val (few_fn m A n c) hL ?_
  clear hL
  intro w hL
  by_cases h40 : (n : Int) ≤ 40
  rotate_left
  · rw [decide_eq_false h40]
    conv => whnf
    repeat ((first | refine BrReq.tt ?_ | refine BrReq.ff ?_ | (refine' zl hX rfl rfl hL ?_ ?_ ?_; rotate_left 4; (repeat first | exact .h | refine .t ?_); exact rfl) | (refine' zm hX rfl rfl hL ?_ ?_ ?_; rotate_left 3; (repeat first | exact .h | refine .t ?_); exact rfl) | (refine' zs hX rfl rfl rfl hL ?_ ?_ ?_; rotate_left 3; (repeat first | exact .h | apply Sets.t); exact rfl; clear hL; intro w hL) | refine ArReq.i64 (by omega) (by omega) ?_ | refine SeqReq.go hX ?_ | refine OptReq.mk rfl ?_); conv => whnf)
    refine CallReq.val (awake_fn m) hL ?_
    clear hL
    intro w hL
    conv => whnf
    repeat ((first | refine BrReq.tt ?_ | refine BrReq.ff ?_ | (refine' zl hX rfl rfl hL ?_ ?_ ?_; rotate_left 4; (repeat first | exact .h | refine .t ?_); exact rfl) | (refine' zm hX rfl rfl hL ?_ ?_ ?_; rotate_left 3; (repeat first | exact .h | refine .t ?_); exact rfl) | (refine' zs hX rfl rfl rfl hL ?_ ?_ ?_; rotate_left 3; (repeat first | exact .h | apply Sets.t); exact rfl; clear hL; intro w hL) | refine ArReq.i64 (by omega) (by omega) ?_ | refine SeqReq.go hX ?_ | refine OptReq.mk rfl ?_); conv => whnf)
    exact RetReq.bool hL rfl
  rw [decide_eq_true h40]
  conv => whnf
  repeat ((first | refine BrReq.tt ?_ | refine BrReq.ff ?_ | (refine' zl hX rfl rfl hL ?_ ?_ ?_; rotate_left 4; (repeat first | exact .h | refine .t ?_); exact rfl) | (refine' zm hX rfl rfl hL ?_ ?_ ?_; rotate_left 3; (repeat first | exact .h | refine .t ?_); exact rfl) | (refine' zs hX rfl rfl rfl hL ?_ ?_ ?_; rotate_left 3; (repeat first | exact .h | apply Sets.t); exact rfl; clear hL; intro w hL) | refine ArReq.i64 (by omega) (by omega) ?_ | refine SeqReq.go hX ?_ | refine OptReq.mk rfl ?_); conv => whnf)
  refine CallReq.mk (L1 := []) (L2 := []) (Made_fn m _ l hl hi) hL ?_
  clear hL
  rintro u mx La w hL - ⟨hmx, ab, rfl, hA⟩
  rw [hmx, List.append_nil] at hL
  clear hmx mx
  generalize madeN l [] = ns at hA hok
  have hnull := Null_fn m ab bits ns La hA hok hbits q
  have hlen := hok.len
  by_cases h0 : q < 0
  · conv => whnf
    repeat ((first | refine BrReq.yes (by omega) ?_ | refine BrReq.tt ?_ | refine BrReq.ff ?_ | (refine' zl hX rfl rfl hL ?_ ?_ ?_; rotate_left 4; (repeat first | exact .h | refine .t ?_); exact rfl) | (refine' zm hX rfl rfl hL ?_ ?_ ?_; rotate_left 3; (repeat first | exact .h | refine .t ?_); exact rfl) | (refine' zs hX rfl rfl rfl hL ?_ ?_ ?_; rotate_left 3; (repeat first | exact .h | apply Sets.t); exact rfl; clear hL; intro w hL) | refine ArReq.i64 (by omega) (by omega) ?_ | refine SeqReq.go hX ?_ | refine OptReq.mk rfl ?_); conv => whnf)
    refine CallReq.lm (L1 := La) (L2 := []) hnull (by rw [List.append_nil]; exact hL) ?_
    clear hL
    intro m1 w hm1 hL
    rw [if_neg (show ¬ (0 ≤ q ∧ q < ns.length) by omega)]
    conv => whnf
    repeat ((first | refine BrReq.tt ?_ | refine BrReq.ff ?_ | (refine' zl hX rfl rfl hL ?_ ?_ ?_; rotate_left 4; (repeat first | exact .h | refine .t ?_); exact rfl) | (refine' zm hX rfl rfl hL ?_ ?_ ?_; rotate_left 3; (repeat first | exact .h | refine .t ?_); exact rfl) | (refine' zs hX rfl rfl rfl hL ?_ ?_ ?_; rotate_left 3; (repeat first | exact .h | apply Sets.t); exact rfl; clear hL; intro w hL) | refine ArReq.i64 (by omega) (by omega) ?_ | refine SeqReq.go hX ?_ | refine OptReq.mk rfl ?_); conv => whnf)
    exact RetReq.bool (hL.sublist (List.nil_sublist _)) rfl
  conv => whnf
  repeat ((first | refine BrReq.no (by omega) ?_ | refine BrReq.tt ?_ | refine BrReq.ff ?_ | (refine' zl hX rfl rfl hL ?_ ?_ ?_; rotate_left 4; (repeat first | exact .h | refine .t ?_); exact rfl) | (refine' zm hX rfl rfl hL ?_ ?_ ?_; rotate_left 3; (repeat first | exact .h | refine .t ?_); exact rfl) | (refine' zs hX rfl rfl rfl hL ?_ ?_ ?_; rotate_left 3; (repeat first | exact .h | apply Sets.t); exact rfl; clear hL; intro w hL) | refine ArReq.i64 (by omega) (by omega) ?_ | refine SeqReq.go hX ?_ | refine OptReq.mk rfl ?_); conv => whnf)
  obtain ⟨A1, c1, mb, L1, hLa, -⟩ := id hA
  refine CallReq.li (L1 := [(ab, arO (.slice A1 ns.length c1) mb)]) (L2 := (mb, mapW (ndW ns 0)) :: L1) (Len_fn m ab mb ns.length c1 A1) (by rw [hLa] at hL; exact hL) ?_
  clear hL
  intro w hL
  replace hL : Ev.Loc m [] w0 m La w := by rw [hLa]; exact hL
  by_cases h1 : (ns.length : Int) ≤ q
  · conv => whnf
    repeat ((first | refine BrReq.yes (by omega) ?_ | refine BrReq.tt ?_ | refine BrReq.ff ?_ | (refine' zl hX rfl rfl hL ?_ ?_ ?_; rotate_left 4; (repeat first | exact .h | refine .t ?_); exact rfl) | (refine' zm hX rfl rfl hL ?_ ?_ ?_; rotate_left 3; (repeat first | exact .h | refine .t ?_); exact rfl) | (refine' zs hX rfl rfl rfl hL ?_ ?_ ?_; rotate_left 3; (repeat first | exact .h | apply Sets.t); exact rfl; clear hL; intro w hL) | refine ArReq.i64 (by omega) (by omega) ?_ | refine SeqReq.go hX ?_ | refine OptReq.mk rfl ?_); conv => whnf)
    refine CallReq.lm (L1 := La) (L2 := []) hnull (by rw [List.append_nil]; exact hL) ?_
    clear hL
    intro m1 w hm1 hL
    rw [if_neg (show ¬ (0 ≤ q ∧ q < ns.length) by omega)]
    conv => whnf
    repeat ((first | refine BrReq.tt ?_ | refine BrReq.ff ?_ | (refine' zl hX rfl rfl hL ?_ ?_ ?_; rotate_left 4; (repeat first | exact .h | refine .t ?_); exact rfl) | (refine' zm hX rfl rfl hL ?_ ?_ ?_; rotate_left 3; (repeat first | exact .h | refine .t ?_); exact rfl) | (refine' zs hX rfl rfl rfl hL ?_ ?_ ?_; rotate_left 3; (repeat first | exact .h | apply Sets.t); exact rfl; clear hL; intro w hL) | refine ArReq.i64 (by omega) (by omega) ?_ | refine SeqReq.go hX ?_ | refine OptReq.mk rfl ?_); conv => whnf)
    exact RetReq.bool (hL.sublist (List.nil_sublist _)) rfl
  conv => whnf
  repeat ((first | refine BrReq.no (by omega) ?_ | refine BrReq.tt ?_ | refine BrReq.ff ?_ | (refine' zl hX rfl rfl hL ?_ ?_ ?_; rotate_left 4; (repeat first | exact .h | refine .t ?_); exact rfl) | (refine' zm hX rfl rfl hL ?_ ?_ ?_; rotate_left 3; (repeat first | exact .h | refine .t ?_); exact rfl) | (refine' zs hX rfl rfl rfl hL ?_ ?_ ?_; rotate_left 3; (repeat first | exact .h | apply Sets.t); exact rfl; clear hL; intro w hL) | refine ArReq.i64 (by omega) (by omega) ?_ | refine SeqReq.go hX ?_ | refine OptReq.mk rfl ?_); conv => whnf)
  refine CallReq.lm (L1 := La) (L2 := []) hnull (by rw [List.append_nil]; exact hL) ?_
  clear hL
  intro m1 w hm1 hL
  rw [List.append_nil] at hL
  rw [if_pos (show 0 ≤ q ∧ q < ns.length by omega)]
  obtain ⟨i, rfl⟩ : ∃ i : Nat, q = i := ⟨q.toNat, by omega⟩
  rw [Int.toNat_natCast]
  conv => whnf
  repeat ((first | refine BrReq.tt ?_ | refine BrReq.ff ?_ | (refine' zl hX rfl rfl hL ?_ ?_ ?_; rotate_left 4; (repeat first | exact .h | refine .t ?_); exact rfl) | (refine' zm hX rfl rfl hL ?_ ?_ ?_; rotate_left 3; (repeat first | exact .h | refine .t ?_); exact rfl) | (refine' zs hX rfl rfl rfl hL ?_ ?_ ?_; rotate_left 3; (repeat first | exact .h | apply Sets.t); exact rfl; clear hL; intro w hL) | refine ArReq.i64 (by omega) (by omega) ?_ | refine SeqReq.go hX ?_ | refine OptReq.mk rfl ?_); conv => whnf)
  refine CallReq.mk (L1 := La) (L2 := []) (Nodes_fn m1 ab ns La hA hok) (by rw [List.append_nil]; exact hL) ?_
  clear hL
  rintro u m2 Lx w hL hm2 ⟨rfl, hnd⟩
  rw [List.append_nil] at hL
  obtain ⟨A2, n2, c2, rfl, -⟩ := id hnd
  conv => whnf
  repeat ((first | refine BrReq.tt ?_ | refine BrReq.ff ?_ | (refine' zl hX rfl rfl hL ?_ ?_ ?_; rotate_left 4; (repeat first | exact .h | refine .t ?_); exact rfl) | (refine' zm hX rfl rfl hL ?_ ?_ ?_; rotate_left 3; (repeat first | exact .h | refine .t ?_); exact rfl) | (refine' zs hX rfl rfl rfl hL ?_ ?_ ?_; rotate_left 3; (repeat first | exact .h | apply Sets.t); exact rfl; clear hL; intro w hL) | refine ArReq.i64 (by omega) (by omega) ?_ | refine SeqReq.go hX ?_ | refine OptReq.mk rfl ?_); conv => whnf)
  refine NewReq.mk hL ?_
  clear hL
  intro g w hL
  conv => whnf
  replace hL : Ev.Loc m [] w0 m2 ([(g, .cells (toArr (ints .u8 [(bits : Int)])) 5 (0, 0))] ++ Lx) w := hL
  obtain ⟨m3, hL3, hm3, hs⟩ := OwnS.freeze (te := 5) (k := .u8) (l := [(bits : Int)]) (OwnS.full (n := 1) (by decide) rfl) hL
  clear hL
  have hL := hL3
  clear hL3
  conv => whnf
  repeat ((first | refine BrReq.tt ?_ | refine BrReq.ff ?_ | (refine' zl hX rfl rfl hL ?_ ?_ ?_; rotate_left 4; (repeat first | exact .h | refine .t ?_); exact rfl) | (refine' zm hX rfl rfl hL ?_ ?_ ?_; rotate_left 3; (repeat first | exact .h | refine .t ?_); exact rfl) | (refine' zs hX rfl rfl rfl hL ?_ ?_ ?_; rotate_left 3; (repeat first | exact .h | apply Sets.t); exact rfl; clear hL; intro w hL) | refine ArReq.i64 (by omega) (by omega) ?_ | refine SeqReq.go hX ?_ | refine OptReq.mk rfl ?_); conv => whnf)
  refine CallReq.mk (L1 := []) (L2 := Lx) (Spans_fn m3 _ ns (hnd.le hm3 fun _ _ _ h => h) hok.inn hok.right hlen (.slice none 0 0) [] (Sl.nil _ _ _) (by simp) (by simp) _ [(bits : Int)] hs (by intro z hz; simp at hz; omega) rfl) hL ?_
  clear hL
  rintro u m4 Ly w hL hm4 ⟨rfl, tabs, htabs, htl, hT⟩
  obtain ⟨At, ct, et, hrt⟩ := hT i (by omega)
  obtain ⟨A5, n5, c5, rfl, hn5, -⟩ := id htabs
  obtain ⟨at_, cst, eat, hcl, hcc, rfl⟩ := htabs.elem i _ et
  have hmc := hcc 0 _ rfl
  have add0 : ∀ x : Addr, x.add 0 = x := fun x => by cases x; rfl
  rw [add0] at hmc
  obtain ⟨At2, ct2, et2, -, -, hrow⟩ := hrt
  cases et2
  obtain ⟨a0, ea0, A0, c0, hm0, hcol⟩ := hrow 0 (by omega)
  obtain ⟨a00, ea00, hm00⟩ := hcol 0 (by omega)
  conv => whnf
  repeat ((first | refine Idx2Req.mk i at_ rfl (by omega) eat ?_ | refine LdReq.one hX rfl rfl hL hmc ?_ | (refine Idx2Req.mk 0 a0 rfl (by simp only [List.length_nil]; omega) ea0 ?_) | refine LdReq.one hX rfl rfl hL hm0 ?_ | (refine Idx2Req.mk 0 a00 rfl (by simp only [List.length_nil]; omega) ea00 ?_) | refine LdReq.one hX rfl rfl hL hm00 ?_ | refine BrReq.tt ?_ | refine BrReq.ff ?_ | (refine' zl hX rfl rfl hL ?_ ?_ ?_; rotate_left 4; (repeat first | exact .h | refine .t ?_); exact rfl) | (refine' zm hX rfl rfl hL ?_ ?_ ?_; rotate_left 3; (repeat first | exact .h | refine .t ?_); exact rfl) | (refine' zs hX rfl rfl rfl hL ?_ ?_ ?_; rotate_left 3; (repeat first | exact .h | apply Sets.t); exact rfl; clear hL; intro w hL) | refine ArReq.i64 (by omega) (by omega) ?_ | refine SeqReq.go hX ?_ | refine OptReq.mk rfl ?_); conv => whnf)
  exact RetReq.bool (hL.sublist (List.nil_sublist _)) (by
    rw [tab_nul bits hok.right i (by omega)]
    cases nulN bits ns i <;> rfl)

/-- What came in reads as a node. -/
theorem nd_of {m : Mem} (n : Nat) (cs : List Value) (h : Rdf X m n 66 cs) : ∃ x, isNd cs x ∧ InN x := by
  obtain ⟨hl, n', hn', hf⟩ := rdf_structL (ti := ⟨.struct [(0, 3), (1, 44), (5, 3), (6, 3), (7, 4)], 8, 64, [.int .i64 0, .int .u64 0, .int .u64 0, .int .u64 0, .int .u64 0, .int .i64 0, .int .i64 0, .bool false]⟩) rfl rfl h
  match cs, hl with
  | [x0, x1, x2, x3, x4, x5, x6, x7], _ =>
    obtain ⟨k, e0, hk⟩ := rdf_int (k := .i64) rfl rfl (hf 0 _ _ rfl rfl)
    obtain ⟨a, e5, ha⟩ := rdf_int (k := .i64) rfl rfl (hf 2 _ _ rfl rfl)
    obtain ⟨b, e6, hb⟩ := rdf_int (k := .i64) rfl rfl (hf 3 _ _ rfl rfl)
    obtain ⟨neg, e7⟩ := rdf_bool rfl rfl (hf 4 _ _ rfl rfl)
    obtain ⟨_, n2, _, hs⟩ := rdf_arrayL (k := 4) (e := 42) (te := ⟨.int .u64, 1, 8, [.int .u64 0]⟩) rfl rfl rfl (hf 1 _ _ rfl rfl)
    obtain ⟨s0, e1, h0⟩ := rdf_int (k := .u64) rfl rfl (hs 0 (by omega))
    obtain ⟨s1, e2, h1⟩ := rdf_int (k := .u64) rfl rfl (hs 1 (by omega))
    obtain ⟨s2, e3, h2⟩ := rdf_int (k := .u64) rfl rfl (hs 2 (by omega))
    obtain ⟨s3, e4, h3⟩ := rdf_int (k := .u64) rfl rfl (hs 3 (by omega))
    have e0 : [x0] = [Value.int .i64 k] := e0
    have e1 : [x1] = [Value.int .u64 s0] := e1
    have e2 : [x2] = [Value.int .u64 s1] := e2
    have e3 : [x3] = [Value.int .u64 s2] := e3
    have e4 : [x4] = [Value.int .u64 s3] := e4
    have e5 : [x5] = [Value.int .i64 a] := e5
    have e6 : [x6] = [Value.int .i64 b] := e6
    have e7 : [x7] = [Value.bool neg] := e7
    cases e0; cases e1; cases e2; cases e3; cases e4; cases e5; cases e6; cases e7
    exact ⟨⟨k, s0, s1, s2, s3, a, b, neg⟩, rfl, hk, h0, h1, h2, h3, ha, hb⟩
theorem sl_in {m : Mem} {v : Value} {l : List Nd} (h : Sl m 8 (fun cs x => isNd cs x ∧ InN x) v l) : Sl m 8 isNd v l ∧ ∀ x ∈ l, InN x := by
  refine ⟨h.le (Mem.Le.refl m) fun _ _ _ h => h.1, fun x hx => ?_⟩
  obtain ⟨i, hi, rfl⟩ := List.getElem_of_mem hx
  obtain ⟨A, n, c, rfl, -⟩ := id h
  obtain ⟨a, cs, -, -, -, h2⟩ := h.elem i _ (List.getElem?_eq_getElem hi)
  exact h2.2

theorem contract (m : Mem) (vs : List Value) (hl : vs.length = Try.f3.params.size) (hg : ∀ (j : Nat) t v, Try.f3.params.toList[j]? = some t → vs[j]? = some v → Given X m t v) :
    Ev.Fn Try.prog 3 vs m [] fun _ _ v => v = .bool true := by
  match vs, hl with
  | [va, vb, vc], _ =>
    obtain ⟨l, h1, _⟩ := (hg 0 22 va rfl rfl).slice (R := fun cs x => isNd cs x ∧ InN x) rfl rfl rfl (fun n cs _ h => nd_of n cs h)
    obtain ⟨h1, h2⟩ := sl_in h1
    obtain ⟨q, rfl, -⟩ := (hg 1 3 vb rfl rfl).int (k := .i64) rfl rfl
    obtain ⟨z, rfl, hz0, hz1⟩ := (hg 2 5 vc rfl rfl).int (k := .u8) rfl rfl
    have hz0 : 0 ≤ z := hz0
    have hz1 : z ≤ 255 := hz1
    obtain ⟨b, rfl⟩ : ∃ b : Nat, z = b := ⟨z.toNat, by omega⟩
    exact (walk m va l h1 h2 q b (by omega)).mono fun _ _ _ _ h => h.2

theorem spec (H : Type) (ds : List (DataW H)) (h : ds.length = Try.f3.params.size) : Rows.normNullsSpec.fn H ds = { results := [.lit (.bool true)], args := ds } := by
  match ds, h with
  | [_, _, _], _ => rfl

set_option maxRecDepth 100000 in
theorem lifted (os : Os) (started : os.Started) (H : Type) (enc : TypeId × Value → H) :
    ReturnsInHanded {} Try.checked os 3 .any (Rows.normNullsSpec.pre6 enc Try.prog Try.f3 Rows.normNullsRow.domain false) (Rows.normNullsSpec.post enc Try.prog Try.f3 false true false false) := by
  refine returnsInHanded_of_change_sized (C := Try.checked) (by kernel_rfl) started (by kernel_rfl) Try.func3
    (ChangeSpec.witness6 (enc := enc) (C := Try.checked) false ⟨#[], #[.slice none 0 0, .int .i64 0, .int .u8 0], []⟩ 8 (by kernel_rfl) (by kernel_rfl) (by kernel_rfl) (by kernel_rfl)) ?_
  intro W base args ds gs before hval hW _ hsz _
  exact law_core hX (by kernel_rfl) rfl rfl Try.underlying4 (by decide +kernel) (fun H ds h => spec H ds h) contract W base args ds gs before hval hW hsz

set_option maxRecDepth 100000 in
theorem proved : Rows.NormNullsSaid :=
  OpenClaim.holds_of_wide 3 Try.f3 rfl rfl rfl rfl rfl rfl rfl ⟨rfl, rfl, rfl, rfl, rfl⟩ rfl rfl rfl rfl rfl (by kernel_rfl) Try.func3 (by kernel_rfl)
    (of_decide_eq_true (by kernel_rfl)) (by unfold Func.isWrapper; first | (rw [if_pos (by decide +kernel)]; kernel_rfl) | (rw [if_neg (by decide +kernel)]; exact ⟨rfl, rfl⟩))
    (fun os started H enc _ => lifted os started H enc)
end Go.Proofs.Ytblpobeokfkggaa.nnl
