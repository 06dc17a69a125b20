/- norm: the laws of three nodes hold. Conditions: none. -/
import Derived.Test.YtblpobeokfkggaaNoClo

namespace Go.Proofs.Ytblpobeokfkggaa.ar
open Go Go.Ev Go.Proofs

theorem NoneS_fn (m : Mem) (ab : Nat) (ns : List Nd) (L : Own) (hA : Ar ab ns L) (hN : Nm ns) : Ev.Fn Try.prog 14 [.pointer (some ⟨ab, 0, none⟩)] m L (PutQ ab ns 0 m) := by
  have h := None_fn m ab ns L hA hN.ok
  rw [show (putN ns (ndK 0)).1 = ns from congrArg Prod.fst hN.none, show putI ns (ndK 0) = 0 from congrArg Prod.snd hN.none] at h
  exact h
theorem EmptyS_fn (m : Mem) (ab : Nat) (ns : List Nd) (L : Own) (hA : Ar ab ns L) (hN : Nm ns) : Ev.Fn Try.prog 15 [.pointer (some ⟨ab, 0, none⟩)] m L (PutQ ab ns 1 m) := by
  have h := Empty_fn m ab ns L hA hN.ok
  rw [show (putN ns (ndK 1)).1 = ns from congrArg Prod.fst hN.empty, show putI ns (ndK 1) = 1 from congrArg Prod.snd hN.empty] at h
  exact h
theorem AllS_fn (m : Mem) (ab : Nat) (ns : List Nd) (L : Own) (hA : Ar ab ns L) (hN : Nm ns) : Ev.Fn Try.prog 16 [.pointer (some ⟨ab, 0, none⟩)] m L (PutQ ab ns 2 m) := by
  have h : Ev.Fn Try.prog 16 [.pointer (some ⟨ab, 0, none⟩)] m L (PutQ ab (allN ns).1 (allN ns).2 m) := All_fn m ab ns L hA hN.ok
  rw [hN.all] at h
  exact h
theorem vOf {ns : List Nd} (hN : Nm ns) {g : Bool} {x : Int} {E : El} (h : IsG g ns x E) {V : List Int} (hV : ∀ z, E.P z → z ∈ V) (hw : winsI g ∈ V) : ∀ z, (ofId g ns x).P z → z ∈ V := by
  rcases h.2 with ⟨h1, -⟩ | h1
  · have := top_id hN h.1 h1
    subst this
    intro z hz
    have := hz.1
    rw [ch_leaf _ (hN.g1 g).2.2] at this
    rw [List.mem_singleton.1 this]; exact hw
  · rw [h1]; exact hV
/-- What Or and And are told to make. -/
structure Got (g : Bool) (ab : Nat) (ns : List Nd) (V : List Int) (E : El) (ns' : List Nd) (r : Int) : Prop where
  pre : ns <+: ns'
  nm : Nm ns'
  is : IsG g ns' r E
  len : ns'.length ≤ ns.length + V.length + 1
  same : ∀ r0, IsG g ns r0 E → r = r0 ∧ ns'.length ≤ ns.length + 1
def GotQ (g : Bool) (ab : Nat) (ns : List Nd) (V : List Int) (E : El) : Mem → Own → Value → Prop := fun _ L' u => ∃ ns' r, u = .int .i64 r ∧ Ar ab ns' L' ∧ Got g ab ns V E ns' r
theorem got_of {g : Bool} {ab : Nat} {ns : List Nd} (hN : Nm ns) {V : List Int} {l : List Int} (hl : ∀ x ∈ l, okId ns x) {E : El} (hs : sim g (elL g ns l) E) (hV : ∀ z, (elL g ns l).P z → z ∈ V) (hr : ns.length + V.length + 1 ≤ 20000) : Got g ab ns V E (gputN g ns l).1 (gputN g ns l).2 := by
  obtain ⟨h1, h2, h3⟩ := gput_spec (g := g) hN hl V hV hr
  exact ⟨h1.pre, h1.nm, ⟨h1.is.1, h1.is.2.trans hs⟩, h2, fun r0 h0 => h3 r0 ⟨h0.1, h0.2.trans hs.symm⟩⟩
theorem sim_two {g : Bool} {ns : List Nd} {x y : Int} {E F : El} (hx : IsG g ns x E) (hy : IsG g ns y F) : sim g (elL g ns [x, y]) (join g E F) := by
  rw [elL_two]
  refine (hx.2.join _).trans ?_
  rw [join_comm g E, join_comm g E]
  exact hy.2.join _
theorem Or2_fn (m : Mem) (ab : Nat) (ns : List Nd) (L : Own) (hA : Ar ab ns L) (hN : Nm ns) (V : List Int) (hw : winsI false ∈ V) {x y : Int} {E F : El} (hx : IsG false ns x E) (hy : IsG false ns y F) (hE : ∀ z, E.P z → z ∈ V) (hF : ∀ z, F.P z → z ∈ V) (hr : ns.length + V.length + 1 ≤ 20000) (v : Value) (hv : SlI m .i64 v [x, y]) :
    Ev.Fn Try.prog 19 [.pointer (some ⟨ab, 0, none⟩), v] m L (GotQ false ab ns V (join false E F)) := by
  have hg : Got false ab ns V (join false E F) (gputN false ns [x, y]).1 (gputN false ns [x, y]).2 := got_of hN (by intro z hz; simp at hz; rcases hz with rfl | rfl; exact hx.1; exact hy.1) (sim_two hx hy) (by
    rw [elL_two]
    exact fun z hz => hz.elim (vOf hN hx hE hw z) (vOf hN hy hF hw z)) hr
  exact (OrG_fn m ab ns L hA hN.ok v [x, y] hv (by simp)).mono fun _ _ _ _ ⟨h1, h2⟩ => ⟨_, _, h1, h2, hg⟩
theorem Or0_fn (m : Mem) (ab : Nat) (ns : List Nd) (L : Own) (hA : Ar ab ns L) (hN : Nm ns) (V : List Int) (hr : ns.length + V.length + 1 ≤ 20000) :
    Ev.Fn Try.prog 19 [.pointer (some ⟨ab, 0, none⟩), .slice none 0 0] m L (GotQ false ab ns V (unitE false)) := by
  have hg : Got false ab ns V (unitE false) (gputN false ns []).1 (gputN false ns []).2 := got_of hN (by simp) (by rw [elL_nil]; exact sim.refl _ _) (by rw [elL_nil]; exact fun z hz => hz.elim) hr
  exact (OrG_fn m ab ns L hA hN.ok _ [] (Sl.nil _ _ _) (by simp)).mono fun _ _ _ _ ⟨h1, h2⟩ => ⟨_, _, h1, h2, hg⟩
theorem And2_fn (m : Mem) (ab : Nat) (ns : List Nd) (L : Own) (hA : Ar ab ns L) (hN : Nm ns) (V : List Int) (hw : winsI true ∈ V) {x y : Int} {E F : El} (hx : IsG true ns x E) (hy : IsG true ns y F) (hE : ∀ z, E.P z → z ∈ V) (hF : ∀ z, F.P z → z ∈ V) (hr : ns.length + V.length + 1 ≤ 20000) (v : Value) (hv : SlI m .i64 v [x, y]) :
    Ev.Fn Try.prog 20 [.pointer (some ⟨ab, 0, none⟩), v] m L (GotQ true ab ns V (join true E F)) := by
  have hg : Got true ab ns V (join true E F) (gputN true ns [x, y]).1 (gputN true ns [x, y]).2 := got_of hN (by intro z hz; simp at hz; rcases hz with rfl | rfl; exact hx.1; exact hy.1) (sim_two hx hy) (by
    rw [elL_two]
    exact fun z hz => hz.elim (vOf hN hx hE hw z) (vOf hN hy hF hw z)) hr
  exact (AndG_fn m ab ns L hA hN.ok v [x, y] hv (by simp)).mono fun _ _ _ _ ⟨h1, h2⟩ => ⟨_, _, h1, h2, hg⟩
theorem And0_fn (m : Mem) (ab : Nat) (ns : List Nd) (L : Own) (hA : Ar ab ns L) (hN : Nm ns) (V : List Int) (hr : ns.length + V.length + 1 ≤ 20000) :
    Ev.Fn Try.prog 20 [.pointer (some ⟨ab, 0, none⟩), .slice none 0 0] m L (GotQ true ab ns V (unitE true)) := by
  have hg : Got true ab ns V (unitE true) (gputN true ns []).1 (gputN true ns []).2 := got_of hN (by simp) (by rw [elL_nil]; exact sim.refl _ _) (by rw [elL_nil]; exact fun z hz => hz.elim) hr
  exact (AndG_fn m ab ns L hA hN.ok _ [] (Sl.nil _ _ _) (by simp)).mono fun _ _ _ _ ⟨h1, h2⟩ => ⟨_, _, h1, h2, hg⟩
theorem Or3_fn (m : Mem) (ab : Nat) (ns : List Nd) (L : Own) (hA : Ar ab ns L) (hN : Nm ns) (V : List Int) (hw : winsI false ∈ V) {x y z : Int} {E F G : El} (hx : IsG false ns x E) (hy : IsG false ns y F) (hz : IsG false ns z G) (hE : ∀ z, E.P z → z ∈ V) (hF : ∀ z, F.P z → z ∈ V) (hG : ∀ z, G.P z → z ∈ V) (hr : ns.length + V.length + 1 ≤ 20000) (v : Value) (hv : SlI m .i64 v [x, y, z]) :
    Ev.Fn Try.prog 19 [.pointer (some ⟨ab, 0, none⟩), v] m L (GotQ false ab ns V (join false E (join false F G))) := by
  have hg : Got false ab ns V (join false E (join false F G)) (gputN false ns [x, y, z]).1 (gputN false ns [x, y, z]).2 := got_of hN (by intro q hq; simp at hq; rcases hq with rfl | rfl | rfl; exact hx.1; exact hy.1; exact hz.1) (by
      rw [elL_cons]
      refine (hx.2.join _).trans ?_
      rw [join_comm false E, join_comm false E]
      exact (sim_two hy hz).join _) (by
    rw [elL_cons, elL_two]
    exact fun q hq => hq.elim (vOf hN hx hE hw q) fun hq => hq.elim (vOf hN hy hF hw q) (vOf hN hz hG hw q)) hr
  exact (OrG_fn m ab ns L hA hN.ok v [x, y, z] hv (by simp)).mono fun _ _ _ _ ⟨h1, h2⟩ => ⟨_, _, h1, h2, hg⟩
theorem Cat2_fn (m : Mem) (ab : Nat) (ns : List Nd) (L : Own) (hA : Ar ab ns L) (hN : Nm ns) {x y : Int} (hx : okId ns x) (hy : okId ns y) (hr : ns.length + (clN ns x).length ≤ 20000) :
    Ev.Fn Try.prog 21 [.pointer (some ⟨ab, 0, none⟩), .int .i64 x, .int .i64 y] m L fun _ L' u => ∃ ns' r, u = .int .i64 r ∧ Ar ab ns' L' ∧ CatS ns x y (ns', r) :=
  (CatF_fn ab (x.toNat + 1) m ns L hA hN.ok x y (okId_i64 hN.ok.len hx) (okId_i64 hN.ok.len hy) (fun _ => Nat.lt_succ_self _) (by omega)).mono fun _ _ _ _ ⟨h1, h2⟩ => ⟨_, _, h1, h2, cat_spec hN hx hy hr⟩
/-- What is known of three nodes, in an arena that grows. -/
structure Tri (ns0 : List Nd) (V : List Int) (x y z : Int) (ns : List Nd) (K : Nat) : Prop where
  pre : ns0 <+: ns
  nm0 : Nm ns0
  nm : Nm ns
  len : ns.length ≤ ns0.length + K
  vx : x ∈ V
  vy : y ∈ V
  vz : z ∈ V
  ok : ∀ q ∈ V, okId ns0 q
  mem : ∀ q ∈ V, ∀ g p, (ofId g ns0 q).P p → p ∈ V
  w0 : (0 : Int) ∈ V
  w2 : (2 : Int) ∈ V
  w1 : (1 : Int) ∈ V
theorem Tri.id {ns0 ns : List Nd} {V : List Int} {x y z : Int} {K : Nat} (h : Tri ns0 V x y z ns K) (g : Bool) {q : Int} (hq : q ∈ V) : IsG g ns q (ofId g ns0 q) :=
  ⟨okId_pre h.pre (h.ok q hq), by rw [ofId_pre h.nm0.ok h.nm.ok h.pre g (h.ok q hq)]; exact sim.refl _ _⟩
theorem Tri.wins {ns0 ns : List Nd} {V : List Int} {x y z : Int} {K : Nat} (h : Tri ns0 V x y z ns K) (g : Bool) : winsI g ∈ V := by cases g; exact h.w2; exact h.w0
theorem Tri.up {ns0 ns ns' : List Nd} {V : List Int} {x y z : Int} {K K' : Nat} (h : Tri ns0 V x y z ns K) (hp : ns <+: ns') (hN : Nm ns') (hl : ns'.length ≤ ns.length + K') : Tri ns0 V x y z ns' (K + K') :=
  ⟨h.pre.trans hp, h.nm0, hN, by have := h.len; omega, h.vx, h.vy, h.vz, h.ok, h.mem, h.w0, h.w2, h.w1⟩
theorem unit_none {ns : List Nd} (hN : Nm ns) (g : Bool) : IsG g ns (nothingI g) (unitE g) := by
  refine ⟨(hN.g0 g).1, .inr ?_⟩
  rw [ofId_elI hN, show elI g ns (nothingI g) = [] from if_pos rfl]
  have := elL_nil g ns
  unfold elL at this
  rw [← this]
  exact elOf_congr fun z => by simp
theorem unit_v {V : List Int} (g : Bool) : ∀ z, (unitE g).P z → z ∈ V := fun _ h => h.elim
theorem join_v {V : List Int} {g : Bool} {E F : El} (h : ∀ z, E.P z → z ∈ V) (k : ∀ z, F.P z → z ∈ V) : ∀ z, (join g E F).P z → z ∈ V := fun z hz => hz.elim (h z) (k z)
theorem Tri.top {ns0 ns : List Nd} {V : List Int} {x y z : Int} {K : Nat} (h : Tri ns0 V x y z ns K) (g : Bool) (E : El) : IsG g ns (winsI g) (join g E (ofId g ns0 (winsI g))) :=
  ⟨okId_pre h.pre (h.ok _ (h.wins g)), .inl ⟨top_wins h.nm g, by rw [join_comm]; exact top_join (top_wins h.nm0 g)⟩⟩
theorem CatS.e1 {ns ns' : List Nd} {x r : Int} (hN : Nm ns) (hx : okId ns x) (h : CatS ns x 1 (ns', r)) : r = x := by
  by_cases h0 : x = 0
  · rw [h0]; exact h.no (.inl h0)
  · have h1 := (h.cl h0 (by decide)).2
    rw [cl_one, List.append_nil, ← cl_pre hN.ok h.nm.ok h.pre hx] at h1
    exact cl_inj h.nm.ok h.ok (okId_pre h.pre hx) h1
theorem CatS.e2 {ns ns' : List Nd} {x r : Int} (hN : Nm ns) (hx : okId ns x) (h : CatS ns 1 x (ns', r)) : r = x := by
  by_cases h0 : x = 0
  · rw [h0]; exact h.no (.inr h0)
  · have h1 := (h.cl (by decide) h0).2
    rw [cl_one, List.nil_append, ← cl_pre hN.ok h.nm.ok h.pre hx] at h1
    exact cl_inj h.nm.ok h.ok (okId_pre h.pre hx) h1
theorem cl_zero {ns : List Nd} (hN : Nm ns) : clN ns 0 = [0] := by
  rw [cl_not (by decide), ch_leaf _ (by rw [hN.n0.kind]; decide)]
theorem CatS.clen {ns ns' : List Nd} {x y r : Int} (hN : Nm ns) (h : CatS ns x y (ns', r)) : (clN ns' r).length ≤ (clN ns x).length + (clN ns y).length := by
  by_cases h0 : x = 0 ∨ y = 0
  · have h1 : r = 0 := h.no h0
    have h2 : clN ns' 0 = [0] := cl_zero h.nm
    rw [h1, h2]
    rcases h0 with rfl | rfl
    · rw [cl_zero hN]; simp
    · rw [cl_zero hN]; simp
  · have h1 : clN ns' r = _ := (h.cl (fun e => h0 (.inl e)) fun e => h0 (.inr e)).2
    rw [h1, List.length_append]; exact Nat.le_refl _
theorem cat_assoc {na nb nc nd ne : List Nd} {x y z r1 r2 r3 r4 : Int} (hN : Nm na) (hx : okId na x) (hy : okId na y) (hz : okId na z) (h1 : CatS na x y (nb, r1)) (h2 : CatS nb r1 z (nc, r2)) (h3 : CatS nc y z (nd, r3)) (h4 : CatS nd x r3 (ne, r4)) : r4 = r2 := by
  have pb : na <+: nb := h1.pre
  have pc : na <+: nc := pb.trans h2.pre
  have pd : na <+: nd := pc.trans h3.pre
  by_cases h0 : x = 0 ∨ y = 0 ∨ z = 0
  · have e2 : r2 = 0 := by
      rcases h0 with h0 | h0 | h0
      · exact h2.no (.inl (h1.no (.inl h0)))
      · exact h2.no (.inl (h1.no (.inr h0)))
      · exact h2.no (.inr h0)
    have e4 : r4 = 0 := by
      rcases h0 with h0 | h0 | h0
      · exact h4.no (.inl h0)
      · exact h4.no (.inr (h3.no (.inl h0)))
      · exact h4.no (.inr (h3.no (.inr h0)))
    rw [e2, e4]
  · have x0 : x ≠ 0 := fun e => h0 (.inl e)
    have y0 : y ≠ 0 := fun e => h0 (.inr (.inl e))
    have z0 : z ≠ 0 := fun e => h0 (.inr (.inr e))
    obtain ⟨a1, a2⟩ := h1.cl x0 y0
    obtain ⟨b1, b2⟩ := h2.cl a1 z0
    obtain ⟨c1, c2⟩ := h3.cl y0 z0
    obtain ⟨d1, d2⟩ := h4.cl x0 c1
    simp only at a2 b2 c2 d2
    have hok2 : okId nc r2 := h2.ok
    refine cl_inj h4.nm.ok h4.ok (okId_pre (h3.pre.trans h4.pre) hok2) ?_
    show clN ne r4 = clN ne r2
    rw [d2, c2, cl_pre h2.nm.ok h4.nm.ok (h3.pre.trans h4.pre) hok2, b2, a2, cl_pre hN.ok h1.nm.ok pb hz, cl_pre hN.ok h2.nm.ok pc hy, cl_pre hN.ok h2.nm.ok pc hz, cl_pre hN.ok h3.nm.ok pd hx, List.append_assoc]

set_option maxRecDepth 100000 in
set_option maxHeartbeats 8000000 in
theorem laws_fn (m : Mem) (ab : Nat) (ns0 : List Nd) (L : Own) (hA : Ar ab ns0 L) (V : List Int) (C : Nat) (hC : Clo ns0 V C) (x y z : Int) (hx : x ∈ V) (hy : y ∈ V) (hz : z ∈ V) (hr : ns0.length + 7 * (V.length + 1) + 9 * C + 30 ≤ 20000) :
    Ev.Fn Try.prog 24 [.pointer (some ⟨ab, 0, none⟩), .int .i64 x, .int .i64 y, .int .i64 z] m L fun _ L' u => u = .bool true ∧ ∃ ns', Ar ab ns' L' ∧ Nm ns' ∧ ns0 <+: ns' ∧ ns'.length ≤ ns0.length + 6 * (V.length + 1) + 9 * C + 30 := by
  have hT : Tri ns0 V x y z ns0 0 := ⟨List.prefix_refl _, hC.nm, hC.nm, Nat.le_refl _, hx, hy, hz, hC.ok, hC.mem, hC.v0, hC.v2, hC.v1⟩
  refine Fn.enter (N := 243) hX Try.func24 rfl rfl (by show _ ≤ _; simp) (fun w0 hL => ?_)
  conv => whnf
  generalize keys L = S0 at hL ⊢
  conv => whnf
  repeat ((first | refine BrReq.tt ?_ | refine BrReq.ff ?_ | (refine' zl hX rfl rfl hL ?_ ?_ ?_; rotate_left 4; (repeat first | exact .h | refine .t ?_); exact rfl) | (refine' zm hX rfl rfl hL ?_ ?_ ?_; rotate_left 3; (repeat first | exact .h | refine .t ?_); exact rfl) | (refine' zs hX rfl rfl rfl hL ?_ ?_ ?_; rotate_left 3; (repeat first | exact .h | apply Sets.t); exact rfl; clear hL; intro w hL) | refine ArReq.i64 (by omega) (by omega) ?_ | refine SeqReq.go hX ?_ | refine OptReq.mk rfl ?_); conv => whnf)
  refine CallReq.mk (L1 := L) (L2 := []) (NoneS_fn m ab ns0 L hA hC.nm) (by rw [List.append_nil]; exact hL) ?_
  clear hL
  rintro u mx L w hL - ⟨hmx, rfl, hA⟩
  rw [hmx, List.append_nil] at hL
  clear hmx mx
  conv => whnf
  repeat ((first | refine BrReq.tt ?_ | refine BrReq.ff ?_ | (refine' zl hX rfl rfl hL ?_ ?_ ?_; rotate_left 4; (repeat first | exact .h | refine .t ?_); exact rfl) | (refine' zm hX rfl rfl hL ?_ ?_ ?_; rotate_left 3; (repeat first | exact .h | refine .t ?_); exact rfl) | (refine' zs hX rfl rfl rfl hL ?_ ?_ ?_; rotate_left 3; (repeat first | exact .h | apply Sets.t); exact rfl; clear hL; intro w hL) | refine ArReq.i64 (by omega) (by omega) ?_ | refine SeqReq.go hX ?_ | refine OptReq.mk rfl ?_); conv => whnf)
  refine CallReq.mk (L1 := L) (L2 := []) (AllS_fn m ab ns0 L hA hC.nm) (by rw [List.append_nil]; exact hL) ?_
  clear hL
  rintro u mx L w hL - ⟨hmx, rfl, hA⟩
  rw [hmx, List.append_nil] at hL
  clear hmx mx
  conv => whnf
  repeat ((first | refine BrReq.tt ?_ | refine BrReq.ff ?_ | (refine' zl hX rfl rfl hL ?_ ?_ ?_; rotate_left 4; (repeat first | exact .h | refine .t ?_); exact rfl) | (refine' zm hX rfl rfl hL ?_ ?_ ?_; rotate_left 3; (repeat first | exact .h | refine .t ?_); exact rfl) | (refine' zs hX rfl rfl rfl hL ?_ ?_ ?_; rotate_left 3; (repeat first | exact .h | apply Sets.t); exact rfl; clear hL; intro w hL) | refine ArReq.i64 (by omega) (by omega) ?_ | refine SeqReq.go hX ?_ | refine OptReq.mk rfl ?_); conv => whnf)
  refine CallReq.mk (L1 := L) (L2 := []) (EmptyS_fn m ab ns0 L hA hC.nm) (by rw [List.append_nil]; exact hL) ?_
  clear hL
  rintro u mx L w hL - ⟨hmx, rfl, hA⟩
  rw [hmx, List.append_nil] at hL
  clear hmx mx
  conv => whnf
  repeat ((first | refine BrReq.tt ?_ | refine BrReq.ff ?_ | (refine' zl hX rfl rfl hL ?_ ?_ ?_; rotate_left 4; (repeat first | exact .h | refine .t ?_); exact rfl) | (refine' zm hX rfl rfl hL ?_ ?_ ?_; rotate_left 3; (repeat first | exact .h | refine .t ?_); exact rfl) | (refine' zs hX rfl rfl rfl hL ?_ ?_ ?_; rotate_left 3; (repeat first | exact .h | apply Sets.t); exact rfl; clear hL; intro w hL) | refine ArReq.i64 (by omega) (by omega) ?_ | refine SeqReq.go hX ?_ | refine OptReq.mk rfl ?_); conv => whnf)
  conv => whnf
  repeat ((first | refine BrReq.yes rfl ?_ | refine BrReq.tt ?_ | refine BrReq.ff ?_ | (refine' zl hX rfl rfl hL ?_ ?_ ?_; rotate_left 4; (repeat first | exact .h | refine .t ?_); exact rfl) | (refine' zm hX rfl rfl hL ?_ ?_ ?_; rotate_left 3; (repeat first | exact .h | refine .t ?_); exact rfl) | (refine' zs hX rfl rfl rfl hL ?_ ?_ ?_; rotate_left 3; (repeat first | exact .h | apply Sets.t); exact rfl; clear hL; intro w hL) | refine ArReq.i64 (by omega) (by omega) ?_ | refine SeqReq.go hX ?_ | refine OptReq.mk rfl ?_); conv => whnf)
  refine NewReq.mk hL ?_
  clear hL
  intro g w hL
  conv => whnf
  obtain ⟨m1, hL1, hm1, hs⟩ := there_row (l := [x, y]) hL (by simp)
  clear hL hm1
  have hL := hL1
  clear hL1
  conv => whnf
  repeat ((first | refine BrReq.yes rfl ?_ | refine BrReq.tt ?_ | refine BrReq.ff ?_ | (refine' zl hX rfl rfl hL ?_ ?_ ?_; rotate_left 4; (repeat first | exact .h | refine .t ?_); exact rfl) | (refine' zm hX rfl rfl hL ?_ ?_ ?_; rotate_left 3; (repeat first | exact .h | refine .t ?_); exact rfl) | (refine' zs hX rfl rfl rfl hL ?_ ?_ ?_; rotate_left 3; (repeat first | exact .h | apply Sets.t); exact rfl; clear hL; intro w hL) | refine ArReq.i64 (by omega) (by omega) ?_ | refine SeqReq.go hX ?_ | refine OptReq.mk rfl ?_); conv => whnf)
  refine CallReq.mk (L1 := L) (L2 := []) (Or2_fn m1 ab _ L hA hT.nm V (hT.wins false) (hT.id false hT.vx) (hT.id false hT.vy) (hT.mem _ hT.vx false) (hT.mem _ hT.vy false) (by have := hT.len; omega) _ hs) (by rw [List.append_nil]; exact hL) ?_
  clear hL hs
  rintro u mx L w hL - ⟨ns, r1, rfl, hA', hG⟩
  rw [List.append_nil] at hL
  have hT' := hT.up hG.pre hG.nm (K' := V.length + 1) (by have := hG.len; omega)
  have h1 := hG.is
  skip
  clear hG hT hA
  have hA := hA'
  have hT := hT'
  clear hA' hT'
  conv => whnf
  repeat ((first | refine BrReq.yes rfl ?_ | refine BrReq.tt ?_ | refine BrReq.ff ?_ | (refine' zl hX rfl rfl hL ?_ ?_ ?_; rotate_left 4; (repeat first | exact .h | refine .t ?_); exact rfl) | (refine' zm hX rfl rfl hL ?_ ?_ ?_; rotate_left 3; (repeat first | exact .h | refine .t ?_); exact rfl) | (refine' zs hX rfl rfl rfl hL ?_ ?_ ?_; rotate_left 3; (repeat first | exact .h | apply Sets.t); exact rfl; clear hL; intro w hL) | refine ArReq.i64 (by omega) (by omega) ?_ | refine SeqReq.go hX ?_ | refine OptReq.mk rfl ?_); conv => whnf)
  refine NewReq.mk hL ?_
  clear hL
  intro g w hL
  conv => whnf
  obtain ⟨m1, hL1, hm1, hs⟩ := there_row (l := [y, x]) hL (by simp)
  clear hL hm1
  have hL := hL1
  clear hL1
  conv => whnf
  repeat ((first | refine BrReq.yes rfl ?_ | refine BrReq.tt ?_ | refine BrReq.ff ?_ | (refine' zl hX rfl rfl hL ?_ ?_ ?_; rotate_left 4; (repeat first | exact .h | refine .t ?_); exact rfl) | (refine' zm hX rfl rfl hL ?_ ?_ ?_; rotate_left 3; (repeat first | exact .h | refine .t ?_); exact rfl) | (refine' zs hX rfl rfl rfl hL ?_ ?_ ?_; rotate_left 3; (repeat first | exact .h | apply Sets.t); exact rfl; clear hL; intro w hL) | refine ArReq.i64 (by omega) (by omega) ?_ | refine SeqReq.go hX ?_ | refine OptReq.mk rfl ?_); conv => whnf)
  refine CallReq.mk (L1 := L) (L2 := []) (Or2_fn m1 ab _ L hA hT.nm V (hT.wins false) (hT.id false hT.vy) (hT.id false hT.vx) (hT.mem _ hT.vy false) (hT.mem _ hT.vx false) (by have := hT.len; omega) _ hs) (by rw [List.append_nil]; exact hL) ?_
  clear hL hs
  rintro u mx L w hL - ⟨ns, r', hu, hA', hG⟩
  rw [List.append_nil] at hL
  obtain ⟨e, hl⟩ := hG.same r1 (by rw [join_comm]; exact h1)
  rw [e] at hu
  subst hu
  have hT' := hT.up hG.pre hG.nm (K' := 1) hl
  replace h1 := h1.pre hT.nm.ok hG.nm.ok hG.pre
  clear hG hT hA hl e
  have hA := hA'
  have hT := hT'
  clear hA' hT'
  conv => whnf
  repeat ((first | refine BrReq.yes rfl ?_ | refine BrReq.tt ?_ | refine BrReq.ff ?_ | (refine' zl hX rfl rfl hL ?_ ?_ ?_; rotate_left 4; (repeat first | exact .h | refine .t ?_); exact rfl) | (refine' zm hX rfl rfl hL ?_ ?_ ?_; rotate_left 3; (repeat first | exact .h | refine .t ?_); exact rfl) | (refine' zs hX rfl rfl rfl hL ?_ ?_ ?_; rotate_left 3; (repeat first | exact .h | apply Sets.t); exact rfl; clear hL; intro w hL) | refine ArReq.i64 (by omega) (by omega) ?_ | refine SeqReq.go hX ?_ | refine OptReq.mk rfl ?_); conv => whnf)
  refine NewReq.mk hL ?_
  clear hL
  intro g w hL
  conv => whnf
  obtain ⟨m1, hL1, hm1, hs⟩ := there_row (l := [y, z]) hL (by simp)
  clear hL hm1
  have hL := hL1
  clear hL1
  conv => whnf
  repeat ((first | refine BrReq.yes rfl ?_ | refine BrReq.tt ?_ | refine BrReq.ff ?_ | (refine' zl hX rfl rfl hL ?_ ?_ ?_; rotate_left 4; (repeat first | exact .h | refine .t ?_); exact rfl) | (refine' zm hX rfl rfl hL ?_ ?_ ?_; rotate_left 3; (repeat first | exact .h | refine .t ?_); exact rfl) | (refine' zs hX rfl rfl rfl hL ?_ ?_ ?_; rotate_left 3; (repeat first | exact .h | apply Sets.t); exact rfl; clear hL; intro w hL) | refine ArReq.i64 (by omega) (by omega) ?_ | refine SeqReq.go hX ?_ | refine OptReq.mk rfl ?_); conv => whnf)
  refine CallReq.mk (L1 := L) (L2 := []) (Or2_fn m1 ab _ L hA hT.nm V (hT.wins false) (hT.id false hT.vy) (hT.id false hT.vz) (hT.mem _ hT.vy false) (hT.mem _ hT.vz false) (by have := hT.len; omega) _ hs) (by rw [List.append_nil]; exact hL) ?_
  clear hL hs
  rintro u mx L w hL - ⟨ns, r2, rfl, hA', hG⟩
  rw [List.append_nil] at hL
  have hT' := hT.up hG.pre hG.nm (K' := V.length + 1) (by have := hG.len; omega)
  have h2 := hG.is
  replace h1 := h1.pre hT.nm.ok hG.nm.ok hG.pre
  clear hG hT hA
  have hA := hA'
  have hT := hT'
  clear hA' hT'
  conv => whnf
  repeat ((first | refine BrReq.yes rfl ?_ | refine BrReq.tt ?_ | refine BrReq.ff ?_ | (refine' zl hX rfl rfl hL ?_ ?_ ?_; rotate_left 4; (repeat first | exact .h | refine .t ?_); exact rfl) | (refine' zm hX rfl rfl hL ?_ ?_ ?_; rotate_left 3; (repeat first | exact .h | refine .t ?_); exact rfl) | (refine' zs hX rfl rfl rfl hL ?_ ?_ ?_; rotate_left 3; (repeat first | exact .h | apply Sets.t); exact rfl; clear hL; intro w hL) | refine ArReq.i64 (by omega) (by omega) ?_ | refine SeqReq.go hX ?_ | refine OptReq.mk rfl ?_); conv => whnf)
  refine NewReq.mk hL ?_
  clear hL
  intro g w hL
  conv => whnf
  obtain ⟨m1, hL1, hm1, hs⟩ := there_row (l := [x, r2]) hL (by simp)
  clear hL hm1
  have hL := hL1
  clear hL1
  conv => whnf
  repeat ((first | refine BrReq.yes rfl ?_ | refine BrReq.tt ?_ | refine BrReq.ff ?_ | (refine' zl hX rfl rfl hL ?_ ?_ ?_; rotate_left 4; (repeat first | exact .h | refine .t ?_); exact rfl) | (refine' zm hX rfl rfl hL ?_ ?_ ?_; rotate_left 3; (repeat first | exact .h | refine .t ?_); exact rfl) | (refine' zs hX rfl rfl rfl hL ?_ ?_ ?_; rotate_left 3; (repeat first | exact .h | apply Sets.t); exact rfl; clear hL; intro w hL) | refine ArReq.i64 (by omega) (by omega) ?_ | refine SeqReq.go hX ?_ | refine OptReq.mk rfl ?_); conv => whnf)
  refine CallReq.mk (L1 := L) (L2 := []) (Or2_fn m1 ab _ L hA hT.nm V (hT.wins false) (hT.id false hT.vx) h2 (hT.mem _ hT.vx false) (join_v (hT.mem _ hT.vy false) (hT.mem _ hT.vz false)) (by have := hT.len; omega) _ hs) (by rw [List.append_nil]; exact hL) ?_
  clear hL hs
  rintro u mx L w hL - ⟨ns, r3, rfl, hA', hG⟩
  rw [List.append_nil] at hL
  have hT' := hT.up hG.pre hG.nm (K' := V.length + 1) (by have := hG.len; omega)
  have h3 := hG.is
  replace h1 := h1.pre hT.nm.ok hG.nm.ok hG.pre; replace h2 := h2.pre hT.nm.ok hG.nm.ok hG.pre
  clear hG hT hA
  have hA := hA'
  have hT := hT'
  clear hA' hT'
  conv => whnf
  repeat ((first | refine BrReq.yes rfl ?_ | refine BrReq.tt ?_ | refine BrReq.ff ?_ | (refine' zl hX rfl rfl hL ?_ ?_ ?_; rotate_left 4; (repeat first | exact .h | refine .t ?_); exact rfl) | (refine' zm hX rfl rfl hL ?_ ?_ ?_; rotate_left 3; (repeat first | exact .h | refine .t ?_); exact rfl) | (refine' zs hX rfl rfl rfl hL ?_ ?_ ?_; rotate_left 3; (repeat first | exact .h | apply Sets.t); exact rfl; clear hL; intro w hL) | refine ArReq.i64 (by omega) (by omega) ?_ | refine SeqReq.go hX ?_ | refine OptReq.mk rfl ?_); conv => whnf)
  refine NewReq.mk hL ?_
  clear hL
  intro g w hL
  conv => whnf
  obtain ⟨m1, hL1, hm1, hs⟩ := there_row (l := [x, y]) hL (by simp)
  clear hL hm1
  have hL := hL1
  clear hL1
  conv => whnf
  repeat ((first | refine BrReq.yes rfl ?_ | refine BrReq.tt ?_ | refine BrReq.ff ?_ | (refine' zl hX rfl rfl hL ?_ ?_ ?_; rotate_left 4; (repeat first | exact .h | refine .t ?_); exact rfl) | (refine' zm hX rfl rfl hL ?_ ?_ ?_; rotate_left 3; (repeat first | exact .h | refine .t ?_); exact rfl) | (refine' zs hX rfl rfl rfl hL ?_ ?_ ?_; rotate_left 3; (repeat first | exact .h | apply Sets.t); exact rfl; clear hL; intro w hL) | refine ArReq.i64 (by omega) (by omega) ?_ | refine SeqReq.go hX ?_ | refine OptReq.mk rfl ?_); conv => whnf)
  refine CallReq.mk (L1 := L) (L2 := []) (Or2_fn m1 ab _ L hA hT.nm V (hT.wins false) (hT.id false hT.vx) (hT.id false hT.vy) (hT.mem _ hT.vx false) (hT.mem _ hT.vy false) (by have := hT.len; omega) _ hs) (by rw [List.append_nil]; exact hL) ?_
  clear hL hs
  rintro u mx L w hL - ⟨ns, r', hu, hA', hG⟩
  rw [List.append_nil] at hL
  obtain ⟨e, hl⟩ := hG.same r1 (h1)
  rw [e] at hu
  subst hu
  have hT' := hT.up hG.pre hG.nm (K' := 1) hl
  replace h1 := h1.pre hT.nm.ok hG.nm.ok hG.pre; replace h2 := h2.pre hT.nm.ok hG.nm.ok hG.pre; replace h3 := h3.pre hT.nm.ok hG.nm.ok hG.pre
  clear hG hT hA hl e
  have hA := hA'
  have hT := hT'
  clear hA' hT'
  conv => whnf
  repeat ((first | refine BrReq.yes rfl ?_ | refine BrReq.tt ?_ | refine BrReq.ff ?_ | (refine' zl hX rfl rfl hL ?_ ?_ ?_; rotate_left 4; (repeat first | exact .h | refine .t ?_); exact rfl) | (refine' zm hX rfl rfl hL ?_ ?_ ?_; rotate_left 3; (repeat first | exact .h | refine .t ?_); exact rfl) | (refine' zs hX rfl rfl rfl hL ?_ ?_ ?_; rotate_left 3; (repeat first | exact .h | apply Sets.t); exact rfl; clear hL; intro w hL) | refine ArReq.i64 (by omega) (by omega) ?_ | refine SeqReq.go hX ?_ | refine OptReq.mk rfl ?_); conv => whnf)
  refine NewReq.mk hL ?_
  clear hL
  intro g w hL
  conv => whnf
  obtain ⟨m1, hL1, hm1, hs⟩ := there_row (l := [r1, z]) hL (by simp)
  clear hL hm1
  have hL := hL1
  clear hL1
  conv => whnf
  repeat ((first | refine BrReq.yes rfl ?_ | refine BrReq.tt ?_ | refine BrReq.ff ?_ | (refine' zl hX rfl rfl hL ?_ ?_ ?_; rotate_left 4; (repeat first | exact .h | refine .t ?_); exact rfl) | (refine' zm hX rfl rfl hL ?_ ?_ ?_; rotate_left 3; (repeat first | exact .h | refine .t ?_); exact rfl) | (refine' zs hX rfl rfl rfl hL ?_ ?_ ?_; rotate_left 3; (repeat first | exact .h | apply Sets.t); exact rfl; clear hL; intro w hL) | refine ArReq.i64 (by omega) (by omega) ?_ | refine SeqReq.go hX ?_ | refine OptReq.mk rfl ?_); conv => whnf)
  refine CallReq.mk (L1 := L) (L2 := []) (Or2_fn m1 ab _ L hA hT.nm V (hT.wins false) h1 (hT.id false hT.vz) (join_v (hT.mem _ hT.vx false) (hT.mem _ hT.vy false)) (hT.mem _ hT.vz false) (by have := hT.len; omega) _ hs) (by rw [List.append_nil]; exact hL) ?_
  clear hL hs
  rintro u mx L w hL - ⟨ns, r', hu, hA', hG⟩
  rw [List.append_nil] at hL
  obtain ⟨e, hl⟩ := hG.same r3 (by rw [join_assoc]; exact h3)
  rw [e] at hu
  subst hu
  have hT' := hT.up hG.pre hG.nm (K' := 1) hl
  replace h2 := h2.pre hT.nm.ok hG.nm.ok hG.pre; replace h3 := h3.pre hT.nm.ok hG.nm.ok hG.pre
  clear hG hT hA hl e
  have hA := hA'
  have hT := hT'
  clear hA' hT'
  clear h1
  conv => whnf
  repeat ((first | refine BrReq.yes rfl ?_ | refine BrReq.tt ?_ | refine BrReq.ff ?_ | (refine' zl hX rfl rfl hL ?_ ?_ ?_; rotate_left 4; (repeat first | exact .h | refine .t ?_); exact rfl) | (refine' zm hX rfl rfl hL ?_ ?_ ?_; rotate_left 3; (repeat first | exact .h | refine .t ?_); exact rfl) | (refine' zs hX rfl rfl rfl hL ?_ ?_ ?_; rotate_left 3; (repeat first | exact .h | apply Sets.t); exact rfl; clear hL; intro w hL) | refine ArReq.i64 (by omega) (by omega) ?_ | refine SeqReq.go hX ?_ | refine OptReq.mk rfl ?_); conv => whnf)
  refine NewReq.mk hL ?_
  clear hL
  intro g w hL
  conv => whnf
  obtain ⟨m1, hL1, hm1, hs⟩ := there_row (l := [x, x]) hL (by simp)
  clear hL hm1
  have hL := hL1
  clear hL1
  conv => whnf
  repeat ((first | refine BrReq.yes rfl ?_ | refine BrReq.tt ?_ | refine BrReq.ff ?_ | (refine' zl hX rfl rfl hL ?_ ?_ ?_; rotate_left 4; (repeat first | exact .h | refine .t ?_); exact rfl) | (refine' zm hX rfl rfl hL ?_ ?_ ?_; rotate_left 3; (repeat first | exact .h | refine .t ?_); exact rfl) | (refine' zs hX rfl rfl rfl hL ?_ ?_ ?_; rotate_left 3; (repeat first | exact .h | apply Sets.t); exact rfl; clear hL; intro w hL) | refine ArReq.i64 (by omega) (by omega) ?_ | refine SeqReq.go hX ?_ | refine OptReq.mk rfl ?_); conv => whnf)
  refine CallReq.mk (L1 := L) (L2 := []) (Or2_fn m1 ab _ L hA hT.nm V (hT.wins false) (hT.id false hT.vx) (hT.id false hT.vx) (hT.mem _ hT.vx false) (hT.mem _ hT.vx false) (by have := hT.len; omega) _ hs) (by rw [List.append_nil]; exact hL) ?_
  clear hL hs
  rintro u mx L w hL - ⟨ns, r', hu, hA', hG⟩
  rw [List.append_nil] at hL
  obtain ⟨e, hl⟩ := hG.same x (by rw [join_self]; exact hT.id false hT.vx)
  rw [e] at hu
  subst hu
  have hT' := hT.up hG.pre hG.nm (K' := 1) hl
  replace h2 := h2.pre hT.nm.ok hG.nm.ok hG.pre; replace h3 := h3.pre hT.nm.ok hG.nm.ok hG.pre
  clear hG hT hA hl e
  have hA := hA'
  have hT := hT'
  clear hA' hT'
  conv => whnf
  repeat ((first | refine BrReq.yes rfl ?_ | refine BrReq.tt ?_ | refine BrReq.ff ?_ | (refine' zl hX rfl rfl hL ?_ ?_ ?_; rotate_left 4; (repeat first | exact .h | refine .t ?_); exact rfl) | (refine' zm hX rfl rfl hL ?_ ?_ ?_; rotate_left 3; (repeat first | exact .h | refine .t ?_); exact rfl) | (refine' zs hX rfl rfl rfl hL ?_ ?_ ?_; rotate_left 3; (repeat first | exact .h | apply Sets.t); exact rfl; clear hL; intro w hL) | refine ArReq.i64 (by omega) (by omega) ?_ | refine SeqReq.go hX ?_ | refine OptReq.mk rfl ?_); conv => whnf)
  refine NewReq.mk hL ?_
  clear hL
  intro g w hL
  conv => whnf
  obtain ⟨m1, hL1, hm1, hs⟩ := there_row (l := [x, 0]) hL (by simp)
  clear hL hm1
  have hL := hL1
  clear hL1
  conv => whnf
  repeat ((first | refine BrReq.yes rfl ?_ | refine BrReq.tt ?_ | refine BrReq.ff ?_ | (refine' zl hX rfl rfl hL ?_ ?_ ?_; rotate_left 4; (repeat first | exact .h | refine .t ?_); exact rfl) | (refine' zm hX rfl rfl hL ?_ ?_ ?_; rotate_left 3; (repeat first | exact .h | refine .t ?_); exact rfl) | (refine' zs hX rfl rfl rfl hL ?_ ?_ ?_; rotate_left 3; (repeat first | exact .h | apply Sets.t); exact rfl; clear hL; intro w hL) | refine ArReq.i64 (by omega) (by omega) ?_ | refine SeqReq.go hX ?_ | refine OptReq.mk rfl ?_); conv => whnf)
  refine CallReq.mk (L1 := L) (L2 := []) (Or2_fn m1 ab _ L hA hT.nm V (hT.wins false) (hT.id false hT.vx) (unit_none hT.nm false) (hT.mem _ hT.vx false) (unit_v false) (by have := hT.len; omega) _ hs) (by rw [List.append_nil]; exact hL) ?_
  clear hL hs
  rintro u mx L w hL - ⟨ns, r', hu, hA', hG⟩
  rw [List.append_nil] at hL
  obtain ⟨e, hl⟩ := hG.same x (by rw [join_unit]; exact hT.id false hT.vx)
  rw [e] at hu
  subst hu
  have hT' := hT.up hG.pre hG.nm (K' := 1) hl
  replace h2 := h2.pre hT.nm.ok hG.nm.ok hG.pre; replace h3 := h3.pre hT.nm.ok hG.nm.ok hG.pre
  clear hG hT hA hl e
  have hA := hA'
  have hT := hT'
  clear hA' hT'
  conv => whnf
  repeat ((first | refine BrReq.yes rfl ?_ | refine BrReq.tt ?_ | refine BrReq.ff ?_ | (refine' zl hX rfl rfl hL ?_ ?_ ?_; rotate_left 4; (repeat first | exact .h | refine .t ?_); exact rfl) | (refine' zm hX rfl rfl hL ?_ ?_ ?_; rotate_left 3; (repeat first | exact .h | refine .t ?_); exact rfl) | (refine' zs hX rfl rfl rfl hL ?_ ?_ ?_; rotate_left 3; (repeat first | exact .h | apply Sets.t); exact rfl; clear hL; intro w hL) | refine ArReq.i64 (by omega) (by omega) ?_ | refine SeqReq.go hX ?_ | refine OptReq.mk rfl ?_); conv => whnf)
  refine NewReq.mk hL ?_
  clear hL
  intro g w hL
  conv => whnf
  obtain ⟨m1, hL1, hm1, hs⟩ := there_row (l := [x, 2]) hL (by simp)
  clear hL hm1
  have hL := hL1
  clear hL1
  conv => whnf
  repeat ((first | refine BrReq.yes rfl ?_ | refine BrReq.tt ?_ | refine BrReq.ff ?_ | (refine' zl hX rfl rfl hL ?_ ?_ ?_; rotate_left 4; (repeat first | exact .h | refine .t ?_); exact rfl) | (refine' zm hX rfl rfl hL ?_ ?_ ?_; rotate_left 3; (repeat first | exact .h | refine .t ?_); exact rfl) | (refine' zs hX rfl rfl rfl hL ?_ ?_ ?_; rotate_left 3; (repeat first | exact .h | apply Sets.t); exact rfl; clear hL; intro w hL) | refine ArReq.i64 (by omega) (by omega) ?_ | refine SeqReq.go hX ?_ | refine OptReq.mk rfl ?_); conv => whnf)
  refine CallReq.mk (L1 := L) (L2 := []) (Or2_fn m1 ab _ L hA hT.nm V (hT.wins false) (hT.id false hT.vx) (hT.id false (hT.wins false)) (hT.mem _ hT.vx false) (hT.mem _ (hT.wins false) false) (by have := hT.len; omega) _ hs) (by rw [List.append_nil]; exact hL) ?_
  clear hL hs
  rintro u mx L w hL - ⟨ns, r', hu, hA', hG⟩
  rw [List.append_nil] at hL
  obtain ⟨e, hl⟩ := hG.same 2 (hT.top false _)
  rw [e] at hu
  subst hu
  have hT' := hT.up hG.pre hG.nm (K' := 1) hl
  replace h2 := h2.pre hT.nm.ok hG.nm.ok hG.pre; replace h3 := h3.pre hT.nm.ok hG.nm.ok hG.pre
  clear hG hT hA hl e
  have hA := hA'
  have hT := hT'
  clear hA' hT'
  conv => whnf
  repeat ((first | refine BrReq.yes rfl ?_ | refine BrReq.tt ?_ | refine BrReq.ff ?_ | (refine' zl hX rfl rfl hL ?_ ?_ ?_; rotate_left 4; (repeat first | exact .h | refine .t ?_); exact rfl) | (refine' zm hX rfl rfl hL ?_ ?_ ?_; rotate_left 3; (repeat first | exact .h | refine .t ?_); exact rfl) | (refine' zs hX rfl rfl rfl hL ?_ ?_ ?_; rotate_left 3; (repeat first | exact .h | apply Sets.t); exact rfl; clear hL; intro w hL) | refine ArReq.i64 (by omega) (by omega) ?_ | refine SeqReq.go hX ?_ | refine OptReq.mk rfl ?_); conv => whnf)
  refine NewReq.mk hL ?_
  clear hL
  intro g w hL
  conv => whnf
  obtain ⟨m1, hL1, hm1, hs⟩ := there_row (l := [x, y, z]) hL (by simp)
  clear hL hm1
  have hL := hL1
  clear hL1
  conv => whnf
  repeat ((first | refine BrReq.yes rfl ?_ | refine BrReq.tt ?_ | refine BrReq.ff ?_ | (refine' zl hX rfl rfl hL ?_ ?_ ?_; rotate_left 4; (repeat first | exact .h | refine .t ?_); exact rfl) | (refine' zm hX rfl rfl hL ?_ ?_ ?_; rotate_left 3; (repeat first | exact .h | refine .t ?_); exact rfl) | (refine' zs hX rfl rfl rfl hL ?_ ?_ ?_; rotate_left 3; (repeat first | exact .h | apply Sets.t); exact rfl; clear hL; intro w hL) | refine ArReq.i64 (by omega) (by omega) ?_ | refine SeqReq.go hX ?_ | refine OptReq.mk rfl ?_); conv => whnf)
  refine CallReq.mk (L1 := L) (L2 := []) (Or3_fn m1 ab _ L hA hT.nm V (hT.wins false) (hT.id false hT.vx) (hT.id false hT.vy) (hT.id false hT.vz) (hT.mem _ hT.vx false) (hT.mem _ hT.vy false) (hT.mem _ hT.vz false) (by have := hT.len; omega) _ hs) (by rw [List.append_nil]; exact hL) ?_
  clear hL hs
  rintro u mx L w hL - ⟨ns, r', hu, hA', hG⟩
  rw [List.append_nil] at hL
  obtain ⟨e, hl⟩ := hG.same r3 (h3)
  rw [e] at hu
  subst hu
  have hT' := hT.up hG.pre hG.nm (K' := 1) hl
  replace h2 := h2.pre hT.nm.ok hG.nm.ok hG.pre; replace h3 := h3.pre hT.nm.ok hG.nm.ok hG.pre
  clear hG hT hA hl e
  have hA := hA'
  have hT := hT'
  clear hA' hT'
  conv => whnf
  repeat ((first | refine BrReq.yes rfl ?_ | refine BrReq.tt ?_ | refine BrReq.ff ?_ | (refine' zl hX rfl rfl hL ?_ ?_ ?_; rotate_left 4; (repeat first | exact .h | refine .t ?_); exact rfl) | (refine' zm hX rfl rfl hL ?_ ?_ ?_; rotate_left 3; (repeat first | exact .h | refine .t ?_); exact rfl) | (refine' zs hX rfl rfl rfl hL ?_ ?_ ?_; rotate_left 3; (repeat first | exact .h | apply Sets.t); exact rfl; clear hL; intro w hL) | refine ArReq.i64 (by omega) (by omega) ?_ | refine SeqReq.go hX ?_ | refine OptReq.mk rfl ?_); conv => whnf)
  refine NewReq.mk hL ?_
  clear hL
  intro g w hL
  conv => whnf
  obtain ⟨m1, hL1, hm1, hs⟩ := there_row (l := [y, z]) hL (by simp)
  clear hL hm1
  have hL := hL1
  clear hL1
  conv => whnf
  repeat ((first | refine BrReq.yes rfl ?_ | refine BrReq.tt ?_ | refine BrReq.ff ?_ | (refine' zl hX rfl rfl hL ?_ ?_ ?_; rotate_left 4; (repeat first | exact .h | refine .t ?_); exact rfl) | (refine' zm hX rfl rfl hL ?_ ?_ ?_; rotate_left 3; (repeat first | exact .h | refine .t ?_); exact rfl) | (refine' zs hX rfl rfl rfl hL ?_ ?_ ?_; rotate_left 3; (repeat first | exact .h | apply Sets.t); exact rfl; clear hL; intro w hL) | refine ArReq.i64 (by omega) (by omega) ?_ | refine SeqReq.go hX ?_ | refine OptReq.mk rfl ?_); conv => whnf)
  refine CallReq.mk (L1 := L) (L2 := []) (Or2_fn m1 ab _ L hA hT.nm V (hT.wins false) (hT.id false hT.vy) (hT.id false hT.vz) (hT.mem _ hT.vy false) (hT.mem _ hT.vz false) (by have := hT.len; omega) _ hs) (by rw [List.append_nil]; exact hL) ?_
  clear hL hs
  rintro u mx L w hL - ⟨ns, r', hu, hA', hG⟩
  rw [List.append_nil] at hL
  obtain ⟨e, hl⟩ := hG.same r2 (h2)
  rw [e] at hu
  subst hu
  have hT' := hT.up hG.pre hG.nm (K' := 1) hl
  replace h2 := h2.pre hT.nm.ok hG.nm.ok hG.pre; replace h3 := h3.pre hT.nm.ok hG.nm.ok hG.pre
  clear hG hT hA hl e
  have hA := hA'
  have hT := hT'
  clear hA' hT'
  conv => whnf
  repeat ((first | refine BrReq.yes rfl ?_ | refine BrReq.tt ?_ | refine BrReq.ff ?_ | (refine' zl hX rfl rfl hL ?_ ?_ ?_; rotate_left 4; (repeat first | exact .h | refine .t ?_); exact rfl) | (refine' zm hX rfl rfl hL ?_ ?_ ?_; rotate_left 3; (repeat first | exact .h | refine .t ?_); exact rfl) | (refine' zs hX rfl rfl rfl hL ?_ ?_ ?_; rotate_left 3; (repeat first | exact .h | apply Sets.t); exact rfl; clear hL; intro w hL) | refine ArReq.i64 (by omega) (by omega) ?_ | refine SeqReq.go hX ?_ | refine OptReq.mk rfl ?_); conv => whnf)
  refine NewReq.mk hL ?_
  clear hL
  intro g w hL
  conv => whnf
  obtain ⟨m1, hL1, hm1, hs⟩ := there_row (l := [x, r2]) hL (by simp)
  clear hL hm1
  have hL := hL1
  clear hL1
  conv => whnf
  repeat ((first | refine BrReq.yes rfl ?_ | refine BrReq.tt ?_ | refine BrReq.ff ?_ | (refine' zl hX rfl rfl hL ?_ ?_ ?_; rotate_left 4; (repeat first | exact .h | refine .t ?_); exact rfl) | (refine' zm hX rfl rfl hL ?_ ?_ ?_; rotate_left 3; (repeat first | exact .h | refine .t ?_); exact rfl) | (refine' zs hX rfl rfl rfl hL ?_ ?_ ?_; rotate_left 3; (repeat first | exact .h | apply Sets.t); exact rfl; clear hL; intro w hL) | refine ArReq.i64 (by omega) (by omega) ?_ | refine SeqReq.go hX ?_ | refine OptReq.mk rfl ?_); conv => whnf)
  refine CallReq.mk (L1 := L) (L2 := []) (Or2_fn m1 ab _ L hA hT.nm V (hT.wins false) (hT.id false hT.vx) h2 (hT.mem _ hT.vx false) (join_v (hT.mem _ hT.vy false) (hT.mem _ hT.vz false)) (by have := hT.len; omega) _ hs) (by rw [List.append_nil]; exact hL) ?_
  clear hL hs
  rintro u mx L w hL - ⟨ns, r', hu, hA', hG⟩
  rw [List.append_nil] at hL
  obtain ⟨e, hl⟩ := hG.same r3 (h3)
  rw [e] at hu
  subst hu
  have hT' := hT.up hG.pre hG.nm (K' := 1) hl
  skip
  clear hG hT hA hl e
  have hA := hA'
  have hT := hT'
  clear hA' hT'
  clear h2 h3
  conv => whnf
  repeat ((first | refine BrReq.yes rfl ?_ | refine BrReq.tt ?_ | refine BrReq.ff ?_ | (refine' zl hX rfl rfl hL ?_ ?_ ?_; rotate_left 4; (repeat first | exact .h | refine .t ?_); exact rfl) | (refine' zm hX rfl rfl hL ?_ ?_ ?_; rotate_left 3; (repeat first | exact .h | refine .t ?_); exact rfl) | (refine' zs hX rfl rfl rfl hL ?_ ?_ ?_; rotate_left 3; (repeat first | exact .h | apply Sets.t); exact rfl; clear hL; intro w hL) | refine ArReq.i64 (by omega) (by omega) ?_ | refine SeqReq.go hX ?_ | refine OptReq.mk rfl ?_); conv => whnf)
  refine NewReq.mk hL ?_
  clear hL
  intro g w hL
  conv => whnf
  obtain ⟨m1, hL1, hm1, hs⟩ := there_row (l := [x, y]) hL (by simp)
  clear hL hm1
  have hL := hL1
  clear hL1
  conv => whnf
  repeat ((first | refine BrReq.yes rfl ?_ | refine BrReq.tt ?_ | refine BrReq.ff ?_ | (refine' zl hX rfl rfl hL ?_ ?_ ?_; rotate_left 4; (repeat first | exact .h | refine .t ?_); exact rfl) | (refine' zm hX rfl rfl hL ?_ ?_ ?_; rotate_left 3; (repeat first | exact .h | refine .t ?_); exact rfl) | (refine' zs hX rfl rfl rfl hL ?_ ?_ ?_; rotate_left 3; (repeat first | exact .h | apply Sets.t); exact rfl; clear hL; intro w hL) | refine ArReq.i64 (by omega) (by omega) ?_ | refine SeqReq.go hX ?_ | refine OptReq.mk rfl ?_); conv => whnf)
  refine CallReq.mk (L1 := L) (L2 := []) (And2_fn m1 ab _ L hA hT.nm V (hT.wins true) (hT.id true hT.vx) (hT.id true hT.vy) (hT.mem _ hT.vx true) (hT.mem _ hT.vy true) (by have := hT.len; omega) _ hs) (by rw [List.append_nil]; exact hL) ?_
  clear hL hs
  rintro u mx L w hL - ⟨ns, r1, rfl, hA', hG⟩
  rw [List.append_nil] at hL
  have hT' := hT.up hG.pre hG.nm (K' := V.length + 1) (by have := hG.len; omega)
  have h1 := hG.is
  skip
  clear hG hT hA
  have hA := hA'
  have hT := hT'
  clear hA' hT'
  conv => whnf
  repeat ((first | refine BrReq.yes rfl ?_ | refine BrReq.tt ?_ | refine BrReq.ff ?_ | (refine' zl hX rfl rfl hL ?_ ?_ ?_; rotate_left 4; (repeat first | exact .h | refine .t ?_); exact rfl) | (refine' zm hX rfl rfl hL ?_ ?_ ?_; rotate_left 3; (repeat first | exact .h | refine .t ?_); exact rfl) | (refine' zs hX rfl rfl rfl hL ?_ ?_ ?_; rotate_left 3; (repeat first | exact .h | apply Sets.t); exact rfl; clear hL; intro w hL) | refine ArReq.i64 (by omega) (by omega) ?_ | refine SeqReq.go hX ?_ | refine OptReq.mk rfl ?_); conv => whnf)
  refine NewReq.mk hL ?_
  clear hL
  intro g w hL
  conv => whnf
  obtain ⟨m1, hL1, hm1, hs⟩ := there_row (l := [y, x]) hL (by simp)
  clear hL hm1
  have hL := hL1
  clear hL1
  conv => whnf
  repeat ((first | refine BrReq.yes rfl ?_ | refine BrReq.tt ?_ | refine BrReq.ff ?_ | (refine' zl hX rfl rfl hL ?_ ?_ ?_; rotate_left 4; (repeat first | exact .h | refine .t ?_); exact rfl) | (refine' zm hX rfl rfl hL ?_ ?_ ?_; rotate_left 3; (repeat first | exact .h | refine .t ?_); exact rfl) | (refine' zs hX rfl rfl rfl hL ?_ ?_ ?_; rotate_left 3; (repeat first | exact .h | apply Sets.t); exact rfl; clear hL; intro w hL) | refine ArReq.i64 (by omega) (by omega) ?_ | refine SeqReq.go hX ?_ | refine OptReq.mk rfl ?_); conv => whnf)
  refine CallReq.mk (L1 := L) (L2 := []) (And2_fn m1 ab _ L hA hT.nm V (hT.wins true) (hT.id true hT.vy) (hT.id true hT.vx) (hT.mem _ hT.vy true) (hT.mem _ hT.vx true) (by have := hT.len; omega) _ hs) (by rw [List.append_nil]; exact hL) ?_
  clear hL hs
  rintro u mx L w hL - ⟨ns, r', hu, hA', hG⟩
  rw [List.append_nil] at hL
  obtain ⟨e, hl⟩ := hG.same r1 (by rw [join_comm]; exact h1)
  rw [e] at hu
  subst hu
  have hT' := hT.up hG.pre hG.nm (K' := 1) hl
  replace h1 := h1.pre hT.nm.ok hG.nm.ok hG.pre
  clear hG hT hA hl e
  have hA := hA'
  have hT := hT'
  clear hA' hT'
  conv => whnf
  repeat ((first | refine BrReq.yes rfl ?_ | refine BrReq.tt ?_ | refine BrReq.ff ?_ | (refine' zl hX rfl rfl hL ?_ ?_ ?_; rotate_left 4; (repeat first | exact .h | refine .t ?_); exact rfl) | (refine' zm hX rfl rfl hL ?_ ?_ ?_; rotate_left 3; (repeat first | exact .h | refine .t ?_); exact rfl) | (refine' zs hX rfl rfl rfl hL ?_ ?_ ?_; rotate_left 3; (repeat first | exact .h | apply Sets.t); exact rfl; clear hL; intro w hL) | refine ArReq.i64 (by omega) (by omega) ?_ | refine SeqReq.go hX ?_ | refine OptReq.mk rfl ?_); conv => whnf)
  refine NewReq.mk hL ?_
  clear hL
  intro g w hL
  conv => whnf
  obtain ⟨m1, hL1, hm1, hs⟩ := there_row (l := [y, z]) hL (by simp)
  clear hL hm1
  have hL := hL1
  clear hL1
  conv => whnf
  repeat ((first | refine BrReq.yes rfl ?_ | refine BrReq.tt ?_ | refine BrReq.ff ?_ | (refine' zl hX rfl rfl hL ?_ ?_ ?_; rotate_left 4; (repeat first | exact .h | refine .t ?_); exact rfl) | (refine' zm hX rfl rfl hL ?_ ?_ ?_; rotate_left 3; (repeat first | exact .h | refine .t ?_); exact rfl) | (refine' zs hX rfl rfl rfl hL ?_ ?_ ?_; rotate_left 3; (repeat first | exact .h | apply Sets.t); exact rfl; clear hL; intro w hL) | refine ArReq.i64 (by omega) (by omega) ?_ | refine SeqReq.go hX ?_ | refine OptReq.mk rfl ?_); conv => whnf)
  refine CallReq.mk (L1 := L) (L2 := []) (And2_fn m1 ab _ L hA hT.nm V (hT.wins true) (hT.id true hT.vy) (hT.id true hT.vz) (hT.mem _ hT.vy true) (hT.mem _ hT.vz true) (by have := hT.len; omega) _ hs) (by rw [List.append_nil]; exact hL) ?_
  clear hL hs
  rintro u mx L w hL - ⟨ns, r2, rfl, hA', hG⟩
  rw [List.append_nil] at hL
  have hT' := hT.up hG.pre hG.nm (K' := V.length + 1) (by have := hG.len; omega)
  have h2 := hG.is
  replace h1 := h1.pre hT.nm.ok hG.nm.ok hG.pre
  clear hG hT hA
  have hA := hA'
  have hT := hT'
  clear hA' hT'
  conv => whnf
  repeat ((first | refine BrReq.yes rfl ?_ | refine BrReq.tt ?_ | refine BrReq.ff ?_ | (refine' zl hX rfl rfl hL ?_ ?_ ?_; rotate_left 4; (repeat first | exact .h | refine .t ?_); exact rfl) | (refine' zm hX rfl rfl hL ?_ ?_ ?_; rotate_left 3; (repeat first | exact .h | refine .t ?_); exact rfl) | (refine' zs hX rfl rfl rfl hL ?_ ?_ ?_; rotate_left 3; (repeat first | exact .h | apply Sets.t); exact rfl; clear hL; intro w hL) | refine ArReq.i64 (by omega) (by omega) ?_ | refine SeqReq.go hX ?_ | refine OptReq.mk rfl ?_); conv => whnf)
  refine NewReq.mk hL ?_
  clear hL
  intro g w hL
  conv => whnf
  obtain ⟨m1, hL1, hm1, hs⟩ := there_row (l := [x, r2]) hL (by simp)
  clear hL hm1
  have hL := hL1
  clear hL1
  conv => whnf
  repeat ((first | refine BrReq.yes rfl ?_ | refine BrReq.tt ?_ | refine BrReq.ff ?_ | (refine' zl hX rfl rfl hL ?_ ?_ ?_; rotate_left 4; (repeat first | exact .h | refine .t ?_); exact rfl) | (refine' zm hX rfl rfl hL ?_ ?_ ?_; rotate_left 3; (repeat first | exact .h | refine .t ?_); exact rfl) | (refine' zs hX rfl rfl rfl hL ?_ ?_ ?_; rotate_left 3; (repeat first | exact .h | apply Sets.t); exact rfl; clear hL; intro w hL) | refine ArReq.i64 (by omega) (by omega) ?_ | refine SeqReq.go hX ?_ | refine OptReq.mk rfl ?_); conv => whnf)
  refine CallReq.mk (L1 := L) (L2 := []) (And2_fn m1 ab _ L hA hT.nm V (hT.wins true) (hT.id true hT.vx) h2 (hT.mem _ hT.vx true) (join_v (hT.mem _ hT.vy true) (hT.mem _ hT.vz true)) (by have := hT.len; omega) _ hs) (by rw [List.append_nil]; exact hL) ?_
  clear hL hs
  rintro u mx L w hL - ⟨ns, r3, rfl, hA', hG⟩
  rw [List.append_nil] at hL
  have hT' := hT.up hG.pre hG.nm (K' := V.length + 1) (by have := hG.len; omega)
  have h3 := hG.is
  replace h1 := h1.pre hT.nm.ok hG.nm.ok hG.pre; replace h2 := h2.pre hT.nm.ok hG.nm.ok hG.pre
  clear hG hT hA
  have hA := hA'
  have hT := hT'
  clear hA' hT'
  conv => whnf
  repeat ((first | refine BrReq.yes rfl ?_ | refine BrReq.tt ?_ | refine BrReq.ff ?_ | (refine' zl hX rfl rfl hL ?_ ?_ ?_; rotate_left 4; (repeat first | exact .h | refine .t ?_); exact rfl) | (refine' zm hX rfl rfl hL ?_ ?_ ?_; rotate_left 3; (repeat first | exact .h | refine .t ?_); exact rfl) | (refine' zs hX rfl rfl rfl hL ?_ ?_ ?_; rotate_left 3; (repeat first | exact .h | apply Sets.t); exact rfl; clear hL; intro w hL) | refine ArReq.i64 (by omega) (by omega) ?_ | refine SeqReq.go hX ?_ | refine OptReq.mk rfl ?_); conv => whnf)
  refine NewReq.mk hL ?_
  clear hL
  intro g w hL
  conv => whnf
  obtain ⟨m1, hL1, hm1, hs⟩ := there_row (l := [x, y]) hL (by simp)
  clear hL hm1
  have hL := hL1
  clear hL1
  conv => whnf
  repeat ((first | refine BrReq.yes rfl ?_ | refine BrReq.tt ?_ | refine BrReq.ff ?_ | (refine' zl hX rfl rfl hL ?_ ?_ ?_; rotate_left 4; (repeat first | exact .h | refine .t ?_); exact rfl) | (refine' zm hX rfl rfl hL ?_ ?_ ?_; rotate_left 3; (repeat first | exact .h | refine .t ?_); exact rfl) | (refine' zs hX rfl rfl rfl hL ?_ ?_ ?_; rotate_left 3; (repeat first | exact .h | apply Sets.t); exact rfl; clear hL; intro w hL) | refine ArReq.i64 (by omega) (by omega) ?_ | refine SeqReq.go hX ?_ | refine OptReq.mk rfl ?_); conv => whnf)
  refine CallReq.mk (L1 := L) (L2 := []) (And2_fn m1 ab _ L hA hT.nm V (hT.wins true) (hT.id true hT.vx) (hT.id true hT.vy) (hT.mem _ hT.vx true) (hT.mem _ hT.vy true) (by have := hT.len; omega) _ hs) (by rw [List.append_nil]; exact hL) ?_
  clear hL hs
  rintro u mx L w hL - ⟨ns, r', hu, hA', hG⟩
  rw [List.append_nil] at hL
  obtain ⟨e, hl⟩ := hG.same r1 (h1)
  rw [e] at hu
  subst hu
  have hT' := hT.up hG.pre hG.nm (K' := 1) hl
  replace h1 := h1.pre hT.nm.ok hG.nm.ok hG.pre; replace h2 := h2.pre hT.nm.ok hG.nm.ok hG.pre; replace h3 := h3.pre hT.nm.ok hG.nm.ok hG.pre
  clear hG hT hA hl e
  have hA := hA'
  have hT := hT'
  clear hA' hT'
  conv => whnf
  repeat ((first | refine BrReq.yes rfl ?_ | refine BrReq.tt ?_ | refine BrReq.ff ?_ | (refine' zl hX rfl rfl hL ?_ ?_ ?_; rotate_left 4; (repeat first | exact .h | refine .t ?_); exact rfl) | (refine' zm hX rfl rfl hL ?_ ?_ ?_; rotate_left 3; (repeat first | exact .h | refine .t ?_); exact rfl) | (refine' zs hX rfl rfl rfl hL ?_ ?_ ?_; rotate_left 3; (repeat first | exact .h | apply Sets.t); exact rfl; clear hL; intro w hL) | refine ArReq.i64 (by omega) (by omega) ?_ | refine SeqReq.go hX ?_ | refine OptReq.mk rfl ?_); conv => whnf)
  refine NewReq.mk hL ?_
  clear hL
  intro g w hL
  conv => whnf
  obtain ⟨m1, hL1, hm1, hs⟩ := there_row (l := [r1, z]) hL (by simp)
  clear hL hm1
  have hL := hL1
  clear hL1
  conv => whnf
  repeat ((first | refine BrReq.yes rfl ?_ | refine BrReq.tt ?_ | refine BrReq.ff ?_ | (refine' zl hX rfl rfl hL ?_ ?_ ?_; rotate_left 4; (repeat first | exact .h | refine .t ?_); exact rfl) | (refine' zm hX rfl rfl hL ?_ ?_ ?_; rotate_left 3; (repeat first | exact .h | refine .t ?_); exact rfl) | (refine' zs hX rfl rfl rfl hL ?_ ?_ ?_; rotate_left 3; (repeat first | exact .h | apply Sets.t); exact rfl; clear hL; intro w hL) | refine ArReq.i64 (by omega) (by omega) ?_ | refine SeqReq.go hX ?_ | refine OptReq.mk rfl ?_); conv => whnf)
  refine CallReq.mk (L1 := L) (L2 := []) (And2_fn m1 ab _ L hA hT.nm V (hT.wins true) h1 (hT.id true hT.vz) (join_v (hT.mem _ hT.vx true) (hT.mem _ hT.vy true)) (hT.mem _ hT.vz true) (by have := hT.len; omega) _ hs) (by rw [List.append_nil]; exact hL) ?_
  clear hL hs
  rintro u mx L w hL - ⟨ns, r', hu, hA', hG⟩
  rw [List.append_nil] at hL
  obtain ⟨e, hl⟩ := hG.same r3 (by rw [join_assoc]; exact h3)
  rw [e] at hu
  subst hu
  have hT' := hT.up hG.pre hG.nm (K' := 1) hl
  replace h2 := h2.pre hT.nm.ok hG.nm.ok hG.pre; replace h3 := h3.pre hT.nm.ok hG.nm.ok hG.pre
  clear hG hT hA hl e
  have hA := hA'
  have hT := hT'
  clear hA' hT'
  clear h1
  conv => whnf
  repeat ((first | refine BrReq.yes rfl ?_ | refine BrReq.tt ?_ | refine BrReq.ff ?_ | (refine' zl hX rfl rfl hL ?_ ?_ ?_; rotate_left 4; (repeat first | exact .h | refine .t ?_); exact rfl) | (refine' zm hX rfl rfl hL ?_ ?_ ?_; rotate_left 3; (repeat first | exact .h | refine .t ?_); exact rfl) | (refine' zs hX rfl rfl rfl hL ?_ ?_ ?_; rotate_left 3; (repeat first | exact .h | apply Sets.t); exact rfl; clear hL; intro w hL) | refine ArReq.i64 (by omega) (by omega) ?_ | refine SeqReq.go hX ?_ | refine OptReq.mk rfl ?_); conv => whnf)
  refine NewReq.mk hL ?_
  clear hL
  intro g w hL
  conv => whnf
  obtain ⟨m1, hL1, hm1, hs⟩ := there_row (l := [x, x]) hL (by simp)
  clear hL hm1
  have hL := hL1
  clear hL1
  conv => whnf
  repeat ((first | refine BrReq.yes rfl ?_ | refine BrReq.tt ?_ | refine BrReq.ff ?_ | (refine' zl hX rfl rfl hL ?_ ?_ ?_; rotate_left 4; (repeat first | exact .h | refine .t ?_); exact rfl) | (refine' zm hX rfl rfl hL ?_ ?_ ?_; rotate_left 3; (repeat first | exact .h | refine .t ?_); exact rfl) | (refine' zs hX rfl rfl rfl hL ?_ ?_ ?_; rotate_left 3; (repeat first | exact .h | apply Sets.t); exact rfl; clear hL; intro w hL) | refine ArReq.i64 (by omega) (by omega) ?_ | refine SeqReq.go hX ?_ | refine OptReq.mk rfl ?_); conv => whnf)
  refine CallReq.mk (L1 := L) (L2 := []) (And2_fn m1 ab _ L hA hT.nm V (hT.wins true) (hT.id true hT.vx) (hT.id true hT.vx) (hT.mem _ hT.vx true) (hT.mem _ hT.vx true) (by have := hT.len; omega) _ hs) (by rw [List.append_nil]; exact hL) ?_
  clear hL hs
  rintro u mx L w hL - ⟨ns, r', hu, hA', hG⟩
  rw [List.append_nil] at hL
  obtain ⟨e, hl⟩ := hG.same x (by rw [join_self]; exact hT.id true hT.vx)
  rw [e] at hu
  subst hu
  have hT' := hT.up hG.pre hG.nm (K' := 1) hl
  replace h2 := h2.pre hT.nm.ok hG.nm.ok hG.pre; replace h3 := h3.pre hT.nm.ok hG.nm.ok hG.pre
  clear hG hT hA hl e
  have hA := hA'
  have hT := hT'
  clear hA' hT'
  conv => whnf
  repeat ((first | refine BrReq.yes rfl ?_ | refine BrReq.tt ?_ | refine BrReq.ff ?_ | (refine' zl hX rfl rfl hL ?_ ?_ ?_; rotate_left 4; (repeat first | exact .h | refine .t ?_); exact rfl) | (refine' zm hX rfl rfl hL ?_ ?_ ?_; rotate_left 3; (repeat first | exact .h | refine .t ?_); exact rfl) | (refine' zs hX rfl rfl rfl hL ?_ ?_ ?_; rotate_left 3; (repeat first | exact .h | apply Sets.t); exact rfl; clear hL; intro w hL) | refine ArReq.i64 (by omega) (by omega) ?_ | refine SeqReq.go hX ?_ | refine OptReq.mk rfl ?_); conv => whnf)
  refine NewReq.mk hL ?_
  clear hL
  intro g w hL
  conv => whnf
  obtain ⟨m1, hL1, hm1, hs⟩ := there_row (l := [x, 2]) hL (by simp)
  clear hL hm1
  have hL := hL1
  clear hL1
  conv => whnf
  repeat ((first | refine BrReq.yes rfl ?_ | refine BrReq.tt ?_ | refine BrReq.ff ?_ | (refine' zl hX rfl rfl hL ?_ ?_ ?_; rotate_left 4; (repeat first | exact .h | refine .t ?_); exact rfl) | (refine' zm hX rfl rfl hL ?_ ?_ ?_; rotate_left 3; (repeat first | exact .h | refine .t ?_); exact rfl) | (refine' zs hX rfl rfl rfl hL ?_ ?_ ?_; rotate_left 3; (repeat first | exact .h | apply Sets.t); exact rfl; clear hL; intro w hL) | refine ArReq.i64 (by omega) (by omega) ?_ | refine SeqReq.go hX ?_ | refine OptReq.mk rfl ?_); conv => whnf)
  refine CallReq.mk (L1 := L) (L2 := []) (And2_fn m1 ab _ L hA hT.nm V (hT.wins true) (hT.id true hT.vx) (unit_none hT.nm true) (hT.mem _ hT.vx true) (unit_v true) (by have := hT.len; omega) _ hs) (by rw [List.append_nil]; exact hL) ?_
  clear hL hs
  rintro u mx L w hL - ⟨ns, r', hu, hA', hG⟩
  rw [List.append_nil] at hL
  obtain ⟨e, hl⟩ := hG.same x (by rw [join_unit]; exact hT.id true hT.vx)
  rw [e] at hu
  subst hu
  have hT' := hT.up hG.pre hG.nm (K' := 1) hl
  replace h2 := h2.pre hT.nm.ok hG.nm.ok hG.pre; replace h3 := h3.pre hT.nm.ok hG.nm.ok hG.pre
  clear hG hT hA hl e
  have hA := hA'
  have hT := hT'
  clear hA' hT'
  conv => whnf
  repeat ((first | refine BrReq.yes rfl ?_ | refine BrReq.tt ?_ | refine BrReq.ff ?_ | (refine' zl hX rfl rfl hL ?_ ?_ ?_; rotate_left 4; (repeat first | exact .h | refine .t ?_); exact rfl) | (refine' zm hX rfl rfl hL ?_ ?_ ?_; rotate_left 3; (repeat first | exact .h | refine .t ?_); exact rfl) | (refine' zs hX rfl rfl rfl hL ?_ ?_ ?_; rotate_left 3; (repeat first | exact .h | apply Sets.t); exact rfl; clear hL; intro w hL) | refine ArReq.i64 (by omega) (by omega) ?_ | refine SeqReq.go hX ?_ | refine OptReq.mk rfl ?_); conv => whnf)
  refine NewReq.mk hL ?_
  clear hL
  intro g w hL
  conv => whnf
  obtain ⟨m1, hL1, hm1, hs⟩ := there_row (l := [x, 0]) hL (by simp)
  clear hL hm1
  have hL := hL1
  clear hL1
  conv => whnf
  repeat ((first | refine BrReq.yes rfl ?_ | refine BrReq.tt ?_ | refine BrReq.ff ?_ | (refine' zl hX rfl rfl hL ?_ ?_ ?_; rotate_left 4; (repeat first | exact .h | refine .t ?_); exact rfl) | (refine' zm hX rfl rfl hL ?_ ?_ ?_; rotate_left 3; (repeat first | exact .h | refine .t ?_); exact rfl) | (refine' zs hX rfl rfl rfl hL ?_ ?_ ?_; rotate_left 3; (repeat first | exact .h | apply Sets.t); exact rfl; clear hL; intro w hL) | refine ArReq.i64 (by omega) (by omega) ?_ | refine SeqReq.go hX ?_ | refine OptReq.mk rfl ?_); conv => whnf)
  refine CallReq.mk (L1 := L) (L2 := []) (And2_fn m1 ab _ L hA hT.nm V (hT.wins true) (hT.id true hT.vx) (hT.id true (hT.wins true)) (hT.mem _ hT.vx true) (hT.mem _ (hT.wins true) true) (by have := hT.len; omega) _ hs) (by rw [List.append_nil]; exact hL) ?_
  clear hL hs
  rintro u mx L w hL - ⟨ns, r', hu, hA', hG⟩
  rw [List.append_nil] at hL
  obtain ⟨e, hl⟩ := hG.same 0 (hT.top true _)
  rw [e] at hu
  subst hu
  have hT' := hT.up hG.pre hG.nm (K' := 1) hl
  replace h2 := h2.pre hT.nm.ok hG.nm.ok hG.pre; replace h3 := h3.pre hT.nm.ok hG.nm.ok hG.pre
  clear hG hT hA hl e
  have hA := hA'
  have hT := hT'
  clear hA' hT'
  clear h2 h3
  have hCx : ∀ q ∈ V, ∀ {ns K}, Tri ns0 V x y z ns K → okId ns q ∧ (clN ns q).length ≤ C := fun q hq {ns K} h => ⟨okId_pre h.pre (h.ok q hq), by rw [cl_pre h.nm0.ok h.nm.ok h.pre (h.ok q hq)]; exact hC.cl q hq⟩
  have hcl1 : ∀ ns : List Nd, (clN ns 1).length ≤ 1 := fun ns => by rw [cl_one]; simp
  have hC1 : 1 ≤ C := by
    have := hC.cl 0 hC.v0
    rw [cl_zero hC.nm] at this; simpa using this
  conv => whnf
  repeat ((first | refine BrReq.yes rfl ?_ | refine BrReq.tt ?_ | refine BrReq.ff ?_ | (refine' zl hX rfl rfl hL ?_ ?_ ?_; rotate_left 4; (repeat first | exact .h | refine .t ?_); exact rfl) | (refine' zm hX rfl rfl hL ?_ ?_ ?_; rotate_left 3; (repeat first | exact .h | refine .t ?_); exact rfl) | (refine' zs hX rfl rfl rfl hL ?_ ?_ ?_; rotate_left 3; (repeat first | exact .h | apply Sets.t); exact rfl; clear hL; intro w hL) | refine ArReq.i64 (by omega) (by omega) ?_ | refine SeqReq.go hX ?_ | refine OptReq.mk rfl ?_); conv => whnf)
  refine CallReq.mk (L1 := L) (L2 := []) (Cat2_fn _ ab _ L hA hT.nm (hCx x hT.vx hT).1 hT.nm.n1.ok (Nat.le_trans (Nat.add_le_add hT.len (hCx x hT.vx hT).2) (by omega))) (by rw [List.append_nil]; exact hL) ?_
  clear hL
  rintro u mx L w hL - ⟨ns', r', hu, hA', hG⟩
  rw [List.append_nil] at hL
  rw [hG.e1 hT.nm (hCx x hT.vx hT).1] at hu
  subst hu
  have hT' : Tri ns0 V x y z ns' _ := hT.up hG.pre hG.nm (K' := C) (Nat.le_trans hG.len (Nat.add_le_add_left (hCx x hT.vx hT).2 _))
  clear hG
  clear hT hA
  have hA := hA'
  have hT := hT'
  clear hA' hT'
  conv => whnf
  repeat ((first | refine BrReq.yes rfl ?_ | refine BrReq.tt ?_ | refine BrReq.ff ?_ | (refine' zl hX rfl rfl hL ?_ ?_ ?_; rotate_left 4; (repeat first | exact .h | refine .t ?_); exact rfl) | (refine' zm hX rfl rfl hL ?_ ?_ ?_; rotate_left 3; (repeat first | exact .h | refine .t ?_); exact rfl) | (refine' zs hX rfl rfl rfl hL ?_ ?_ ?_; rotate_left 3; (repeat first | exact .h | apply Sets.t); exact rfl; clear hL; intro w hL) | refine ArReq.i64 (by omega) (by omega) ?_ | refine SeqReq.go hX ?_ | refine OptReq.mk rfl ?_); conv => whnf)
  refine CallReq.mk (L1 := L) (L2 := []) (Cat2_fn _ ab _ L hA hT.nm hT.nm.n1.ok (hCx x hT.vx hT).1 (Nat.le_trans (Nat.add_le_add hT.len (hcl1 _)) (by omega))) (by rw [List.append_nil]; exact hL) ?_
  clear hL
  rintro u mx L w hL - ⟨ns', r', hu, hA', hG⟩
  rw [List.append_nil] at hL
  rw [hG.e2 hT.nm (hCx x hT.vx hT).1] at hu
  subst hu
  have hT' : Tri ns0 V x y z ns' _ := hT.up hG.pre hG.nm (K' := 1) (Nat.le_trans hG.len (Nat.add_le_add_left (hcl1 _) _))
  clear hG
  clear hT hA
  have hA := hA'
  have hT := hT'
  clear hA' hT'
  conv => whnf
  repeat ((first | refine BrReq.yes rfl ?_ | refine BrReq.tt ?_ | refine BrReq.ff ?_ | (refine' zl hX rfl rfl hL ?_ ?_ ?_; rotate_left 4; (repeat first | exact .h | refine .t ?_); exact rfl) | (refine' zm hX rfl rfl hL ?_ ?_ ?_; rotate_left 3; (repeat first | exact .h | refine .t ?_); exact rfl) | (refine' zs hX rfl rfl rfl hL ?_ ?_ ?_; rotate_left 3; (repeat first | exact .h | apply Sets.t); exact rfl; clear hL; intro w hL) | refine ArReq.i64 (by omega) (by omega) ?_ | refine SeqReq.go hX ?_ | refine OptReq.mk rfl ?_); conv => whnf)
  refine CallReq.mk (L1 := L) (L2 := []) (Cat2_fn _ ab _ L hA hT.nm (hCx x hT.vx hT).1 hT.nm.n0.ok (Nat.le_trans (Nat.add_le_add hT.len (hCx x hT.vx hT).2) (by omega))) (by rw [List.append_nil]; exact hL) ?_
  clear hL
  rintro u mx L w hL - ⟨ns', r', hu, hA', hG⟩
  rw [List.append_nil] at hL
  rw [show r' = 0 from hG.no (.inr rfl)] at hu
  subst hu
  have hT' : Tri ns0 V x y z ns' _ := hT.up hG.pre hG.nm (K' := C) (Nat.le_trans hG.len (Nat.add_le_add_left (hCx x hT.vx hT).2 _))
  clear hG
  clear hT hA
  have hA := hA'
  have hT := hT'
  clear hA' hT'
  conv => whnf
  repeat ((first | refine BrReq.yes rfl ?_ | refine BrReq.tt ?_ | refine BrReq.ff ?_ | (refine' zl hX rfl rfl hL ?_ ?_ ?_; rotate_left 4; (repeat first | exact .h | refine .t ?_); exact rfl) | (refine' zm hX rfl rfl hL ?_ ?_ ?_; rotate_left 3; (repeat first | exact .h | refine .t ?_); exact rfl) | (refine' zs hX rfl rfl rfl hL ?_ ?_ ?_; rotate_left 3; (repeat first | exact .h | apply Sets.t); exact rfl; clear hL; intro w hL) | refine ArReq.i64 (by omega) (by omega) ?_ | refine SeqReq.go hX ?_ | refine OptReq.mk rfl ?_); conv => whnf)
  refine CallReq.mk (L1 := L) (L2 := []) (Cat2_fn _ ab _ L hA hT.nm hT.nm.n0.ok (hCx x hT.vx hT).1 (Nat.le_trans (Nat.add_le_add hT.len (hCx 0 hT.w0 hT).2) (by omega))) (by rw [List.append_nil]; exact hL) ?_
  clear hL
  rintro u mx L w hL - ⟨ns', r', hu, hA', hG⟩
  rw [List.append_nil] at hL
  rw [show r' = 0 from hG.no (.inl rfl)] at hu
  subst hu
  have hT' : Tri ns0 V x y z ns' _ := hT.up hG.pre hG.nm (K' := C) (Nat.le_trans hG.len (Nat.add_le_add_left (hCx 0 hT.w0 hT).2 _))
  clear hG
  clear hT hA
  have hA := hA'
  have hT := hT'
  clear hA' hT'
  have hTa := hT
  conv => whnf
  repeat ((first | refine BrReq.yes rfl ?_ | refine BrReq.tt ?_ | refine BrReq.ff ?_ | (refine' zl hX rfl rfl hL ?_ ?_ ?_; rotate_left 4; (repeat first | exact .h | refine .t ?_); exact rfl) | (refine' zm hX rfl rfl hL ?_ ?_ ?_; rotate_left 3; (repeat first | exact .h | refine .t ?_); exact rfl) | (refine' zs hX rfl rfl rfl hL ?_ ?_ ?_; rotate_left 3; (repeat first | exact .h | apply Sets.t); exact rfl; clear hL; intro w hL) | refine ArReq.i64 (by omega) (by omega) ?_ | refine SeqReq.go hX ?_ | refine OptReq.mk rfl ?_); conv => whnf)
  refine CallReq.mk (L1 := L) (L2 := []) (Cat2_fn _ ab _ L hA hT.nm (hCx x hT.vx hT).1 (hCx y hT.vy hT).1 (Nat.le_trans (Nat.add_le_add hT.len (hCx x hT.vx hT).2) (by omega))) (by rw [List.append_nil]; exact hL) ?_
  clear hL
  rintro u mx L w hL - ⟨ns', r1, hu, hA', hG⟩
  rw [List.append_nil] at hL
  skip
  subst hu
  have hT' : Tri ns0 V x y z ns' _ := hT.up hG.pre hG.nm (K' := C) (Nat.le_trans hG.len (Nat.add_le_add_left (hCx x hT.vx hT).2 _))
  have hCa := hG; clear hG
  clear hT hA
  have hA := hA'
  have hT := hT'
  clear hA' hT'
  have hl1 : (clN ns' r1).length ≤ 2 * C := by
    have := hCa.clen hTa.nm
    have := (hCx x hT.vx hTa).2
    have := (hCx y hT.vy hTa).2
    omega
  conv => whnf
  repeat ((first | refine BrReq.yes rfl ?_ | refine BrReq.tt ?_ | refine BrReq.ff ?_ | (refine' zl hX rfl rfl hL ?_ ?_ ?_; rotate_left 4; (repeat first | exact .h | refine .t ?_); exact rfl) | (refine' zm hX rfl rfl hL ?_ ?_ ?_; rotate_left 3; (repeat first | exact .h | refine .t ?_); exact rfl) | (refine' zs hX rfl rfl rfl hL ?_ ?_ ?_; rotate_left 3; (repeat first | exact .h | apply Sets.t); exact rfl; clear hL; intro w hL) | refine ArReq.i64 (by omega) (by omega) ?_ | refine SeqReq.go hX ?_ | refine OptReq.mk rfl ?_); conv => whnf)
  refine CallReq.mk (L1 := L) (L2 := []) (Cat2_fn _ ab _ L hA hT.nm hCa.ok (hCx z hT.vz hT).1 (Nat.le_trans (Nat.add_le_add hT.len hl1) (by omega))) (by rw [List.append_nil]; exact hL) ?_
  clear hL
  rintro u mx L w hL - ⟨ns', r2, hu, hA', hG⟩
  rw [List.append_nil] at hL
  skip
  subst hu
  have hT' : Tri ns0 V x y z ns' _ := hT.up hG.pre hG.nm (K' := 2 * C) (Nat.le_trans hG.len (Nat.add_le_add_left hl1 _))
  have hCb := hG; clear hG
  clear hT hA
  have hA := hA'
  have hT := hT'
  clear hA' hT'
  conv => whnf
  repeat ((first | refine BrReq.yes rfl ?_ | refine BrReq.tt ?_ | refine BrReq.ff ?_ | (refine' zl hX rfl rfl hL ?_ ?_ ?_; rotate_left 4; (repeat first | exact .h | refine .t ?_); exact rfl) | (refine' zm hX rfl rfl hL ?_ ?_ ?_; rotate_left 3; (repeat first | exact .h | refine .t ?_); exact rfl) | (refine' zs hX rfl rfl rfl hL ?_ ?_ ?_; rotate_left 3; (repeat first | exact .h | apply Sets.t); exact rfl; clear hL; intro w hL) | refine ArReq.i64 (by omega) (by omega) ?_ | refine SeqReq.go hX ?_ | refine OptReq.mk rfl ?_); conv => whnf)
  refine CallReq.mk (L1 := L) (L2 := []) (Cat2_fn _ ab _ L hA hT.nm (hCx y hT.vy hT).1 (hCx z hT.vz hT).1 (Nat.le_trans (Nat.add_le_add hT.len (hCx y hT.vy hT).2) (by omega))) (by rw [List.append_nil]; exact hL) ?_
  clear hL
  rintro u mx L w hL - ⟨ns', r3, hu, hA', hG⟩
  rw [List.append_nil] at hL
  skip
  subst hu
  have hT' : Tri ns0 V x y z ns' _ := hT.up hG.pre hG.nm (K' := C) (Nat.le_trans hG.len (Nat.add_le_add_left (hCx y hT.vy hT).2 _))
  have hCc := hG; clear hG
  clear hT hA
  have hA := hA'
  have hT := hT'
  clear hA' hT'
  conv => whnf
  repeat ((first | refine BrReq.yes rfl ?_ | refine BrReq.tt ?_ | refine BrReq.ff ?_ | (refine' zl hX rfl rfl hL ?_ ?_ ?_; rotate_left 4; (repeat first | exact .h | refine .t ?_); exact rfl) | (refine' zm hX rfl rfl hL ?_ ?_ ?_; rotate_left 3; (repeat first | exact .h | refine .t ?_); exact rfl) | (refine' zs hX rfl rfl rfl hL ?_ ?_ ?_; rotate_left 3; (repeat first | exact .h | apply Sets.t); exact rfl; clear hL; intro w hL) | refine ArReq.i64 (by omega) (by omega) ?_ | refine SeqReq.go hX ?_ | refine OptReq.mk rfl ?_); conv => whnf)
  refine CallReq.mk (L1 := L) (L2 := []) (Cat2_fn _ ab _ L hA hT.nm (hCx x hT.vx hT).1 hCc.ok (Nat.le_trans (Nat.add_le_add hT.len (hCx x hT.vx hT).2) (by omega))) (by rw [List.append_nil]; exact hL) ?_
  clear hL
  rintro u mx L w hL - ⟨ns', r4, hu, hA', hG⟩
  rw [List.append_nil] at hL
  rw [cat_assoc hTa.nm (hCx x hT.vx hTa).1 (hCx y hT.vy hTa).1 (hCx z hT.vz hTa).1 hCa hCb hCc hG] at hu
  subst hu
  have hT' : Tri ns0 V x y z ns' _ := hT.up hG.pre hG.nm (K' := C) (Nat.le_trans hG.len (Nat.add_le_add_left (hCx x hT.vx hT).2 _))
  clear hG hCa hCb hCc
  clear hT hA
  have hA := hA'
  have hT := hT'
  clear hA' hT'
  conv => whnf
  repeat ((first | refine BrReq.yes rfl ?_ | refine BrReq.tt ?_ | refine BrReq.ff ?_ | (refine' zl hX rfl rfl hL ?_ ?_ ?_; rotate_left 4; (repeat first | exact .h | refine .t ?_); exact rfl) | (refine' zm hX rfl rfl hL ?_ ?_ ?_; rotate_left 3; (repeat first | exact .h | refine .t ?_); exact rfl) | (refine' zs hX rfl rfl rfl hL ?_ ?_ ?_; rotate_left 3; (repeat first | exact .h | apply Sets.t); exact rfl; clear hL; intro w hL) | refine ArReq.i64 (by omega) (by omega) ?_ | refine SeqReq.go hX ?_ | refine OptReq.mk rfl ?_); conv => whnf)
  obtain ⟨hn1, -⟩ := not_spec hT.nm (hCx x hT.vx hT).1 (by have := hT.len; omega)
  have hnn := not_not hT.nm (hCx x hT.vx hT).1 (by have := hT.len; omega)
  refine CallReq.mk (L1 := L) (L2 := []) (NotG_fn _ ab _ L hA hT.nm.ok x) (by rw [List.append_nil]; exact hL) ?_
  clear hL
  rintro u mx L w hL - ⟨hu, hA'⟩
  subst hu
  rw [List.append_nil] at hL
  generalize hq : notN _ x = q at hn1 hnn hA' ⊢
  have hT' := hT.up hn1.pre hn1.nm (K' := 1) hn1.len
  clear hT hA
  have hT := hT'
  have hA := hA'
  clear hT' hA'
  conv => whnf
  repeat ((first | refine BrReq.yes rfl ?_ | refine BrReq.tt ?_ | refine BrReq.ff ?_ | (refine' zl hX rfl rfl hL ?_ ?_ ?_; rotate_left 4; (repeat first | exact .h | refine .t ?_); exact rfl) | (refine' zm hX rfl rfl hL ?_ ?_ ?_; rotate_left 3; (repeat first | exact .h | refine .t ?_); exact rfl) | (refine' zs hX rfl rfl rfl hL ?_ ?_ ?_; rotate_left 3; (repeat first | exact .h | apply Sets.t); exact rfl; clear hL; intro w hL) | refine ArReq.i64 (by omega) (by omega) ?_ | refine SeqReq.go hX ?_ | refine OptReq.mk rfl ?_); conv => whnf)
  refine CallReq.mk (L1 := L) (L2 := []) (NotG_fn _ ab _ L hA hn1.nm.ok q.2) (by rw [List.append_nil]; exact hL) ?_
  clear hL
  rintro u mx L w hL - ⟨hu, hA'⟩
  rw [List.append_nil] at hL
  rw [hnn] at hu hA'
  subst hu
  clear hA
  have hA := hA'
  clear hA'
  conv => whnf
  repeat ((first | refine BrReq.yes rfl ?_ | refine BrReq.tt ?_ | refine BrReq.ff ?_ | (refine' zl hX rfl rfl hL ?_ ?_ ?_; rotate_left 4; (repeat first | exact .h | refine .t ?_); exact rfl) | (refine' zm hX rfl rfl hL ?_ ?_ ?_; rotate_left 3; (repeat first | exact .h | refine .t ?_); exact rfl) | (refine' zs hX rfl rfl rfl hL ?_ ?_ ?_; rotate_left 3; (repeat first | exact .h | apply Sets.t); exact rfl; clear hL; intro w hL) | refine ArReq.i64 (by omega) (by omega) ?_ | refine SeqReq.go hX ?_ | refine OptReq.mk rfl ?_); conv => whnf)
  clear hq hn1 hnn
  obtain ⟨hn1, -⟩ := star_spec hT.nm (hCx x hT.vx hT).1 (by have := hT.len; omega)
  have hnn := star_star hT.nm (hCx x hT.vx hT).1 (by have := hT.len; omega)
  refine CallReq.mk (L1 := L) (L2 := []) (StarG_fn _ ab _ L hA hT.nm.ok x) (by rw [List.append_nil]; exact hL) ?_
  clear hL
  rintro u mx L w hL - ⟨hu, hA'⟩
  subst hu
  rw [List.append_nil] at hL
  generalize hq : starN _ x = q at hn1 hnn hA' ⊢
  have hT' := hT.up hn1.pre hn1.nm (K' := 1) hn1.len
  clear hT hA
  have hT := hT'
  have hA := hA'
  clear hT' hA'
  conv => whnf
  repeat ((first | refine BrReq.yes rfl ?_ | refine BrReq.tt ?_ | refine BrReq.ff ?_ | (refine' zl hX rfl rfl hL ?_ ?_ ?_; rotate_left 4; (repeat first | exact .h | refine .t ?_); exact rfl) | (refine' zm hX rfl rfl hL ?_ ?_ ?_; rotate_left 3; (repeat first | exact .h | refine .t ?_); exact rfl) | (refine' zs hX rfl rfl rfl hL ?_ ?_ ?_; rotate_left 3; (repeat first | exact .h | apply Sets.t); exact rfl; clear hL; intro w hL) | refine ArReq.i64 (by omega) (by omega) ?_ | refine SeqReq.go hX ?_ | refine OptReq.mk rfl ?_); conv => whnf)
  refine CallReq.mk (L1 := L) (L2 := []) (StarG_fn _ ab _ L hA hn1.nm.ok q.2) (by rw [List.append_nil]; exact hL) ?_
  clear hL
  rintro u mx L w hL - ⟨hu, hA'⟩
  rw [List.append_nil] at hL
  rw [hnn.1] at hu hA'
  subst hu
  clear hA
  have hA := hA'
  clear hA'
  conv => whnf
  repeat ((first | refine BrReq.yes rfl ?_ | refine BrReq.tt ?_ | refine BrReq.ff ?_ | (refine' zl hX rfl rfl hL ?_ ?_ ?_; rotate_left 4; (repeat first | exact .h | refine .t ?_); exact rfl) | (refine' zm hX rfl rfl hL ?_ ?_ ?_; rotate_left 3; (repeat first | exact .h | refine .t ?_); exact rfl) | (refine' zs hX rfl rfl rfl hL ?_ ?_ ?_; rotate_left 3; (repeat first | exact .h | apply Sets.t); exact rfl; clear hL; intro w hL) | refine ArReq.i64 (by omega) (by omega) ?_ | refine SeqReq.go hX ?_ | refine OptReq.mk rfl ?_); conv => whnf)
  refine CallReq.mk (L1 := L) (L2 := []) (StarG_fn _ ab _ L hA hn1.nm.ok x) (by rw [List.append_nil]; exact hL) ?_
  clear hL
  rintro u mx L w hL - ⟨hu, hA'⟩
  rw [List.append_nil] at hL
  rw [hnn.2] at hu hA'
  subst hu
  clear hA
  have hA := hA'
  clear hA'
  conv => whnf
  repeat ((first | refine BrReq.yes rfl ?_ | refine BrReq.tt ?_ | refine BrReq.ff ?_ | (refine' zl hX rfl rfl hL ?_ ?_ ?_; rotate_left 4; (repeat first | exact .h | refine .t ?_); exact rfl) | (refine' zm hX rfl rfl hL ?_ ?_ ?_; rotate_left 3; (repeat first | exact .h | refine .t ?_); exact rfl) | (refine' zs hX rfl rfl rfl hL ?_ ?_ ?_; rotate_left 3; (repeat first | exact .h | apply Sets.t); exact rfl; clear hL; intro w hL) | refine ArReq.i64 (by omega) (by omega) ?_ | refine SeqReq.go hX ?_ | refine OptReq.mk rfl ?_); conv => whnf)
  refine CallReq.mk (L1 := L) (L2 := []) (Or0_fn _ ab _ L hA hT.nm V (by have := hT.len; omega)) (by rw [List.append_nil]; exact hL) ?_
  clear hL
  rintro u mx L w hL - ⟨ns', r', hu, hA', hG⟩
  rw [List.append_nil] at hL
  obtain ⟨e, hl⟩ := hG.same 0 (unit_none hT.nm false)
  rw [e] at hu
  subst hu
  have hT' := hT.up hG.pre hG.nm (K' := 1) hl
  clear hG hT hA hl e
  have hA := hA'
  have hT := hT'
  clear hA' hT'
  conv => whnf
  repeat ((first | refine BrReq.yes rfl ?_ | refine BrReq.tt ?_ | refine BrReq.ff ?_ | (refine' zl hX rfl rfl hL ?_ ?_ ?_; rotate_left 4; (repeat first | exact .h | refine .t ?_); exact rfl) | (refine' zm hX rfl rfl hL ?_ ?_ ?_; rotate_left 3; (repeat first | exact .h | refine .t ?_); exact rfl) | (refine' zs hX rfl rfl rfl hL ?_ ?_ ?_; rotate_left 3; (repeat first | exact .h | apply Sets.t); exact rfl; clear hL; intro w hL) | refine ArReq.i64 (by omega) (by omega) ?_ | refine SeqReq.go hX ?_ | refine OptReq.mk rfl ?_); conv => whnf)
  refine CallReq.mk (L1 := L) (L2 := []) (And0_fn _ ab _ L hA hT.nm V (by have := hT.len; omega)) (by rw [List.append_nil]; exact hL) ?_
  clear hL
  rintro u mx L w hL - ⟨ns', r', hu, hA', hG⟩
  rw [List.append_nil] at hL
  obtain ⟨e, hl⟩ := hG.same 2 (unit_none hT.nm true)
  rw [e] at hu
  subst hu
  have hT' := hT.up hG.pre hG.nm (K' := 1) hl
  clear hG hT hA hl e
  have hA := hA'
  have hT := hT'
  clear hA' hT'
  conv => whnf
  repeat ((first | refine BrReq.yes rfl ?_ | refine BrReq.tt ?_ | refine BrReq.ff ?_ | (refine' zl hX rfl rfl hL ?_ ?_ ?_; rotate_left 4; (repeat first | exact .h | refine .t ?_); exact rfl) | (refine' zm hX rfl rfl hL ?_ ?_ ?_; rotate_left 3; (repeat first | exact .h | refine .t ?_); exact rfl) | (refine' zs hX rfl rfl rfl hL ?_ ?_ ?_; rotate_left 3; (repeat first | exact .h | apply Sets.t); exact rfl; clear hL; intro w hL) | refine ArReq.i64 (by omega) (by omega) ?_ | refine SeqReq.go hX ?_ | refine OptReq.mk rfl ?_); conv => whnf)
  exact RetReq.mk hL ⟨rfl, _, hA, hT.nm, hT.pre, by have := hT.len; omega⟩
end Go.Proofs.Ytblpobeokfkggaa.ar
