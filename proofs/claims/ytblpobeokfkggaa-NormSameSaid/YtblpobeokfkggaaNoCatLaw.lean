/- norm, plain law: Cat, Not, Star. Conditions: none. -/
import Derived.Test.YtblpobeokfkggaaNoPutLaw

namespace Go.Proofs.Ytblpobeokfkggaa.ar
open Go Go.Ev Go.Proofs

theorem nmx_3 {ns : List Nd} {a b : Int} (ha : kindN ns a ≠ 0 ∧ kindN ns a ≠ 1 ∧ kindN ns a ≠ 3) (hb : kindN ns b ≠ 0 ∧ kindN ns b ≠ 1) : NmX ns (ndP 3 a b) :=
  ⟨fun h => absurd (show (3 : Int) = 2 from h) (by omega), fun _ => ⟨ha, hb⟩, fun h => absurd (show (3 : Int) = 4 ∨ (3 : Int) = 5 from h) (by omega), fun h => absurd (show (3 : Int) = 6 from h) (by omega), fun h => absurd (show (3 : Int) = 7 from h) (by omega)⟩
theorem nmx_6 {ns : List Nd} {a : Int} (ha : kindN ns a ≠ 6) : NmX ns (ndP 6 a 0) :=
  ⟨fun h => absurd (show (6 : Int) = 2 from h) (by omega), fun h => absurd (show (6 : Int) = 3 from h) (by omega), fun h => absurd (show (6 : Int) = 4 ∨ (6 : Int) = 5 from h) (by omega), fun _ => ha, fun h => absurd (show (6 : Int) = 7 from h) (by omega)⟩
theorem nmx_7 {ns : List Nd} {a : Int} (ha : kindN ns a ≠ 0 ∧ kindN ns a ≠ 1 ∧ kindN ns a ≠ 7) : NmX ns (ndP 7 a 0) :=
  ⟨fun h => absurd (show (7 : Int) = 2 from h) (by omega), fun h => absurd (show (7 : Int) = 3 from h) (by omega), fun h => absurd (show (7 : Int) = 4 ∨ (7 : Int) = 5 from h) (by omega), fun h => absurd (show (7 : Int) = 6 from h) (by omega), fun _ => ha⟩
theorem nmx_8 {ns : List Nd} {k : Int} {neg : Bool} : NmX ns ⟨8, 0, 0, 0, 0, k, 0, neg⟩ :=
  ⟨fun h => absurd (show (8 : Int) = 2 from h) (by omega), fun h => absurd (show (8 : Int) = 3 from h) (by omega), fun h => absurd (show (8 : Int) = 4 ∨ (8 : Int) = 5 from h) (by omega), fun h => absurd (show (8 : Int) = 6 from h) (by omega), fun h => absurd (show (8 : Int) = 7 from h) (by omega)⟩
def clN (ns : List Nd) (x : Int) : List Int := if x = 1 then [] else chN ns 3 x
theorem cl_one (ns : List Nd) : clN ns 1 = [] := if_pos rfl
theorem cl_not {ns : List Nd} {x : Int} (h : x ≠ 1) : clN ns x = chN ns 3 x := if_neg h
theorem cl_pre {ns ns' : List Nd} (hO : OkA ns) (hO' : OkA ns') (hp : ns <+: ns') {x : Int} (hx : okId ns x) : clN ns' x = clN ns x := by
  unfold clN; split
  · rfl
  · exact ch_pre hO hO' hp (.inl rfl) x hx
theorem cl_inj {ns : List Nd} (hO : OkA ns) {x y : Int} (hx : okId ns x) (hy : okId ns y) (e : clN ns x = clN ns y) : x = y := by
  unfold clN at e
  split at e
  · rename_i h1
    split at e
    · rename_i h2; rw [h1, h2]
    · exact absurd e.symm ch_ne
  · split at e
    · exact absurd e ch_ne
    · exact ch_inj hO (.inl rfl) x hx y hy e
structure CatS (ns : List Nd) (x y : Int) (r : List Nd × Int) : Prop where
  pre : ns <+: r.1
  nm : Nm r.1
  len : r.1.length ≤ ns.length + (clN ns x).length
  ok : okId r.1 r.2
  no : x = 0 ∨ y = 0 → r.2 = 0
  cl : x ≠ 0 → y ≠ 0 → r.2 ≠ 0 ∧ clN r.1 r.2 = clN ns x ++ clN ns y
  sh : r.2 = 0 ∨ r.2 = x ∨ r.2 = y ∨ kindN r.1 r.2 = 3
theorem cat_put {ns : List Nd} (hN : Nm ns) {x y : Int} (hx : okId ns x) (hy : okId ns y) (x0 : x ≠ 0) (x1 : x ≠ 1) (kx : kindN ns x ≠ 3) (y0 : y ≠ 0) (y1 : y ≠ 1) (hr : ns.length < 20000) :
    ns <+: (pN ns (ndP 3 x y)).1 ∧ Nm (pN ns (ndP 3 x y)).1 ∧ (pN ns (ndP 3 x y)).1.length ≤ ns.length + 1 ∧ At (pN ns (ndP 3 x y)).1 (pN ns (ndP 3 x y)).2 (ndP 3 x y) ∧
      clN (pN ns (ndP 3 x y)).1 (pN ns (ndP 3 x y)).2 = x :: clN ns y := by
  have hri : rightN (ndP 3 x y) ns.length = true := right_P (.inl rfl) hx hy
  have hi : InN (ndP 3 x y) := inN_P (by omega) (okId_i64 hN.ok.len hx) (okId_i64 hN.ok.len hy)
  have hnx : NmX ns (ndP 3 x y) := nmx_3 ⟨fun h => x0 ((hN.none_iff hx).1 h), fun h => x1 ((hN.empty_iff hx).1 h), kx⟩ ⟨fun h => y0 ((hN.none_iff hy).1 h), fun h => y1 ((hN.empty_iff hy).1 h)⟩
  have h1 := hN.put hi hri hnx hr
  have h2 := pN_spec hN.ok hri hr
  have hp := pN_pre ns (ndP 3 x y)
  generalize pN ns (ndP 3 x y) = q at *
  refine ⟨hp, h1, ?_, h2.1, ?_⟩
  · rcases h2.2 with e | ⟨e, -⟩
    · rw [e]; omega
    · rw [e, List.length_append]; simp
  · have hk : kindN q.1 q.2 = 3 := h2.1.kind
    have hne : q.2 ≠ 1 := fun e => by have := h1.n1.kind; rw [e] at hk; rw [hk] at this; exact absurd this (by decide)
    rw [cl_not hne, ch_node h1.ok (.inl rfl) h2.1.ok hk, h2.1.node]
    show x :: chN q.1 3 y = _
    rw [cl_not y1, ch_pre hN.ok h1.ok hp (.inl rfl) y hy]
theorem catF_spec : ∀ (k : Nat) {ns : List Nd} {x y : Int}, Nm ns → okId ns x → okId ns y → x.toNat < k → ns.length + (clN ns x).length ≤ 20000 → CatS ns x y (catF k ns x y) := by
  intro k
  induction k with
  | zero => intro ns x y _ _ _ h; omega
  | succ k ih =>
    intro ns x y hN hx hy hk hr
    rw [catF, if_pos ⟨hx, hy⟩]
    by_cases h0 : x = 0 ∨ y = 0
    · rw [if_pos (h0.imp (fun h => (hN.none_iff hx).2 h) (fun h => (hN.none_iff hy).2 h)), hN.none]
      exact ⟨List.prefix_refl _, hN, by simp only; omega, hN.n0.ok, fun _ => rfl, fun h1 h2 => absurd h0 (by omega), .inl rfl⟩
    rw [if_neg (fun h => h0 (h.imp (fun h => (hN.none_iff hx).1 h) (fun h => (hN.none_iff hy).1 h)))]
    by_cases x1 : x = 1
    · rw [if_pos ((hN.empty_iff hx).2 x1)]
      exact ⟨List.prefix_refl _, hN, by simp only; omega, hy, fun h => absurd h h0, fun _ h2 => ⟨h2, by rw [x1, cl_one]; rfl⟩, .inr (.inr (.inl rfl))⟩
    rw [if_neg (fun h => x1 ((hN.empty_iff hx).1 h))]
    by_cases y1 : y = 1
    · rw [if_pos ((hN.empty_iff hy).2 y1)]
      exact ⟨List.prefix_refl _, hN, by simp only; omega, hx, fun h => absurd h h0, fun h1 _ => ⟨h1, by rw [y1, cl_one, List.append_nil]⟩, .inr (.inl rfl)⟩
    rw [if_neg (fun h => y1 ((hN.empty_iff hy).1 h))]
    by_cases k3 : kindN ns x = 3
    · rw [if_pos k3]
      obtain ⟨⟨pa, la⟩, pb, lb⟩ := parts_lt hN.ok hx (.inl k3)
      obtain ⟨n, e1, e2⟩ := hx.at
      have hx0 := hx.1
      have ha0 := pa.1
      have hb0 := pb.1
      have hcl : clN ns x = (nodeN ns x).1.a :: chN ns 3 (nodeN ns x).1.b := by rw [cl_not x1, ch_node hN.ok (.inl rfl) hx k3]
      rw [e2] at pa la pb lb ha0 hb0 hcl ⊢
      simp only at pa la pb lb ha0 hb0 hcl ⊢
      obtain ⟨⟨a0, a1, a3⟩, b0, b1⟩ := (hN.nm x n e1).2.1 (by rw [← e1.kind]; exact k3)
      have b1' : n.b ≠ 1 := fun e => b1 ((hN.empty_iff pb).2 e)
      have b0' : n.b ≠ 0 := fun e => b0 ((hN.none_iff pb).2 e)
      rw [hcl, ← cl_not b1'] at hr
      simp only [List.length_cons] at hr
      have h1 := ih hN pb hy (by omega) (by omega)
      obtain ⟨q1, q2⟩ := h1.cl b0' (fun e => h0 (.inr e))
      have q3 : (catF k ns n.b y).2 ≠ 1 := fun e => by
        rw [e, cl_one, cl_not b1'] at q2
        have := congrArg List.length q2
        rw [List.length_append] at this
        have : chN ns 3 n.b = [] := List.eq_nil_of_length_eq_zero (by simp at this; omega)
        exact ch_ne this
      generalize catF k ns n.b y = r1 at h1 q1 q2 q3 ⊢
      have hlen1 := h1.len
      cases k with
      | zero => omega
      | succ k =>
        have hpa := okId_pre h1.pre pa
        have ka := kind_pre h1.pre pa
        rw [catF, if_pos ⟨hpa, h1.ok⟩, if_neg (fun h => h.elim (fun h => a0 (ka ▸ h)) fun h => q1 ((h1.nm.none_iff h1.ok).1 h)), if_neg (fun h => a1 (ka ▸ h)), if_neg (fun h => q3 ((h1.nm.empty_iff h1.ok).1 h)), if_neg (fun h => a3 (ka ▸ h))]
        obtain ⟨p1, p2, p3, p4, p5⟩ := cat_put h1.nm hpa h1.ok (fun e => a0 (by rw [← ka]; exact (h1.nm.none_iff hpa).2 e)) (fun e => a1 (by rw [← ka]; exact (h1.nm.empty_iff hpa).2 e)) (fun h => a3 (ka ▸ h)) q1 q3 (by omega)
        refine ⟨h1.pre.trans p1, p2, ?_, p4.ok, fun h => absurd h h0, fun _ _ => ⟨fun e => ?_, ?_⟩, .inr (.inr (.inr p4.kind))⟩
        · rw [hcl, ← cl_not b1']; simp only [List.length_cons]; omega
        · have hk3 : kindN _ _ = 3 := p4.kind
          rw [e, p2.n0.kind] at hk3; exact absurd hk3 (by decide)
        · rw [p5, q2, hcl, cl_not b1']; rfl
    · rw [if_neg k3]
      have hcl : clN ns x = [x] := by rw [cl_not x1, ch_leaf _ k3]
      rw [hcl] at hr
      simp only [List.length_singleton] at hr
      obtain ⟨p1, p2, p3, p4, p5⟩ := cat_put hN hx hy (fun e => h0 (.inl e)) x1 k3 (fun e => h0 (.inr e)) y1 (by omega)
      refine ⟨p1, p2, by rw [hcl]; exact p3, p4.ok, fun h => absurd h h0, fun _ _ => ⟨fun e => ?_, by rw [p5, hcl]; rfl⟩, .inr (.inr (.inr p4.kind))⟩
      have hk3 : kindN _ _ = 3 := p4.kind
      rw [e, p2.n0.kind] at hk3; exact absurd hk3 (by decide)
theorem cat_spec {ns : List Nd} {x y : Int} (hN : Nm ns) (hx : okId ns x) (hy : okId ns y) (hr : ns.length + (clN ns x).length ≤ 20000) : CatS ns x y (catN ns x y) :=
  catF_spec _ hN hx hy (Nat.lt_succ_self _) hr
/-- One node, or one more. -/
structure OneS (ns : List Nd) (r : List Nd × Int) : Prop where
  pre : ns <+: r.1
  nm : Nm r.1
  len : r.1.length ≤ ns.length + 1
  ok : okId r.1 r.2
theorem one_put {ns : List Nd} (hN : Nm ns) {x : Nd} (hi : InN x) (hri : rightN x ns.length = true) (hx : NmX ns x) (hr : ns.length < 20000) : OneS ns (pN ns x) ∧ At (pN ns x).1 (pN ns x).2 x := by
  have h1 := hN.put hi hri hx hr
  have h2 := pN_spec hN.ok hri hr
  have hp := pN_pre ns x
  refine ⟨⟨hp, h1, ?_, h2.1.ok⟩, h2.1⟩
  rcases h2.2 with e | ⟨e, -⟩
  · rw [e]; omega
  · rw [e, List.length_append]; simp
theorem not_spec {ns : List Nd} {x : Int} (hN : Nm ns) (hx : okId ns x) (hr : ns.length < 20000) : OneS ns (notN ns x) ∧ (kindN ns x = 6 ∧ notN ns x = (ns, (nodeN ns x).1.a) ∨ kindN ns x ≠ 6 ∧ At (notN ns x).1 (notN ns x).2 (ndP 6 x 0)) := by
  unfold notN
  rw [if_pos hx]
  split
  · rename_i hk
    obtain ⟨n, e1, e2⟩ := hx.at
    rw [e1.kind] at hk
    have hr := e1.right hN.ok
    have := (right_lt hr).2.1 (.inl hk)
    have hl := (List.getElem?_eq_some_iff.1 e1.2).1
    refine ⟨⟨List.prefix_refl _, hN, by simp only; omega, ?_⟩, .inl ⟨by rw [e1.kind]; exact hk, rfl⟩⟩
    rw [e2]
    unfold okId; simp only; omega
  · rename_i hk
    obtain ⟨h1, h2⟩ := one_put hN (inN_P (by omega) (okId_i64 hN.ok.len hx) (by simp [i64])) (right_1 (.inl rfl) hx) (nmx_6 hk) hr
    exact ⟨h1, .inr ⟨hk, h2⟩⟩
theorem not_node {ns : List Nd} (hN : Nm ns) {x : Int} (hx : okId ns x) (hk : kindN ns x = 6) : okId ns (nodeN ns x).1.a ∧ kindN ns (nodeN ns x).1.a ≠ 6 ∧ At ns x (ndP 6 (nodeN ns x).1.a 0) := by
  obtain ⟨n, e1, e2⟩ := hx.at
  rw [e1.kind] at hk
  have hr := e1.right hN.ok
  have hl := (List.getElem?_eq_some_iff.1 e1.2).1
  have h2 := (right_lt hr).2.1 (.inl hk)
  unfold rightN at hr
  rw [if_neg (by omega), if_neg (by omega), if_neg (by omega), if_pos (by omega)] at hr
  simp only [Bool.and_eq_true, decide_eq_true_eq] at hr
  have en : ndP 6 n.a 0 = n := by rw [← hr.2, hk]; rfl
  rw [e2]
  simp only
  rw [en]
  exact ⟨by unfold okId; omega, (hN.nm x n e1).2.2.2.1 hk, e1⟩
theorem not_not {ns : List Nd} {x : Int} (hN : Nm ns) (hx : okId ns x) (hr : ns.length < 20000) : notN (notN ns x).1 (notN ns x).2 = ((notN ns x).1, x) := by
  obtain ⟨h1, h2⟩ := not_spec hN hx hr
  rcases h2 with ⟨hk, e⟩ | ⟨hk, e⟩
  · obtain ⟨h3, h4, h5⟩ := not_node hN hx hk
    rw [e]
    unfold notN
    rw [if_pos h3, if_neg h4]
    exact pN_have hN.ok h5
  · generalize notN ns x = r at h1 e ⊢
    have hk6 : kindN r.1 r.2 = 6 := e.kind
    unfold notN
    rw [if_pos e.ok, if_pos hk6, e.node]; rfl
theorem star_spec {ns : List Nd} {x : Int} (hN : Nm ns) (hx : okId ns x) (hr : ns.length < 20000) : OneS ns (starN ns x) ∧ ((starN ns x) = (ns, 1) ∨ starN ns x = (ns, x) ∧ kindN ns x = 7 ∨ At (starN ns x).1 (starN ns x).2 (ndP 7 x 0)) := by
  unfold starN
  rw [if_pos hx]
  split
  · rw [hN.empty]
    exact ⟨⟨List.prefix_refl _, hN, by simp only; omega, hN.n1.ok⟩, .inl rfl⟩
  split
  · rename_i hk
    exact ⟨⟨List.prefix_refl _, hN, by simp only; omega, hx⟩, .inr (.inl ⟨rfl, hk⟩)⟩
  · rename_i h0 h7
    obtain ⟨h1, h2⟩ := one_put hN (inN_P (by omega) (okId_i64 hN.ok.len hx) (by simp [i64])) (right_1 (.inr rfl) hx) (nmx_7 ⟨fun h => h0 (.inl h), fun h => h0 (.inr h), h7⟩) hr
    exact ⟨h1, .inr (.inr h2)⟩
theorem star_star {ns : List Nd} {x : Int} (hN : Nm ns) (hx : okId ns x) (hr : ns.length < 20000) : starN (starN ns x).1 (starN ns x).2 = starN ns x ∧ starN (starN ns x).1 x = starN ns x := by
  obtain ⟨h1, h2⟩ := star_spec hN hx hr
  constructor
  · rcases h2 with e | ⟨e, hk⟩ | e
    · rw [e]
      unfold starN
      rw [if_pos hN.n1.ok, if_pos (.inr hN.n1.kind), hN.empty]
    · rw [e, e]
    · generalize starN ns x = r at h1 e ⊢
      have hk : kindN r.1 r.2 = 7 := e.kind
      unfold starN
      rw [if_pos e.ok, if_neg (by omega), if_pos hk]
  · have hk := kind_pre h1.pre hx
    have hx' := okId_pre h1.pre hx
    generalize hrr : starN ns x = r at h1 h2 hk hx' ⊢
    unfold starN at hrr ⊢
    rw [if_pos hx] at hrr
    rw [if_pos hx', hk]
    by_cases h0 : kindN ns x = 0 ∨ kindN ns x = 1
    · rw [if_pos h0] at hrr ⊢
      rw [hN.empty] at hrr
      subst hrr
      exact hN.empty
    · rw [if_neg h0] at hrr ⊢
      by_cases h7 : kindN ns x = 7
      · rw [if_pos h7] at hrr ⊢
        subst hrr; rfl
      · rw [if_neg h7] at hrr ⊢
        rcases h2 with e | ⟨e, hk7⟩ | e
        · have : r.2 = 1 := by rw [e]
          have h3 := (pN_spec hN.ok (right_1 (kd := 7) (.inr rfl) hx) hr).1
          rw [hrr, this] at h3
          have := h1.nm.n1.kind
          rw [h3.kind] at this
          exact absurd (show (7 : Int) = 1 from this) (by decide)
        · exact absurd hk7 h7
        · rw [pN_have h1.nm.ok e]
end Go.Proofs.Ytblpobeokfkggaa.ar
