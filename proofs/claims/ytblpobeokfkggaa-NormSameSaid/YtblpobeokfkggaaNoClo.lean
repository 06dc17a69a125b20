/- norm, plain law: what is put together of some nodes. Conditions: none. -/
import Derived.Test.YtblpobeokfkggaaNoCatLaw

namespace Go.Proofs.Ytblpobeokfkggaa.ar
open Go Go.Ev Go.Proofs

/-- Some nodes, with all that they are put together of. -/
structure Clo (ns : List Nd) (V : List Int) (C : Nat) : Prop where
  nm : Nm ns
  ok : ∀ x ∈ V, okId ns x
  v0 : (0 : Int) ∈ V
  v1 : (1 : Int) ∈ V
  v2 : (2 : Int) ∈ V
  mem : ∀ x ∈ V, ∀ g z, (ofId g ns x).P z → z ∈ V
  inn : ∀ x ∈ V, kindN ns x = 6 → (nodeN ns x).1.a ∈ V
  cl : ∀ x ∈ V, (clN ns x).length ≤ C
theorem Clo.pre {ns ns' : List Nd} {V : List Int} {C C' : Nat} (h : Clo ns V C) (hp : ns <+: ns') (hN : Nm ns') (hc : C ≤ C') : Clo ns' V C' :=
  ⟨hN, fun x hx => okId_pre hp (h.ok x hx), h.v0, h.v1, h.v2, fun x hx g z hz => h.mem x hx g z (by rwa [ofId_pre h.nm.ok hN.ok hp g (h.ok x hx)] at hz), fun x hx hk => by
    rw [kind_pre hp (h.ok x hx)] at hk
    rw [node_pre hp (h.ok x hx)]; exact h.inn x hx hk, fun x hx => by rw [cl_pre h.nm.ok hN.ok hp (h.ok x hx)]; exact Nat.le_trans (h.cl x hx) hc⟩
theorem Clo.add {ns : List Nd} {V : List Int} {C : Nat} (h : Clo ns V C) {r : Int} (hr : okId ns r) (h1 : r ∈ V ∨ ((∀ g, kindN ns r = kdG g → ∀ z, (ofId g ns r).P z → z ∈ V) ∧ (kindN ns r = 6 → (nodeN ns r).1.a ∈ V) ∧ (clN ns r).length ≤ C)) : Clo ns (V ++ [r]) C := by
  have hm : ∀ g z, (ofId g ns r).P z → z ∈ V ++ [r] := fun g z hz => by
    rcases h1 with h1 | ⟨h1, -, -⟩
    · simp [h.mem r h1 g z hz]
    · by_cases hk : kindN ns r = kdG g
      · simp [h1 g hk z hz]
      · have := hz.1
        rw [ch_leaf _ hk] at this
        simp [List.mem_singleton.1 this]
  refine ⟨h.nm, fun x hx => ?_, by simp [h.v0], by simp [h.v1], by simp [h.v2], fun x hx g z hz => ?_, fun x hx hk => ?_, fun x hx => ?_⟩
  · rcases List.mem_append.1 hx with hx | hx
    · exact h.ok x hx
    · rw [List.mem_singleton.1 hx]; exact hr
  · rcases List.mem_append.1 hx with hx | hx
    · simp [h.mem x hx g z hz]
    · rw [List.mem_singleton.1 hx] at hz; exact hm g z hz
  · rcases List.mem_append.1 hx with hx | hx
    · simp [h.inn x hx hk]
    · rw [List.mem_singleton.1 hx] at hk ⊢
      rcases h1 with h1 | ⟨-, h1, -⟩
      · simp [h.inn r h1 hk]
      · simp [h1 hk]
  · rcases List.mem_append.1 hx with hx | hx
    · exact h.cl x hx
    · rw [List.mem_singleton.1 hx]
      rcases h1 with h1 | ⟨-, -, h1⟩
      · exact h.cl r h1
      · exact h1
theorem Clo.room {ns : List Nd} {V : List Int} {C : Nat} (h : Clo ns V C) {g : Bool} {x y : Int} (hx : x ∈ V) (hy : y ∈ V) : ∀ z, (elL g ns [x, y]).P z → z ∈ V := by
  rw [elL_two]
  exact fun z hz => hz.elim (h.mem x hx g z) (h.mem y hy g z)
theorem cl_leaf {ns : List Nd} {x : Int} (h : kindN ns x ≠ 3) : (clN ns x).length ≤ 1 := by
  unfold clN
  split
  · simp
  · rw [ch_leaf _ h]; simp
/-- Or, And of two of them. -/
theorem Clo.gput {ns : List Nd} {V : List Int} {C : Nat} (h : Clo ns V C) (hc : 1 ≤ C) {g : Bool} {x y : Int} (hx : x ∈ V) (hy : y ∈ V) (hr : ns.length + V.length + 1 ≤ 20000) :
    Clo (gputN g ns [x, y]).1 (V ++ [(gputN g ns [x, y]).2]) C ∧ ns <+: (gputN g ns [x, y]).1 ∧ (gputN g ns [x, y]).1.length ≤ ns.length + V.length + 1 ∧ okId (gputN g ns [x, y]).1 (gputN g ns [x, y]).2 := by
  obtain ⟨h1, h2, -⟩ := gput_spec (g := g) h.nm (l := [x, y]) (by intro z hz; simp at hz; rcases hz with rfl | rfl; exact h.ok _ hx; exact h.ok _ hy) V (h.room hx hy) hr
  have hro := h.room (g := g) hx hy
  generalize gputN g ns [x, y] = r at h1 h2 ⊢
  refine ⟨(h.pre h1.pre h1.nm (Nat.le_refl C)).add h1.is.1 ?_, h1.pre, h2, h1.is.1⟩
  by_cases hm : r.2 ∈ V
  · exact .inl hm
  right
  have hE : ofId g r.1 r.2 = elL g ns [x, y] := by
    rcases h1.is.2 with ⟨h3, -⟩ | h3
    · have := top_id h1.nm h1.is.1 h3
      exfalso; apply hm; rw [this]; cases g; exact h.v2; exact h.v0
    · exact h3
  have hkd : kindN r.1 r.2 = kdG g ∨ kindN r.1 r.2 = 2 := by
    by_cases k1 : kindN r.1 r.2 = kdG g
    · exact .inl k1
    by_cases k2 : kindN r.1 r.2 = 2
    · exact .inr k2
    exfalso
    by_cases k0 : r.2 = nothingI g
    · apply hm; rw [k0]; cases g; exact h.v0; exact h.v2
    · have : (ofId g r.1 r.2).P r.2 := ⟨by rw [ch_leaf _ k1]; simp, k2, k0⟩
      rw [hE] at this
      exact hm (hro _ this)
  refine ⟨fun g' hk z hz => ?_, fun hk => ?_, ?_⟩
  · have : g' = g := by
      rcases hkd with hk' | hk' <;> rw [hk'] at hk <;> revert hk <;> cases g <;> cases g' <;> decide
    subst this
    rw [hE] at hz
    exact hro z hz
  · rcases hkd with hk' | hk' <;> rw [hk'] at hk
    · cases g <;> exact absurd hk (by decide)
    · exact absurd hk (by decide)
  · refine Nat.le_trans (cl_leaf ?_) hc
    rcases hkd with hk' | hk' <;> rw [hk']
    · cases g <;> decide
    · decide
theorem Clo.cat {ns : List Nd} {V : List Int} {C : Nat} (h : Clo ns V C) (hc : 1 ≤ C) {x y : Int} (hx : x ∈ V) (hy : y ∈ V) (hr : ns.length + C ≤ 20000) :
    Clo (catN ns x y).1 (V ++ [(catN ns x y).2]) (2 * C) ∧ ns <+: (catN ns x y).1 ∧ (catN ns x y).1.length ≤ ns.length + C ∧ okId (catN ns x y).1 (catN ns x y).2 := by
  have hcx := h.cl x hx
  have hcy := h.cl y hy
  have h1 := cat_spec h.nm (h.ok x hx) (h.ok y hy) (by omega)
  generalize catN ns x y = r at h1 ⊢
  have hlen := h1.len
  refine ⟨(h.pre h1.pre h1.nm (C' := 2 * C) (by omega)).add h1.ok ?_, h1.pre, by omega, h1.ok⟩
  by_cases hm : r.2 ∈ V
  · exact .inl hm
  right
  have hk : kindN r.1 r.2 = 3 := by
    rcases h1.sh with e | e | e | e
    · exact absurd (e ▸ h.v0) hm
    · exact absurd (e ▸ hx) hm
    · exact absurd (e ▸ hy) hm
    · exact e
  refine ⟨fun g hg => ?_, fun h6 => ?_, ?_⟩
  · rw [hk] at hg; cases g <;> exact absurd hg (by decide)
  · rw [hk] at h6; exact absurd h6 (by decide)
  · have hno : ¬ (x = 0 ∨ y = 0) := fun h0 => hm (h1.no h0 ▸ h.v0)
    rw [(h1.cl (fun e => hno (.inl e)) fun e => hno (.inr e)).2, List.length_append]; omega
theorem Clo.not {ns : List Nd} {V : List Int} {C : Nat} (h : Clo ns V C) (hc : 1 ≤ C) {x : Int} (hx : x ∈ V) (hr : ns.length < 20000) :
    Clo (notN ns x).1 (V ++ [(notN ns x).2]) C ∧ ns <+: (notN ns x).1 ∧ (notN ns x).1.length ≤ ns.length + 1 ∧ okId (notN ns x).1 (notN ns x).2 := by
  obtain ⟨h1, h2⟩ := not_spec h.nm (h.ok x hx) hr
  refine ⟨(h.pre h1.pre h1.nm (Nat.le_refl C)).add h1.ok ?_, h1.pre, h1.len, h1.ok⟩
  rcases h2 with ⟨hk, e⟩ | ⟨-, e⟩
  · left; rw [e]; exact h.inn x hx hk
  · right
    have hk : kindN (notN ns x).1 (notN ns x).2 = 6 := e.kind
    refine ⟨fun g hg => ?_, fun _ => by rw [e.node]; exact hx, Nat.le_trans (cl_leaf (by rw [hk]; decide)) hc⟩
    rw [hk] at hg; cases g <;> exact absurd hg (by decide)
theorem Clo.star {ns : List Nd} {V : List Int} {C : Nat} (h : Clo ns V C) (hc : 1 ≤ C) {x : Int} (hx : x ∈ V) (hr : ns.length < 20000) :
    Clo (starN ns x).1 (V ++ [(starN ns x).2]) C ∧ ns <+: (starN ns x).1 ∧ (starN ns x).1.length ≤ ns.length + 1 ∧ okId (starN ns x).1 (starN ns x).2 := by
  obtain ⟨h1, h2⟩ := star_spec h.nm (h.ok x hx) hr
  refine ⟨(h.pre h1.pre h1.nm (Nat.le_refl C)).add h1.ok ?_, h1.pre, h1.len, h1.ok⟩
  rcases h2 with e | ⟨e, -⟩ | e
  · left; rw [e]; exact h.v1
  · left; rw [e]; exact hx
  · right
    have hk : kindN (starN ns x).1 (starN ns x).2 = 7 := e.kind
    refine ⟨fun g hg => ?_, fun h6 => ?_, Nat.le_trans (cl_leaf (by rw [hk]; decide)) hc⟩
    · rw [hk] at hg; cases g <;> exact absurd hg (by decide)
    · rw [hk] at h6; exact absurd h6 (by decide)
theorem Clo.bytes {ns : List Nd} {V : List Int} {C : Nat} (h : Clo ns V C) (hc : 1 ≤ C) {s : S4} (hs : InS s) (hr : ns.length < 20000) :
    Clo (bytesN ns s).1 (V ++ [(bytesN ns s).2]) C ∧ ns <+: (bytesN ns s).1 ∧ (bytesN ns s).1.length ≤ ns.length + 1 ∧ okId (bytesN ns s).1 (bytesN ns s).2 := by
  unfold bytesN
  by_cases hz : s = z4
  · rw [if_pos hz, h.nm.none]
    exact ⟨h.add h.nm.n0.ok (.inl h.v0), List.prefix_refl _, by simp only; omega, h.nm.n0.ok⟩
  · rw [if_neg hz]
    obtain ⟨h1, h2⟩ := one_put h.nm (inN_B hs) (right_B s _) (nmx_B hz) hr
    refine ⟨(h.pre h1.pre h1.nm (Nat.le_refl C)).add h1.ok (.inr ?_), h1.pre, h1.len, h1.ok⟩
    have hk : kindN (pN ns (ndB s)).1 (pN ns (ndB s)).2 = 2 := h2.kind
    refine ⟨fun g hg => ?_, fun h6 => ?_, Nat.le_trans (cl_leaf (by rw [hk]; decide)) hc⟩
    · rw [hk] at hg; cases g <;> exact absurd hg (by decide)
    · rw [hk] at h6; exact absurd h6 (by decide)
theorem right_8 {k : Int} {neg : Bool} {n : Nat} : rightN ⟨8, 0, 0, 0, 0, k, 0, neg⟩ n = decide (0 ≤ k ∧ k < 4) := by
  unfold rightN
  rw [if_neg (by simp), if_neg (by simp), if_neg (by simp), if_neg (by simp), if_pos rfl]
  simp
theorem look_no {ns : List Nd} {k : Int} (neg : Bool) (h : ¬ (0 ≤ k ∧ k < 4)) : lookN ns k neg = (ns, -1) := by
  have e : putN ns ⟨8, 0, 0, 0, 0, k, 0, neg⟩ = (ns, 0, 1) := by
    unfold putN
    rw [if_pos (by rw [right_8, decide_eq_false h])]
  unfold lookN pN putI
  rw [e]; rfl
theorem Clo.look {ns : List Nd} {V : List Int} {C : Nat} (h : Clo ns V C) (hc : 1 ≤ C) {k : Int} (hk : 0 ≤ k ∧ k < 4) (neg : Bool) (hr : ns.length < 20000) :
    Clo (lookN ns k neg).1 (V ++ [(lookN ns k neg).2]) C ∧ ns <+: (lookN ns k neg).1 ∧ (lookN ns k neg).1.length ≤ ns.length + 1 ∧ okId (lookN ns k neg).1 (lookN ns k neg).2 := by
  unfold lookN
  obtain ⟨h1, h2⟩ := one_put h.nm (x := ⟨8, 0, 0, 0, 0, k, 0, neg⟩) ⟨by simp [i64], by simp [u64], by simp [u64], by simp [u64], by simp [u64], by unfold i64; simp only; omega, by simp [i64]⟩ (by rw [right_8]; exact decide_eq_true hk) nmx_8 hr
  refine ⟨(h.pre h1.pre h1.nm (Nat.le_refl C)).add h1.ok (.inr ?_), h1.pre, h1.len, h1.ok⟩
  have hk : kindN (pN ns ⟨8, 0, 0, 0, 0, k, 0, neg⟩).1 (pN ns ⟨8, 0, 0, 0, 0, k, 0, neg⟩).2 = 8 := h2.kind
  refine ⟨fun g hg => ?_, fun h6 => ?_, Nat.le_trans (cl_leaf (by rw [hk]; decide)) hc⟩
  · rw [hk] at hg; cases g <;> exact absurd hg (by decide)
  · rw [hk] at h6; exact absurd h6 (by decide)
/-- An arena in which None, Empty, All were put. -/
def nsA : List Nd := [ndK 0, ndK 1, ndP 6 0 0]
theorem clo_A : Clo nsA [0, 1, 2] 1 := by
  have hO : OkA nsA := okA_put (okA_put (okA_put okA_nil (x := ndK 0) (inN_k (by omega))) (x := ndK 1) (inN_k (by omega))) (x := ndP 6 0 0) (inN_P (by omega) (by simp [i64]) (by simp [i64]))
  have hN : Nm nsA := ⟨hO, ⟨by omega, rfl⟩, ⟨by omega, rfl⟩, ⟨by omega, rfl⟩, fun z x h => by
    have hx : x ∈ nsA := List.mem_of_getElem? h.2
    simp only [nsA, List.mem_cons, List.not_mem_nil, or_false] at hx
    rcases hx with rfl | rfl | rfl
    · exact ⟨fun h => absurd h (by decide), fun h => absurd h (by decide), fun h => absurd h (by decide), fun h => absurd h (by decide), fun h => absurd h (by decide)⟩
    · exact ⟨fun h => absurd h (by decide), fun h => absurd h (by decide), fun h => absurd h (by decide), fun h => absurd h (by decide), fun h => absurd h (by decide)⟩
    · exact nmx_6 (by decide)⟩
  have hk : ∀ x ∈ ([0, 1, 2] : List Int), kindN nsA x = 0 ∨ kindN nsA x = 1 ∨ kindN nsA x = 6 := by decide
  refine ⟨hN, fun x hx => ?_, by simp, by simp, by simp, fun x hx g z hz => ?_, fun x hx h6 => ?_, fun x hx => cl_leaf ?_⟩
  · simp at hx
    rcases hx with rfl | rfl | rfl
    · exact hN.n0.ok
    · exact hN.n1.ok
    · exact hN.n2.ok
  · have := hz.1
    rw [ch_leaf _ (by have := hk x hx; cases g; · show _ ≠ (4 : Int); omega
                      · show _ ≠ (5 : Int); omega)] at this
    rw [List.mem_singleton.1 this]; exact hx
  · simp at hx
    rcases hx with rfl | rfl | rfl
    · exact absurd h6 (by decide)
    · exact absurd h6 (by decide)
    · show (nodeN nsA 2).1.a ∈ _; decide
  · have := hk x hx; omega
end Go.Proofs.Ytblpobeokfkggaa.ar
