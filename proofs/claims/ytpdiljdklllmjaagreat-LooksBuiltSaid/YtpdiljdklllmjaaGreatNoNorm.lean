/- norm, plain law: what is alike is one node. Conditions: none. -/
import Derived.Test.YtpdiljdklllmjaaGreatNoPure

namespace Go.Proofs.YtpdiljdklllmjaaGreat.ar
open Go Go.Ev Go.Proofs

/-! ### Sets of bytes, bit by bit -/
def bit (s : S4) (j : Nat) : Bool := (s.get (j / 64)).toNat.testBit (j % 64)
theorem bit_un (s t : S4) (j : Nat) : bit (un4 s t) j = (bit s j || bit t j) := by
  unfold bit; rw [get_un]; unfold orI; rw [Int.toNat_natCast, Nat.testBit_or]
theorem bit_in (s t : S4) (j : Nat) : bit (in4 s t) j = (bit s j && bit t j) := by
  unfold bit; rw [get_in]; unfold andI; rw [Int.toNat_natCast, Nat.testBit_and]
theorem bit_z (j : Nat) : bit z4 j = false := by
  unfold bit S4.get z4
  split <;> (try split) <;> (try split) <;> simp
theorem bit_ext {s t : S4} (hs : InS s) (ht : InS t) (h : ∀ j, bit s j = bit t j) : s = t := by
  have e : ∀ q, q < 4 → s.get q = t.get q := fun q hq => by
    have h1 := inS_get hs q
    have h2 := inS_get ht q
    unfold u64 at h1 h2
    have : (s.get q).toNat = (t.get q).toNat := by
      apply Nat.eq_of_testBit_eq
      intro i
      by_cases hi : i < 64
      · have := h (64 * q + i)
        unfold bit at this
        rw [show (64 * q + i) / 64 = q by omega, show (64 * q + i) % 64 = i by omega] at this
        exact this
      · have hp : 2 ^ 64 ≤ 2 ^ i := Nat.pow_le_pow_right (by omega) (by omega)
        rw [Nat.testBit_lt_two_pow (by omega), Nat.testBit_lt_two_pow (by omega)]
    omega
  obtain ⟨s0, s1, s2, s3⟩ := s
  obtain ⟨t0, t1, t2, t3⟩ := t
  have e0 := e 0 (by omega)
  have e1 := e 1 (by omega)
  have e2 := e 2 (by omega)
  have e3 := e 3 (by omega)
  simp only [S4.get] at e0 e1 e2 e3
  simp at e0 e1 e2 e3
  rw [e0, e1, e2, e3]

/-! ### A list of a kind's nodes -/
/-- The first ones, and what is behind them. -/
def chF (ns : List Nd) (kd : Int) : Nat → Int → List Int
  | 0, x => [x]
  | k + 1, x => if kindN ns x = kd then (nodeN ns x).1.a :: chF ns kd k (nodeN ns x).1.b else [x]
def chN (ns : List Nd) (kd x : Int) : List Int := chF ns kd (x.toNat + 1) x
theorem parts_lt {ns : List Nd} (hO : OkA ns) {x : Int} (h : okId ns x) (hk : kindN ns x = 3 ∨ kindN ns x = 4 ∨ kindN ns x = 5) :
    (okId ns (nodeN ns x).1.a ∧ (nodeN ns x).1.a < x) ∧ (okId ns (nodeN ns x).1.b ∧ (nodeN ns x).1.b < x) := by
  obtain ⟨p, e⟩ := okId_parts hO h hk
  obtain ⟨n, e1, e2⟩ := nodeN_ok h
  unfold kindN at hk
  rw [e1] at hk p e ⊢
  have := (right_lt (hO.right _ n e2)).1 hk
  have := h.1
  simp only at *
  exact ⟨⟨p, by omega⟩, e, by omega⟩
theorem chF_eq {ns : List Nd} (hO : OkA ns) {kd : Int} (hkd : kd = 3 ∨ kd = 4 ∨ kd = 5) : ∀ (k k' : Nat) (x : Int), okId ns x → x.toNat < k → x.toNat < k' → chF ns kd k x = chF ns kd k' x := by
  intro k
  induction k with
  | zero => intro k' x _ h; omega
  | succ k ih =>
    intro k' x hx h h'
    cases k' with
    | zero => omega
    | succ k' =>
      simp only [chF]
      split
      · rename_i hk
        have := parts_lt hO hx (by omega)
        have h0 := hx.1
        have h1 := this.2.1.1
        rw [ih k' _ this.2.1 (by omega) (by omega)]
      · rfl
theorem ch_node {ns : List Nd} (hO : OkA ns) {kd : Int} (hkd : kd = 3 ∨ kd = 4 ∨ kd = 5) {x : Int} (hx : okId ns x) (hk : kindN ns x = kd) : chN ns kd x = (nodeN ns x).1.a :: chN ns kd (nodeN ns x).1.b := by
  have := parts_lt hO hx (by omega)
  have h0 := hx.1
  have h1 := this.2.1.1
  unfold chN
  rw [chF, if_pos hk, chF_eq hO hkd x.toNat _ _ this.2.1 (by omega) (Nat.lt_succ_self _)]
theorem ch_leaf (ns : List Nd) {kd x : Int} (hk : kindN ns x ≠ kd) : chN ns kd x = [x] := by
  unfold chN; rw [chF, if_neg hk]
theorem ch_ne {ns : List Nd} {kd x : Int} : chN ns kd x ≠ [] := by
  unfold chN; rw [chF]; split <;> simp
theorem ch_induct {ns : List Nd} (hO : OkA ns) {kd : Int} (hkd : kd = 3 ∨ kd = 4 ∨ kd = 5) {Q : Int → Prop} (h1 : ∀ x, okId ns x → kindN ns x ≠ kd → Q x)
    (h2 : ∀ x, okId ns x → kindN ns x = kd → okId ns (nodeN ns x).1.a → okId ns (nodeN ns x).1.b → Q (nodeN ns x).1.b → Q x) : ∀ x, okId ns x → Q x := by
  suffices h : ∀ (k : Nat) (x : Int), x.toNat < k → okId ns x → Q x from fun x hx => h _ x (Nat.lt_succ_self _) hx
  intro k
  induction k with
  | zero => intro x h; omega
  | succ k ih =>
    intro x h hx
    by_cases hk : kindN ns x = kd
    · have := parts_lt hO hx (by omega)
      have h0 := hx.1
      have h1 := this.2.1.1
      exact h2 x hx hk this.1.1 this.2.1 (ih _ (by omega) this.2.1)
    · exact h1 x hx hk
theorem ch_pre {ns ns' : List Nd} (hO : OkA ns) (hO' : OkA ns') (hp : ns <+: ns') {kd : Int} (hkd : kd = 3 ∨ kd = 4 ∨ kd = 5) : ∀ x, okId ns x → chN ns' kd x = chN ns kd x := by
  refine ch_induct hO hkd (fun x hx hk => ?_) (fun x hx hk ha hb ih => ?_)
  · rw [ch_leaf _ hk, ch_leaf _ (by rw [kind_pre hp hx]; exact hk)]
  · rw [ch_node hO hkd hx hk, ch_node hO' hkd (okId_pre hp hx) (by rw [kind_pre hp hx]; exact hk), node_pre hp hx, ih]
theorem ch_ok {ns : List Nd} (hO : OkA ns) {kd : Int} (hkd : kd = 3 ∨ kd = 4 ∨ kd = 5) : ∀ x, okId ns x → ∀ z ∈ chN ns kd x, okId ns z := by
  refine ch_induct hO hkd (fun x hx hk => ?_) (fun x hx hk ha hb ih => ?_)
  · rw [ch_leaf _ hk]; intro z hz; rw [List.mem_singleton.1 hz]; exact hx
  · rw [ch_node hO hkd hx hk]
    intro z hz
    rcases List.mem_cons.1 hz with rfl | hz
    · exact ha
    · exact ih z hz

/-! ### Arenas in which what is alike is one -/
/-- A list of members that may be: in order, each once, no two sets of bytes. -/
structure Lst (ns : List Nd) (kd : Int) (l : List Int) : Prop where
  ok : ∀ z ∈ l, okId ns z
  lt : l.Pairwise (· < ·)
  kind : ∀ z ∈ l, kindN ns z ≠ kd
  none : ∀ z ∈ l, z ≠ 0
  all : ∀ z ∈ l, z ≠ 2
  one : ∀ z ∈ l, ∀ y ∈ l, kindN ns z = 2 → kindN ns y = 2 → z = y
def okG (kd : Int) : Prop := kd = 4 ∨ kd = 5
/-- What each node is. -/
def NmX (ns : List Nd) (x : Nd) : Prop :=
  (x.k = 2 → setOf x ≠ z4) ∧
  (x.k = 3 → (kindN ns x.a ≠ 0 ∧ kindN ns x.a ≠ 1 ∧ kindN ns x.a ≠ 3) ∧ kindN ns x.b ≠ 0 ∧ kindN ns x.b ≠ 1) ∧
  (x.k = 4 ∨ x.k = 5 → Lst ns x.k (x.a :: chN ns x.k x.b)) ∧
  (x.k = 6 → kindN ns x.a ≠ 6) ∧
  (x.k = 7 → kindN ns x.a ≠ 0 ∧ kindN ns x.a ≠ 1 ∧ kindN ns x.a ≠ 7)
structure Nm (ns : List Nd) : Prop where
  ok : OkA ns
  n0 : At ns 0 (ndK 0)
  n1 : At ns 1 (ndK 1)
  n2 : At ns 2 (ndP 6 0 0)
  nm : ∀ z x, At ns z x → NmX ns x
theorem Nm.none {ns : List Nd} (h : Nm ns) : noneN ns = (ns, 0) := pN_have h.ok h.n0
theorem Nm.empty {ns : List Nd} (h : Nm ns) : emptyN ns = (ns, 1) := pN_have h.ok h.n1
theorem Nm.all {ns : List Nd} (h : Nm ns) : allN ns = (ns, 2) := by
  have e : pN ns (ndK 0) = (ns, 0) := h.none
  have e2 : putI ns (ndK 0) = 0 := congrArg Prod.snd e
  have ea : allX ns = ndP 6 0 0 := by unfold allX ndP; rw [e2]
  unfold allN
  rw [h.none, ea]
  exact pN_have h.ok h.n2
theorem Nm.none_iff {ns : List Nd} (h : Nm ns) {z : Int} (hz : okId ns z) : kindN ns z = 0 ↔ z = 0 := by
  constructor
  · intro hk
    obtain ⟨x, hx, -⟩ := hz.at
    rw [hx.kind] at hk
    have hr := hx.right h.ok
    unfold rightN at hr
    rw [if_pos (.inl hk)] at hr
    have e := of_decide_eq_true hr
    rw [hk] at e
    refine hx.inj h.ok ?_
    rw [← e]; exact h.n0
  · rintro rfl; exact h.n0.kind
theorem Nm.empty_iff {ns : List Nd} (h : Nm ns) {z : Int} (hz : okId ns z) : kindN ns z = 1 ↔ z = 1 := by
  constructor
  · intro hk
    obtain ⟨x, hx, -⟩ := hz.at
    rw [hx.kind] at hk
    have hr := hx.right h.ok
    unfold rightN at hr
    rw [if_pos (.inr hk)] at hr
    have e := of_decide_eq_true hr
    rw [hk] at e
    refine hx.inj h.ok ?_
    rw [← e]; exact h.n1
  · rintro rfl; exact h.n1.kind
theorem Lst.pre {ns ns' : List Nd} (hp : ns <+: ns') {kd : Int} {l : List Int} (h : Lst ns kd l) : Lst ns' kd l :=
  ⟨fun z hz => okId_pre hp (h.ok z hz), h.lt, fun z hz => by rw [kind_pre hp (h.ok z hz)]; exact h.kind z hz, h.none, h.all,
    fun z hz y hy k1 k2 => h.one z hz y hy (by rwa [kind_pre hp (h.ok z hz)] at k1) (by rwa [kind_pre hp (h.ok y hy)] at k2)⟩
theorem NmX.pre {ns ns' : List Nd} (hO : OkA ns) (hO' : OkA ns') (hp : ns <+: ns') {x : Nd} (hr : rightN x ns.length = true) (h : NmX ns x) : NmX ns' x := by
  obtain ⟨r1, r2, -, -⟩ := right_lt hr
  obtain ⟨h2, h3, h4, h6, h7⟩ := h
  refine ⟨h2, fun hk => ?_, fun hk => ?_, fun hk => ?_, fun hk => ?_⟩
  · have := r1 (by omega)
    rw [kind_pre hp this.1, kind_pre hp this.2]; exact h3 hk
  · have := r1 (by omega)
    rw [ch_pre hO hO' hp (by omega) _ this.2]; exact (h4 hk).pre hp
  · have := r2 (by omega)
    rw [kind_pre hp this]; exact h6 hk
  · have := r2 (by omega)
    rw [kind_pre hp this]; exact h7 hk
theorem Nm.put {ns : List Nd} (h : Nm ns) {x : Nd} (hi : InN x) (hr : rightN x ns.length = true) (hx : NmX ns x) (hn : ns.length < 20000) : Nm (pN ns x).1 := by
  have hO' := okA_p h.ok hi
  have hp := pN_pre ns x
  rcases (pN_spec h.ok hr hn).2 with e | ⟨e, -⟩
  · rw [e]; exact h
  · rw [e] at hO' hp ⊢
    refine ⟨hO', h.n0.pre hp, h.n1.pre hp, h.n2.pre hp, fun z y hy => ?_⟩
    by_cases hz : z.toNat < ns.length
    · have h1 : At ns z y := ⟨hy.1, by have := hy.2; rwa [List.getElem?_append_left hz] at this⟩
      exact (h.nm z y h1).pre h.ok hO' hp (right_mono (h1.right h.ok) (by omega))
    · have := hy.2
      rw [List.getElem?_append_right (by omega)] at this
      have h0 : z.toNat - ns.length = 0 := by have := (List.getElem?_eq_some_iff.1 this).1; simp at this; omega
      rw [h0] at this
      cases this
      exact hx.pre h.ok hO' hp hr
/-- A node's members are its list. -/
theorem mb_ch {ns : List Nd} (h : Nm ns) {kd : Int} (hkd : kd = 4 ∨ kd = 5) : ∀ x, okId ns x → ∀ z, Mb ns kd x z ↔ z ∈ chN ns kd x := by
  refine ch_induct h.ok (kd := kd) (by omega) (fun x hx hk z => ?_) (fun x hx hk ha hb ih z => ?_)
  · rw [ch_leaf _ hk]
    constructor
    · intro hm; rw [hm.at_leaf hk]; simp
    · intro hz; rw [List.mem_singleton.1 hz]; exact .leaf hk
  · obtain ⟨nx, e1, e2⟩ := hx.at
    have hl := (h.nm x nx e1).2.2.1 (by rw [e1.kind] at hk; omega)
    have hka : kindN ns (nodeN ns x).1.a ≠ kd := by rw [e2]; rw [e1.kind] at hk; rw [← hk]; exact hl.kind _ (by simp)
    rw [ch_node h.ok (by omega) hx hk]
    constructor
    · intro hm
      cases hm with
      | leaf hk' => exact absurd hk hk'
      | a _ hm => rw [hm.at_leaf hka]; simp
      | b _ hm => simp [(ih z).1 hm]
    · intro hz
      rcases List.mem_cons.1 hz with rfl | hz
      · exact .a hk (.leaf hka)
      · exact .b hk ((ih z).2 hz)
theorem ch_lst {ns : List Nd} (h : Nm ns) {kd : Int} (hkd : kd = 4 ∨ kd = 5) {x : Int} (hx : okId ns x) (hk : kindN ns x = kd) : Lst ns kd (chN ns kd x) := by
  obtain ⟨nx, e1, e2⟩ := hx.at
  have hk' := hk
  rw [e1.kind] at hk'
  have hl := (h.nm x nx e1).2.2.1 (by omega)
  rw [ch_node h.ok (by omega) hx hk, e2]
  rw [hk'] at hl
  exact hl
/-- A list has one node at most. -/
theorem ch_inj {ns : List Nd} (hO : OkA ns) {kd : Int} (hkd : kd = 3 ∨ kd = 4 ∨ kd = 5) : ∀ x, okId ns x → ∀ y, okId ns y → chN ns kd x = chN ns kd y → x = y := by
  refine ch_induct hO hkd (fun x hx hk y hy he => ?_) (fun x hx hk ha hb ih y hy he => ?_)
  · rw [ch_leaf _ hk] at he
    by_cases hk' : kindN ns y = kd
    · rw [ch_node hO hkd hy hk'] at he
      injection he with _ he
      exact absurd he.symm ch_ne
    · rw [ch_leaf _ hk'] at he
      injection he
  · rw [ch_node hO hkd hx hk] at he
    by_cases hk' : kindN ns y = kd
    · rw [ch_node hO hkd hy hk'] at he
      injection he with e1 e2
      have e3 := ih _ (parts_lt hO hy (by omega)).2.1 e2
      obtain ⟨nx, hx1, hx2⟩ := hx.at
      obtain ⟨ny, hy1, hy2⟩ := hy.at
      have p : ∀ {n : Nd} {z : Int}, At ns z n → n.k = kd → n = ndP kd n.a n.b := fun {n z} hn hk => by
        have hr := hn.right hO
        unfold rightN at hr
        rw [if_neg (by omega), if_neg (by omega), if_pos (by omega)] at hr
        simp only [Bool.and_eq_true, decide_eq_true_eq] at hr
        rw [← hr.2, hk]; rfl
      rw [hx2] at e1 e3
      rw [hy2] at e1 e3
      rw [hx1.kind] at hk
      rw [hy1.kind] at hk'
      have en : nx = ny := by rw [p hx1 hk, p hy1 hk']; simp only at e1 e3; rw [e1, e3]
      subst en
      exact hx1.inj hO hy1
    · rw [ch_leaf _ hk'] at he
      injection he with _ he
      exact absurd he ch_ne
end Go.Proofs.YtpdiljdklllmjaaGreat.ar
