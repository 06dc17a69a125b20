/- norm, plain law: how many nodes Build puts. Conditions: none. -/
import Derived.Test.YtpdiljdklllmjaaGreatNoSem4
import Derived.Test.YtpdiljdklllmjaaGreatNoPutLaw

namespace Go.Proofs.YtpdiljdklllmjaaGreat.ar
open Go Go.Ev Go.Proofs Go.Proofs.YtpdiljdklllmjaaGreat.tree

/-! ### Leaves of a kind, all the way down -/
def lvF (ns : List Nd) (kd : Int) : Nat → Int → List Int
  | 0, x => [x]
  | k + 1, x => if kindN ns x = kd then lvF ns kd k (nodeN ns x).1.a ++ lvF ns kd k (nodeN ns x).1.b else [x]
def lv (ns : List Nd) (kd x : Int) : List Int := lvF ns kd (x.toNat + 1) x
def lw (ns : List Nd) (kd x : Int) : Nat := (lv ns kd x).length
abbrev k345 (kd : Int) : Prop := kd = 3 ∨ kd = 4 ∨ kd = 5
theorem lvF_eq {ns : List Nd} (hO : OkA ns) {kd : Int} (hkd : k345 kd) : ∀ (k k' : Nat) (x : Int), okId ns x → x.toNat < k → x.toNat < k' → lvF ns kd k x = lvF ns kd k' x := by
  intro k
  induction k with
  | zero => intro k' x _ h; omega
  | succ k ih =>
    intro k' x hx h h'
    cases k' with
    | zero => omega
    | succ k' =>
      simp only [lvF]
      split
      · rename_i hk
        have := parts_lt hO hx (by unfold k345 at hkd; omega)
        have h0 := hx.1
        have h1 := this.1.1.1
        have h2 := this.2.1.1
        rw [ih k' _ this.1.1 (by omega) (by omega), ih k' _ this.2.1 (by omega) (by omega)]
      · rfl
theorem lv_node {ns : List Nd} (hO : OkA ns) {kd : Int} (hkd : k345 kd) {x : Int} (hx : okId ns x) (hk : kindN ns x = kd) : lv ns kd x = lv ns kd (nodeN ns x).1.a ++ lv ns kd (nodeN ns x).1.b := by
  have := parts_lt hO hx (by unfold k345 at hkd; omega)
  have h0 := hx.1
  have h1 := this.1.1.1
  have h2 := this.2.1.1
  unfold lv
  rw [lvF, if_pos hk, lvF_eq hO hkd x.toNat _ _ this.1.1 (by omega) (Nat.lt_succ_self _), lvF_eq hO hkd x.toNat _ _ this.2.1 (by omega) (Nat.lt_succ_self _)]
theorem lv_leaf (ns : List Nd) {kd x : Int} (hk : kindN ns x ≠ kd) : lv ns kd x = [x] := by unfold lv; rw [lvF, if_neg hk]
theorem lw_node {ns : List Nd} (hO : OkA ns) {kd : Int} (hkd : k345 kd) {x : Int} (hx : okId ns x) (hk : kindN ns x = kd) : lw ns kd x = lw ns kd (nodeN ns x).1.a + lw ns kd (nodeN ns x).1.b := by
  unfold lw; rw [lv_node hO hkd hx hk, List.length_append]
theorem lw_leaf (ns : List Nd) {kd x : Int} (hk : kindN ns x ≠ kd) : lw ns kd x = 1 := by unfold lw; rw [lv_leaf ns hk]; rfl
theorem nd_induct {ns : List Nd} (hO : OkA ns) {Q : Int → Prop} (h : ∀ x, okId ns x → (∀ y, okId ns y → y < x → Q y) → Q x) : ∀ x, okId ns x → Q x := by
  suffices hh : ∀ (k : Nat) (x : Int), x.toNat < k → okId ns x → Q x from fun x hx => hh _ x (Nat.lt_succ_self _) hx
  intro k
  induction k with
  | zero => intro x h; omega
  | succ k ih =>
    intro x hk hx
    exact h x hx fun y hy hlt => ih y (by have := hy.1; have := hx.1; omega) hy
theorem lw_pre {ns ns' : List Nd} (hO : OkA ns) (hO' : OkA ns') (hp : ns <+: ns') {kd : Int} (hkd : k345 kd) : ∀ x, okId ns x → lw ns' kd x = lw ns kd x := by
  refine nd_induct hO fun x hx ih => ?_
  by_cases hk : kindN ns x = kd
  · have hpt := parts_lt hO hx (by unfold k345 at hkd; omega)
    rw [lw_node hO' hkd (okId_pre hp hx) (by rw [kind_pre hp hx]; exact hk), lw_node hO hkd hx hk, node_pre hp hx, ih _ hpt.1.1 hpt.1.2, ih _ hpt.2.1 hpt.2.2]
  · rw [lw_leaf _ hk, lw_leaf _ (by rw [kind_pre hp hx]; exact hk)]
theorem lw_pos {ns : List Nd} (hO : OkA ns) {kd : Int} (hkd : k345 kd) : ∀ x, okId ns x → 1 ≤ lw ns kd x := by
  refine nd_induct hO fun x hx ih => ?_
  by_cases hk : kindN ns x = kd
  · have hpt := parts_lt hO hx (by unfold k345 at hkd; omega)
    rw [lw_node hO hkd hx hk]
    have := ih _ hpt.1.1 hpt.1.2
    omega
  · rw [lw_leaf _ hk]; exact Nat.le_refl 1
theorem mb_lv {ns : List Nd} (hO : OkA ns) {kd : Int} (hkd : kd = 4 ∨ kd = 5) {x z : Int} (h : Mb ns kd x z) : okId ns x → z ∈ lv ns kd x := by
  induction h with
  | leaf hk => intro _; rw [lv_leaf _ hk]; simp
  | a hk _ ih => intro hx; rw [lv_node hO (by unfold k345; omega) hx hk]; simp [ih (okId_parts hO hx (by omega)).1]
  | b hk _ ih => intro hx; rw [lv_node hO (by unfold k345; omega) hx hk]; simp [ih (okId_parts hO hx (by omega)).2]
/-- All that a node leans on has at most so many leaves of each kind. -/
inductive Hb (ns : List Nd) (c : Nat) : Int → Prop
  | mk {x : Int} : okId ns x → (∀ kd, k345 kd → lw ns kd x ≤ c) → (k345 (kindN ns x) → Hb ns c (nodeN ns x).1.a) → (k345 (kindN ns x) → Hb ns c (nodeN ns x).1.b) → (kindN ns x = 6 ∨ kindN ns x = 7 → Hb ns c (nodeN ns x).1.a) → Hb ns c x
theorem Hb.ok {ns : List Nd} {c : Nat} {x : Int} (h : Hb ns c x) : okId ns x := by cases h; assumption
theorem Hb.lw {ns : List Nd} {c : Nat} {x : Int} (h : Hb ns c x) {kd : Int} (hkd : k345 kd) : lw ns kd x ≤ c := by cases h with | mk _ h _ _ _ => exact h kd hkd
theorem Hb.a {ns : List Nd} {c : Nat} {x : Int} (h : Hb ns c x) (hk : k345 (kindN ns x)) : Hb ns c (nodeN ns x).1.a := by cases h with | mk _ _ h _ _ => exact h hk
theorem Hb.b {ns : List Nd} {c : Nat} {x : Int} (h : Hb ns c x) (hk : k345 (kindN ns x)) : Hb ns c (nodeN ns x).1.b := by cases h with | mk _ _ _ h _ => exact h hk
theorem Hb.one {ns : List Nd} {c : Nat} {x : Int} (h : Hb ns c x) (hk : kindN ns x = 6 ∨ kindN ns x = 7) : Hb ns c (nodeN ns x).1.a := by cases h with | mk _ _ _ _ h => exact h hk
theorem Hb.mono {ns : List Nd} {c c' : Nat} (hc : c ≤ c') {x : Int} (h : Hb ns c x) : Hb ns c' x := by
  induction h with
  | mk h1 h2 _ _ _ i3 i4 i5 => exact .mk h1 (fun kd hk => Nat.le_trans (h2 kd hk) hc) i3 i4 i5
theorem Hb.pre {ns ns' : List Nd} (hO : OkA ns) (hO' : OkA ns') (hp : ns <+: ns') {c : Nat} {x : Int} (h : Hb ns c x) : Hb ns' c x := by
  induction h with
  | mk h1 h2 _ _ _ i3 i4 i5 =>
    refine .mk (okId_pre hp h1) (fun kd hk => by rw [lw_pre hO hO' hp hk _ h1]; exact h2 kd hk) (fun hk => ?_) (fun hk => ?_) (fun hk => ?_)
    · rw [kind_pre hp h1] at hk; rw [node_pre hp h1]; exact i3 hk
    · rw [kind_pre hp h1] at hk; rw [node_pre hp h1]; exact i4 hk
    · rw [kind_pre hp h1] at hk; rw [node_pre hp h1]; exact i5 hk
theorem Hb.mb {ns : List Nd} {c : Nat} {kd : Int} (hkd : kd = 4 ∨ kd = 5) {x z : Int} (h : Mb ns kd x z) : Hb ns c x → Hb ns c z := by
  induction h with
  | leaf _ => exact id
  | a hk _ ih => exact fun hx => ih (hx.a (by unfold k345; omega))
  | b hk _ ih => exact fun hx => ih (hx.b (by unfold k345; omega))
/-- A node of another kind. -/
theorem hb_leaf {ns : List Nd} {c : Nat} (hc : 1 ≤ c) {z : Int} {x : Nd} (h : At ns z x) (h1 : ¬ k345 x.k) (h2 : x.k ≠ 6 ∧ x.k ≠ 7) : Hb ns c z :=
  .mk h.ok (fun kd hk => by rw [lw_leaf _ (by rw [h.kind]; rintro rfl; exact h1 hk)]; exact hc) (fun hk => absurd (h.kind ▸ hk) h1) (fun hk => absurd (h.kind ▸ hk) h1) (fun hk => absurd (h.kind ▸ hk) (by omega))
theorem hb_one {ns : List Nd} {c : Nat} (hc : 1 ≤ c) {z : Int} {x : Nd} (h : At ns z x) (hk : x.k = 6 ∨ x.k = 7) (ha : Hb ns c x.a) : Hb ns c z :=
  .mk h.ok (fun kd h3 => by rw [lw_leaf _ (by rw [h.kind]; rintro rfl; unfold k345 at h3; omega)]; exact hc) (fun h3 => by rw [h.kind] at h3; unfold k345 at h3; omega) (fun h3 => by rw [h.kind] at h3; unfold k345 at h3; omega) (fun _ => by rw [h.node]; exact ha)
theorem hb_two {ns : List Nd} (hO : OkA ns) {c : Nat} (hc : 1 ≤ c) {z : Int} {x : Nd} (h : At ns z x) (hk : k345 x.k) (ha : Hb ns c x.a) (hb : Hb ns c x.b) (hl : lw ns x.k x.a + lw ns x.k x.b ≤ c) : Hb ns c z :=
  .mk h.ok (fun kd h3 => by
    by_cases e : kd = x.k
    · subst e; rw [lw_node hO h3 h.ok h.kind, h.node]; exact hl
    · rw [lw_leaf _ (by rw [h.kind]; exact fun e' => e e'.symm)]; exact hc) (fun _ => by rw [h.node]; exact ha) (fun _ => by rw [h.node]; exact hb) (fun h3 => by rw [h.kind] at h3; unfold k345 at hk; omega)
/-- A new node, or one that is there. -/
theorem put_bd {ns : List Nd} (hO : OkA ns) {x : Nd} (hi : InN x) (hr : rightN x ns.length = true) (hn : ns.length < 20000) : At (pN ns x).1 (pN ns x).2 x ∧ OkA (pN ns x).1 ∧ ns <+: (pN ns x).1 ∧ (pN ns x).1.length ≤ ns.length + 1 := by
  have h := pN_spec hO hr hn
  refine ⟨h.1, okA_p hO hi, pN_pre _ _, ?_⟩
  rcases h.2 with e | ⟨e, -⟩
  · rw [e]; omega
  · rw [e, List.length_append]; simp
theorem none_bd {ns : List Nd} (hO : OkA ns) (hn : ns.length < 20000) : At (noneN ns).1 (noneN ns).2 (ndK 0) ∧ OkA (noneN ns).1 ∧ ns <+: (noneN ns).1 ∧ (noneN ns).1.length ≤ ns.length + 1 := put_bd hO (inN_k (by omega)) rfl hn
theorem empty_bd {ns : List Nd} (hO : OkA ns) (hn : ns.length < 20000) : At (emptyN ns).1 (emptyN ns).2 (ndK 1) ∧ OkA (emptyN ns).1 ∧ ns <+: (emptyN ns).1 ∧ (emptyN ns).1.length ≤ ns.length + 1 := put_bd hO (inN_k (by omega)) rfl hn
theorem all_bd {ns : List Nd} (hO : OkA ns) (hn : ns.length < 19999) : ∃ y, At (allN ns).1 y (ndK 0) ∧ At (allN ns).1 (allN ns).2 (ndP 6 y 0) ∧ OkA (allN ns).1 ∧ ns <+: (allN ns).1 ∧ (allN ns).1.length ≤ ns.length + 2 ∧ At (noneN ns).1 y (ndK 0) := by
  obtain ⟨h1, h2, h3, h4⟩ := none_bd hO (by omega)
  have e : allX ns = ndP 6 (noneN ns).2 0 := rfl
  obtain ⟨k1, k2, k3, k4⟩ := put_bd (x := ndP 6 (noneN ns).2 0) h2 (inN_P (by omega) (okId_i64 h2.len h1.ok) (by simp [i64])) (right_1 (.inl rfl) h1.ok) (by omega)
  refine ⟨(noneN ns).2, ?_, ?_, ?_, ?_, ?_, h1⟩ <;> unfold allN <;> rw [e]
  · exact h1.pre k3
  · exact k1
  · exact k2
  · exact h3.trans k3
  · omega
/-- What counts for nothing and what takes all are there. -/
theorem nw_bd {ns : List Nd} (hO : OkA ns) (g : Bool) (hn : ns.length < 19999) : Hb (winsN g (nothingN g ns).1).1 1 (nothingN g ns).2 ∧ Hb (winsN g (nothingN g ns).1).1 1 (winsN g (nothingN g ns).1).2 ∧ OkA (winsN g (nothingN g ns).1).1 ∧ ns <+: (winsN g (nothingN g ns).1).1 ∧ (winsN g (nothingN g ns).1).1.length ≤ ns.length + 2 := by
  have hN : ∀ {m : List Nd} {z : Int}, At m z (ndK 0) → Hb m 1 z := fun h => hb_leaf (Nat.le_refl 1) h (by unfold k345 ndK; simp) (by unfold ndK; simp)
  have hA : ∀ {m : List Nd} {z y : Int}, At m z (ndP 6 y 0) → At m y (ndK 0) → Hb m 1 z := fun h h' => hb_one (Nat.le_refl 1) h (.inl rfl) (hN h')
  cases g
  · obtain ⟨h1, h2, h3, h4⟩ := none_bd hO (by omega)
    have hh : noneN (noneN ns).1 = ((noneN ns).1, (noneN ns).2) := pN_have h2 h1
    have ea : allN (noneN ns).1 = pN (noneN ns).1 (ndP 6 (noneN ns).2 0) := by
      have e1 : allX (noneN ns).1 = ndP 6 (noneN (noneN ns).1).2 0 := rfl
      unfold allN
      rw [e1, hh]
    obtain ⟨k1, k2, k3, k4⟩ := put_bd (x := ndP 6 (noneN ns).2 0) h2 (inN_P (by omega) (okId_i64 h2.len h1.ok) (by simp [i64])) (right_1 (.inl rfl) h1.ok) (by omega)
    show Hb (allN (noneN ns).1).1 1 (noneN ns).2 ∧ Hb (allN (noneN ns).1).1 1 (allN (noneN ns).1).2 ∧ OkA (allN (noneN ns).1).1 ∧ ns <+: (allN (noneN ns).1).1 ∧ (allN (noneN ns).1).1.length ≤ _
    rw [ea]
    exact ⟨hN (h1.pre k3), hA k1 (h1.pre k3), k2, h3.trans k3, by omega⟩
  · obtain ⟨y, h1, h2, h3, h4, h5, h6⟩ := all_bd hO hn
    have hh : noneN (allN ns).1 = ((allN ns).1, y) := pN_have h3 h1
    show Hb (noneN (allN ns).1).1 1 (allN ns).2 ∧ Hb (noneN (allN ns).1).1 1 (noneN (allN ns).1).2 ∧ OkA (noneN (allN ns).1).1 ∧ ns <+: (noneN (allN ns).1).1 ∧ (noneN (allN ns).1).1.length ≤ _
    rw [hh]
    exact ⟨hA h2 h1, hN h1, h3, h4, h5⟩
/-- A chain. -/
theorem chain_bd {kd : Int} (hkd : kd = 4 ∨ kd = 5) {c : Nat} (hc : 1 ≤ c) : ∀ (l : List Int) (ns : List Nd) (out : Int), OkA ns → (∀ z ∈ l, Hb ns c z ∧ kindN ns z ≠ kd) → Hb ns c out → lw ns kd out + l.length ≤ c → ns.length + l.length ≤ 20000 →
    Hb (chainN kd ns l out).1 c (chainN kd ns l out).2 ∧ OkA (chainN kd ns l out).1 ∧ (chainN kd ns l out).1.length ≤ ns.length + l.length ∧ lw (chainN kd ns l out).1 kd (chainN kd ns l out).2 = lw ns kd out + l.length
  | [], ns, out, hO, _, ho, _, _ => ⟨ho, hO, Nat.le_refl _, rfl⟩
  | z :: l, ns, out, hO, hl, ho, hlw, hr => by
    simp only [List.length_cons] at hlw hr ⊢
    obtain ⟨hz, hkz⟩ := hl z (by simp)
    have hk3 : k345 kd := by unfold k345; omega
    obtain ⟨h1, h2, h3, h4⟩ := put_bd (x := ndP kd z out) hO (inN_P (by omega) (okId_i64 hO.len hz.ok) (okId_i64 hO.len ho.ok)) (right_P (by omega) hz.ok ho.ok) (by omega)
    rw [chainN]
    generalize pN ns (ndP kd z out) = q at h1 h2 h3 h4 ⊢
    have hlz : lw q.1 kd z = 1 := lw_leaf _ (by rw [kind_pre h3 hz.ok]; exact hkz)
    have hlo : lw q.1 kd out = lw ns kd out := lw_pre hO h2 h3 hk3 _ ho.ok
    have hlq : lw q.1 kd q.2 = lw ns kd out + 1 := by
      rw [lw_node h2 hk3 h1.ok h1.kind, h1.node]
      show lw q.1 kd z + lw q.1 kd out = _
      rw [hlz, hlo]; omega
    have hq : Hb q.1 c q.2 := hb_two h2 hc h1 hk3 (hz.pre hO h2 h3) (ho.pre hO h2 h3) (by show lw q.1 kd z + lw q.1 kd out ≤ c; rw [hlz, hlo]; omega)
    obtain ⟨i1, i2, i3, i4⟩ := chain_bd hkd hc l q.1 q.2 h2 (fun y hy => ⟨(hl y (by simp [hy])).1.pre hO h2 h3, by rw [kind_pre h3 (hl y (by simp [hy])).1.ok]; exact (hl y (by simp [hy])).2⟩) hq (by omega) (by omega)
    exact ⟨i1, i2, by omega, by omega⟩
theorem split_count (g : Bool) (ns : List Nd) (l : List Int) : (splitN g ns l).1.length + (if (splitN g ns l).2.isSome then 1 else 0) ≤ l.length := by
  unfold splitN
  suffices h : ∀ (p : List Int × Option S4), (l.foldl (stepS g ns) p).1.length + (if (l.foldl (stepS g ns) p).2.isSome then 1 else 0) ≤ p.1.length + (if p.2.isSome then 1 else 0) + l.length by
    have := h ([], none)
    simpa using this
  induction l with
  | nil => intro p; simp only [List.foldl_nil, List.length_nil, Nat.add_zero]; exact Nat.le_refl _
  | cons a l ih =>
    intro p
    have h := ih (stepS g ns p a)
    rw [List.foldl_cons]
    refine Nat.le_trans h ?_
    rw [List.length_cons]
    unfold stepS
    split
    · simp only [List.length_append, List.length_singleton]; omega
    · split
      · rename_i e; rw [e]; first | (simp; done) | (simp; omega)
      · rename_i e; rw [e]; first | (simp; done) | (simp; omega)
/-- Or, And. -/
theorem gput_bd (g : Bool) {ns : List Nd} (hO : OkA ns) {l : List Int} {c S : Nat} (hc : 1 ≤ c) (hS : S ≤ c) (hl : ∀ z ∈ l, Hb ns c z) (hs : (l.map (lw ns (kdG g))).sum ≤ S) (hr : ns.length + S + 3 ≤ 20000) :
    Hb (gputN g ns l).1 c (gputN g ns l).2 ∧ OkA (gputN g ns l).1 ∧ (gputN g ns l).1.length ≤ ns.length + S + 3 ∧ lw (gputN g ns l).1 (kdG g) (gputN g ns l).2 ≤ max 1 S := by
  have hth : thereN ns l = true := by
    unfold thereN; rw [List.all_eq_true]; exact fun z hz => decide_eq_true (hl z hz).ok
  unfold gputN
  rw [if_neg (by rw [hth]; decide)]
  obtain ⟨w1, w2, w3, w4, w5⟩ := nw_bd hO g (by omega)
  have hkd := kdG_or g
  have hk3 : k345 (kdG g) := by unfold k345; omega
  have hkw : kindN (winsN g (nothingN g ns).1).1 (winsN g (nothingN g ns).1).2 ≠ kdG g ∧ kindN (winsN g (nothingN g ns).1).1 (nothingN g ns).2 ≠ kdG g := by
    constructor
    · intro e
      have h1 := w2.lw hk3
      rw [lw_node w3 hk3 w2.ok e] at h1
      have hp := parts_lt w3 w2.ok (by omega)
      have := lw_pos w3 hk3 _ hp.1.1
      have := lw_pos w3 hk3 _ hp.2.1
      omega
    · intro e
      have h1 := w1.lw hk3
      rw [lw_node w3 hk3 w1.ok e] at h1
      have hp := parts_lt w3 w1.ok (by omega)
      have := lw_pos w3 hk3 _ hp.1.1
      have := lw_pos w3 hk3 _ hp.2.1
      omega
  generalize (nothingN g ns).2 = no at *
  generalize (winsN g (nothingN g ns).1).2 = wi at *
  generalize (winsN g (nothingN g ns).1).1 = ns2 at *
  have hl2 : ∀ z ∈ l, okId ns2 z := fun z hz => okId_pre w4 (hl z hz).ok
  have hM1 : ∀ z ∈ memN ns2 (kdG g) l, Hb ns2 c z ∧ kindN ns2 z ≠ kdG g := fun z hz => by
    obtain ⟨x, hx, h⟩ := (memN_iff w3 hkd hl2 z).1 hz
    exact ⟨Hb.mb hkd h ((hl x hx).pre hO w3 w4), h.kind⟩
  have hM2 : (memN ns2 (kdG g) l).length ≤ S := by
    have h1 := (memN_nodup w3 hkd hl2).length_le_of_subset (l₂ := (l.map (lv ns2 (kdG g))).flatten) fun z hz => by
      obtain ⟨x, hx, h⟩ := (memN_iff w3 hkd hl2 z).1 hz
      exact List.mem_flatten.2 ⟨_, List.mem_map.2 ⟨x, hx, rfl⟩, mb_lv w3 hkd h (hl2 x hx)⟩
    rw [List.length_flatten, List.map_map] at h1
    have e : (l.map (List.length ∘ lv ns2 (kdG g))) = l.map (lw ns (kdG g)) := List.map_congr_left fun x hx => lw_pre hO w3 w4 hk3 x (hl x hx).ok
    rw [e] at h1
    omega
  generalize memN ns2 (kdG g) l = M at *
  have hsc := split_count g ns2 M
  have hsm := split_mem g ns2 M
  have hsi := splitN_in g w3 M
  -- the sets of bytes
  have key : ∃ ns3 l3, gbytesN g ns2 M = (ns3, l3) ∧ OkA ns3 ∧ ns2 <+: ns3 ∧ ns3.length ≤ ns2.length + 1 ∧ (∀ z ∈ l3, Hb ns3 c z ∧ kindN ns3 z ≠ kdG g) ∧ l3.length ≤ M.length := by
    unfold gbytesN
    generalize splitN g ns2 M = p at *
    obtain ⟨out, so⟩ := p
    simp only at hsc hsm hsi ⊢
    cases so with
    | none => exact ⟨ns2, out, rfl, w3, List.prefix_refl _, by omega, fun z hz => hM1 z (hsm z hz), by simpa using hsc⟩
    | some s =>
      simp only [Option.isSome_some, if_true] at hsc
      have hb : ∃ x, At (bytesN ns2 s).1 (bytesN ns2 s).2 x ∧ (x.k = 0 ∨ x.k = 2) ∧ OkA (bytesN ns2 s).1 ∧ ns2 <+: (bytesN ns2 s).1 ∧ (bytesN ns2 s).1.length ≤ ns2.length + 1 := by
        unfold bytesN
        split
        · obtain ⟨h1, h2, h3, h4⟩ := none_bd w3 (by omega)
          exact ⟨_, h1, .inl rfl, h2, h3, h4⟩
        · obtain ⟨h1, h2, h3, h4⟩ := put_bd w3 (inN_B (hsi s rfl)) (right_B s _) (by omega)
          exact ⟨_, h1, .inr rfl, h2, h3, h4⟩
      obtain ⟨x, h1, h2, h3, h4, h5⟩ := hb
      refine ⟨_, _, rfl, h3, h4, h5, fun z hz => ?_, by simp only [List.length_append, List.length_singleton]; omega⟩
      rcases List.mem_append.1 hz with hz | hz
      · have := hM1 z (hsm z hz)
        exact ⟨this.1.pre w3 h3 h4, by rw [kind_pre h4 this.1.ok]; exact this.2⟩
      · rw [List.mem_singleton.1 hz]
        exact ⟨hb_leaf hc h1 (by unfold k345; omega) (by omega), by rw [h1.kind]; rcases hkd with e | e <;> rw [e] <;> omega⟩
  obtain ⟨ns3, l3, e, b1, b2, b3, b4, b5⟩ := key
  rw [e]
  unfold restN
  dsimp only
  split
  · refine ⟨(w2.pre w3 b1 b2).mono hc, b1, by dsimp only; omega, ?_⟩
    dsimp only
    rw [lw_leaf _ (by rw [kind_pre b2 w2.ok]; exact hkw.1)]; omega
  · have hx : ∀ z ∈ (Lib.compact (sortI (dropI no l3))).reverse, Hb ns3 c z ∧ kindN ns3 z ≠ kdG g := fun z hz => b4 z (csd_mem (List.mem_reverse.1 hz))
    have hxl : (Lib.compact (sortI (dropI no l3))).reverse.length ≤ S := by
      rw [List.length_reverse]
      have := csd_len no l3
      omega
    generalize (Lib.compact (sortI (dropI no l3))).reverse = xs at hx hxl
    cases xs with
    | nil =>
      refine ⟨(w1.pre w3 b1 b2).mono hc, b1, by show ns3.length ≤ _; omega, ?_⟩
      show lw ns3 (kdG g) no ≤ _
      rw [lw_leaf _ (by rw [kind_pre b2 w1.ok]; exact hkw.2)]; omega
    | cons y xs =>
      simp only [List.length_cons] at hxl
      have hy := hx y (by simp)
      have hly : lw ns3 (kdG g) y = 1 := lw_leaf _ hy.2
      obtain ⟨c1, c2, c3, c4⟩ := chain_bd hkd hc xs ns3 y b1 (fun z hz => hx z (by simp [hz])) hy.1 (by omega) (by omega)
      refine ⟨c1, c2, by show (chainN (kdG g) ns3 xs y).1.length ≤ _; omega, ?_⟩
      show lw (chainN (kdG g) ns3 xs y).1 (kdG g) (chainN (kdG g) ns3 xs y).2 ≤ _
      omega
/-- Cat. -/
theorem catF_bd {c : Nat} (hc : 1 ≤ c) : ∀ (k : Nat) {ns : List Nd} {x y : Int}, OkA ns → Hb ns c x → Hb ns c y → x.toNat < k → lw ns 3 x + lw ns 3 y ≤ c → ns.length + lw ns 3 x ≤ 20000 →
    Hb (catF k ns x y).1 c (catF k ns x y).2 ∧ OkA (catF k ns x y).1 ∧ (catF k ns x y).1.length ≤ ns.length + lw ns 3 x ∧ lw (catF k ns x y).1 3 (catF k ns x y).2 ≤ lw ns 3 x + lw ns 3 y ∧ (kindN ns y ≠ 1 → kindN (catF k ns x y).1 (catF k ns x y).2 ≠ 1 ∧ lw (catF k ns x y).1 4 (catF k ns x y).2 ≤ max 1 (lw ns 4 y)) ∧ (kindN ns y = 1 → lw (catF k ns x y).1 4 (catF k ns x y).2 ≤ max 1 (lw ns 4 x)) := by
  intro k
  induction k with
  | zero => intro ns x y _ _ _ h; omega
  | succ k ih =>
    intro ns x y hO hx hy hk hl hr
    rw [catF, if_pos ⟨hx.ok, hy.ok⟩]
    obtain ⟨nx, x1, x2⟩ := hx.ok.at
    obtain ⟨ny, y1, y2⟩ := hy.ok.at
    by_cases k0 : kindN ns x = 0 ∨ kindN ns y = 0
    · rw [if_pos k0]
      have hn : ∃ z n, At ns z n ∧ n.k = 0 := by
        rcases k0 with k0 | k0
        · exact ⟨x, nx, x1, by rw [← x1.kind]; exact k0⟩
        · exact ⟨y, ny, y1, by rw [← y1.kind]; exact k0⟩
      obtain ⟨z, n, h1, h2⟩ := hn
      have hr := h1.right hO
      unfold rightN at hr
      rw [if_pos (.inl h2)] at hr
      have e := of_decide_eq_true hr
      rw [h2] at e
      have e2 : noneN ns = (ns, z) := pN_have hO (by show At ns z (ndK 0); unfold ndK; rw [e]; exact h1)
      rw [e2]
      exact ⟨hb_leaf hc h1 (by unfold k345; omega) (by omega), hO, by dsimp only; omega, by dsimp only; rw [lw_leaf _ (by rw [h1.kind]; omega)]; have := lw_pos hO (.inl rfl) x hx.ok; omega, fun _ => by dsimp only; rw [h1.kind, lw_leaf _ (by rw [h1.kind]; omega)]; omega, fun _ => by dsimp only; rw [lw_leaf _ (by rw [h1.kind]; omega)]; omega⟩
    rw [if_neg k0]
    by_cases k1 : kindN ns x = 1
    · rw [if_pos k1]
      exact ⟨hy, hO, by dsimp only; omega, by dsimp only; omega, fun h => ⟨h, by dsimp only; omega⟩, fun h => by dsimp only; rw [lw_leaf _ (by omega)]; omega⟩
    rw [if_neg k1]
    by_cases y1' : kindN ns y = 1
    · rw [if_pos y1']
      exact ⟨hx, hO, by dsimp only; omega, by dsimp only; omega, fun h => absurd y1' h, fun _ => by dsimp only; omega⟩
    rw [if_neg y1']
    by_cases k3 : kindN ns x = 3
    · rw [if_pos k3]
      have hpt := parts_lt hO hx.ok (.inl k3)
      have hxa := hx.a (.inl k3)
      have hxb := hx.b (.inl k3)
      have hlx := lw_node hO (.inl rfl) hx.ok k3
      have h0 := hx.ok.1
      have hb0 := hpt.2.1.1
      have ha0 := hpt.1.1.1
      have hpa := lw_pos hO (kd := 3) (.inl rfl) _ hpt.1.1
      obtain ⟨i1, i2, i3, i4, i5⟩ := ih hO hxb hy (by omega) (by omega) (by omega)
      have hp1 := catF_pre k ns (nodeN ns x).1.b y
      generalize catF k ns (nodeN ns x).1.b y = r at i1 i2 i3 i4 i5 hp1 ⊢
      have hla : lw r.1 3 (nodeN ns x).1.a = lw ns 3 (nodeN ns x).1.a := lw_pre hO i2 hp1 (.inl rfl) _ hpt.1.1
      obtain ⟨j1, j2, j3, j4, j5⟩ := ih i2 (hxa.pre hO i2 hp1) i1 (by omega) (by omega) (by omega)
      refine ⟨j1, j2, by omega, by omega, fun h => ?_, fun h => absurd h y1'⟩
      obtain ⟨i6, i7⟩ := i5.1 h
      obtain ⟨j6, j7⟩ := j5.1 i6
      exact ⟨j6, by omega⟩
    · rw [if_neg k3]
      have hl1 : lw ns 3 x = 1 := lw_leaf _ k3
      obtain ⟨h1, h2, h3, h4⟩ := put_bd (x := ndP 3 x y) hO (inN_P (by omega) (okId_i64 hO.len hx.ok) (okId_i64 hO.len hy.ok)) (right_P (.inl rfl) hx.ok hy.ok) (by omega)
      generalize pN ns (ndP 3 x y) = q at h1 h2 h3 h4 ⊢
      have e1 : lw q.1 3 x = lw ns 3 x := lw_pre hO h2 h3 (.inl rfl) _ hx.ok
      have e2 : lw q.1 3 y = lw ns 3 y := lw_pre hO h2 h3 (.inl rfl) _ hy.ok
      refine ⟨hb_two h2 hc h1 (.inl rfl) (hx.pre hO h2 h3) (hy.pre hO h2 h3) (by show lw q.1 3 x + lw q.1 3 y ≤ c; omega), h2, by omega, ?_, ?_⟩
      · rw [lw_node h2 (.inl rfl) h1.ok h1.kind, h1.node]
        show lw q.1 3 x + lw q.1 3 y ≤ _
        omega
      · refine ⟨fun _ => ⟨by rw [h1.kind]; show (3 : Int) ≠ 1; omega, ?_⟩, fun h => absurd h y1'⟩
        rw [lw_leaf _ (by rw [h1.kind]; show (3 : Int) ≠ 4; omega)]; omega
theorem cat_bd {c : Nat} (hc : 1 ≤ c) {ns : List Nd} {x y : Int} (hO : OkA ns) (hx : Hb ns c x) (hy : Hb ns c y) (hl : lw ns 3 x + lw ns 3 y ≤ c) (hr : ns.length + lw ns 3 x ≤ 20000) :
    Hb (catN ns x y).1 c (catN ns x y).2 ∧ OkA (catN ns x y).1 ∧ (catN ns x y).1.length ≤ ns.length + lw ns 3 x ∧ lw (catN ns x y).1 3 (catN ns x y).2 ≤ lw ns 3 x + lw ns 3 y ∧ lw (catN ns x y).1 4 (catN ns x y).2 ≤ max 1 (max (lw ns 4 x) (lw ns 4 y)) := by
  obtain ⟨h1, h2, h3, h4, h5, h6⟩ := catF_bd hc (x.toNat + 1) hO hx hy (Nat.lt_succ_self _) hl hr
  refine ⟨h1, h2, h3, h4, ?_⟩
  show lw (catF (x.toNat + 1) ns x y).1 4 (catF (x.toNat + 1) ns x y).2 ≤ _
  by_cases hk : kindN ns y = 1
  · have := h6 hk; omega
  · have := (h5 hk).2; omega
theorem not_bd {c : Nat} (hc : 1 ≤ c) {ns : List Nd} {x : Int} (hO : OkA ns) (hx : Hb ns c x) (hr : ns.length < 20000) : Hb (notN ns x).1 c (notN ns x).2 ∧ OkA (notN ns x).1 ∧ (notN ns x).1.length ≤ ns.length + 1 := by
  unfold notN
  rw [if_pos hx.ok]
  split
  · rename_i hk
    exact ⟨hx.one (.inl hk), hO, by dsimp only; omega⟩
  · obtain ⟨h1, h2, h3, h4⟩ := put_bd (x := ndP 6 x 0) hO (inN_P (by omega) (okId_i64 hO.len hx.ok) (by simp [i64])) (right_1 (.inl rfl) hx.ok) hr
    exact ⟨hb_one hc h1 (.inl rfl) (hx.pre hO h2 h3), h2, h4⟩
theorem star_bd {c : Nat} (hc : 1 ≤ c) {ns : List Nd} {x : Int} (hO : OkA ns) (hx : Hb ns c x) (hr : ns.length < 20000) : Hb (starN ns x).1 c (starN ns x).2 ∧ OkA (starN ns x).1 ∧ (starN ns x).1.length ≤ ns.length + 1 ∧ lw (starN ns x).1 3 (starN ns x).2 = 1 := by
  unfold starN
  rw [if_pos hx.ok]
  split
  · obtain ⟨h1, h2, h3, h4⟩ := empty_bd hO hr
    exact ⟨hb_leaf hc h1 (by unfold k345 ndK; simp) (by unfold ndK; simp), h2, h4, lw_leaf _ (by rw [h1.kind]; show (1 : Int) ≠ 3; omega)⟩
  split
  · rename_i hk
    exact ⟨hx, hO, by dsimp only; omega, lw_leaf _ (by dsimp only; omega)⟩
  · obtain ⟨h1, h2, h3, h4⟩ := put_bd (x := ndP 7 x 0) hO (inN_P (by omega) (okId_i64 hO.len hx.ok) (by simp [i64])) (right_1 (.inr rfl) hx.ok) hr
    exact ⟨hb_one hc h1 (.inr rfl) (hx.pre hO h2 h3), h2, h4, lw_leaf _ (by rw [h1.kind]; show (7 : Int) ≠ 3; omega)⟩
theorem hb_empty {ns : List Nd} {c : Nat} (hc : 1 ≤ c) {z : Int} (h : At ns z (ndK 1)) : Hb ns c z := hb_leaf hc h (by unfold k345 ndK; simp) (by unfold ndK; simp)
/-- Cats, the last one first. -/
theorem cats_bd {c : Nat} (hc : 1 ≤ c) : ∀ (l : List Int) {ns : List Nd} {out : Int}, OkA ns → (∀ z ∈ l, Hb ns c z) → Hb ns c out → (l.map (lw ns 3)).sum + lw ns 3 out ≤ c → ns.length + (l.map (lw ns 3)).sum ≤ 20000 →
    Hb (catsN ns l out).1 c (catsN ns l out).2 ∧ OkA (catsN ns l out).1 ∧ (catsN ns l out).1.length ≤ ns.length + (l.map (lw ns 3)).sum
  | [], ns, out, hO, _, ho, _, _ => ⟨ho, hO, Nat.le_add_right _ _⟩
  | z :: l, ns, out, hO, hl, ho, hs, hr => by
    simp only [List.map_cons, List.sum_cons] at hs hr ⊢
    have hz := hl z (by simp)
    obtain ⟨h1, h2, h3, h4, -⟩ := cat_bd hc hO hz ho (by omega) (by omega)
    have hp : ns <+: (catN ns z out).1 := catF_pre _ _ _ _
    have e : (l.map (lw (catN ns z out).1 3)) = l.map (lw ns 3) := List.map_congr_left fun y hy => lw_pre hO h2 hp (.inl rfl) y (hl y (by simp [hy])).ok
    have ih := cats_bd hc l h2 (fun y hy => (hl y (by simp [hy])).pre hO h2 hp) h1 (by rw [e]; omega) (by rw [e]; omega)
    rw [e] at ih
    rw [catsN]
    exact ⟨ih.1, ih.2.1, by omega⟩
theorem opt_bd {x : Int} {s : Nat} (hs : 1 ≤ s) : ∀ (n k : Nat) {ns : List Nd} {out : Int}, OkA ns → Hb ns s x → Hb ns (1 + k * s) out → lw ns 4 out ≤ s + k → n + k ≤ 20 → ns.length + n * (2 * s + 25) ≤ 20000 →
    Hb (optN x n ns out).1 (1 + (k + n) * s) (optN x n ns out).2 ∧ OkA (optN x n ns out).1 ∧ (optN x n ns out).1.length ≤ ns.length + n * (2 * s + 25)
  | 0, k, ns, out, hO, _, ho, _, _, _ => ⟨ho, hO, by rw [Nat.zero_mul]; exact Nat.le_refl _⟩
  | n + 1, k, ns, out, hO, hx, ho, h4, hk, hr => by
    rw [Nat.succ_mul] at hr
    rw [optN]
    obtain ⟨e1, e2, e3, e4⟩ := empty_bd hO (by omega)
    have hlx : lw ns 3 x ≤ s := hx.lw (.inl rfl)
    have hlo : lw ns 3 out ≤ 1 + k * s := ho.lw (.inl rfl)
    have hcs : s + (1 + k * s) = 1 + (k + 1) * s := by rw [Nat.succ_mul]; omega
    have hx1 : lw (emptyN ns).1 3 x = lw ns 3 x := lw_pre hO e2 e3 (.inl rfl) _ hx.ok
    have hx4 : lw (emptyN ns).1 4 x = lw ns 4 x := lw_pre hO e2 e3 (.inr (.inl rfl)) _ hx.ok
    have ho1 : lw (emptyN ns).1 3 out = lw ns 3 out := lw_pre hO e2 e3 (.inl rfl) _ ho.ok
    have ho4 : lw (emptyN ns).1 4 out = lw ns 4 out := lw_pre hO e2 e3 (.inr (.inl rfl)) _ ho.ok
    have hlx4 : lw ns 4 x ≤ s := hx.lw (.inr (.inl rfl))
    obtain ⟨c1, c2, c3, c4, c5⟩ := cat_bd (c := 1 + (k + 1) * s) (by omega) e2 ((hx.pre hO e2 e3).mono (by omega)) ((ho.pre hO e2 e3).mono (by omega)) (by omega) (by omega)
    have hpc : (emptyN ns).1 <+: (catN (emptyN ns).1 x out).1 := catF_pre _ _ _ _
    have he2 := e1.pre hpc
    have hE4 : lw (catN (emptyN ns).1 x out).1 4 (emptyN ns).2 = 1 := lw_leaf _ (by rw [he2.kind]; show (1 : Int) ≠ 4; omega)
    have hk1 : (k + 1) * s = k * s + s := Nat.succ_mul k s
    have hks : k ≤ k * s := Nat.le_mul_of_pos_right k hs
    obtain ⟨o1, o2, o3, o4⟩ := gput_bd false c2 (l := [(emptyN ns).2, (catN (emptyN ns).1 x out).2]) (c := 1 + (k + 1) * s) (S := s + k + 1) (by omega) (by omega) (by
      intro z hz
      simp at hz
      rcases hz with rfl | rfl
      · exact hb_empty (by omega) he2
      · exact c1) (by
      simp only [List.map_cons, List.map_nil, List.sum_cons, List.sum_nil]
      show lw _ 4 _ + (lw _ 4 _ + 0) ≤ _
      omega) (by omega)
    have hpo : (catN (emptyN ns).1 x out).1 <+: (orN (catN (emptyN ns).1 x out).1 [(emptyN ns).2, (catN (emptyN ns).1 x out).2]).1 := gput_pre _ _ _
    change Hb (orN (catN (emptyN ns).1 x out).1 [(emptyN ns).2, (catN (emptyN ns).1 x out).2]).1 _ (orN (catN (emptyN ns).1 x out).1 [(emptyN ns).2, (catN (emptyN ns).1 x out).2]).2 at o1
    change OkA (orN (catN (emptyN ns).1 x out).1 [(emptyN ns).2, (catN (emptyN ns).1 x out).2]).1 at o2
    change (orN (catN (emptyN ns).1 x out).1 [(emptyN ns).2, (catN (emptyN ns).1 x out).2]).1.length ≤ _ at o3
    change lw (orN (catN (emptyN ns).1 x out).1 [(emptyN ns).2, (catN (emptyN ns).1 x out).2]).1 4 (orN (catN (emptyN ns).1 x out).1 [(emptyN ns).2, (catN (emptyN ns).1 x out).2]).2 ≤ _ at o4
    have ih := opt_bd hs n (k + 1) o2 (hx.pre hO o2 (e3.trans (hpc.trans hpo))) o1 (by omega) (by omega) (by omega)
    rw [show k + (n + 1) = k + 1 + n by omega, Nat.succ_mul]
    exact ⟨ih.1, ih.2.1, by omega⟩
theorem rep_bd {x : Int} {s : Nat} (hs : 1 ≤ s) : ∀ (n L : Nat) {ns : List Nd} {out : Int}, OkA ns → 1 ≤ L → Hb ns s x → Hb ns (max s L) out → lw ns 3 out ≤ L → ns.length + n * s ≤ 20000 →
    Hb (repN x n ns out).1 (max s (L + n * s)) (repN x n ns out).2 ∧ OkA (repN x n ns out).1 ∧ (repN x n ns out).1.length ≤ ns.length + n * s
  | 0, L, ns, out, hO, _, _, ho, _, _ => by rw [Nat.zero_mul, Nat.add_zero, Nat.add_zero]; exact ⟨ho, hO, Nat.le_refl _⟩
  | n + 1, L, ns, out, hO, hL, hx, ho, h3, hr => by
    rw [Nat.succ_mul] at hr
    rw [repN]
    have hlx : lw ns 3 x ≤ s := hx.lw (.inl rfl)
    obtain ⟨c1, c2, c3, c4, -⟩ := cat_bd (c := max s (L + s)) (by omega) hO (hx.mono (by omega)) (ho.mono (by omega)) (by omega) (by omega)
    have hpc : ns <+: (catN ns x out).1 := catF_pre _ _ _ _
    have ih := rep_bd hs n (L + s) c2 (by omega) (hx.pre hO c2 hpc) c1 (by omega) (by omega)
    rw [Nat.succ_mul, show L + (n * s + s) = L + s + n * s by omega]
    exact ⟨ih.1, ih.2.1, by omega⟩
/-! ### Build -/
mutual
def dpR : Re → Nat
  | .mk _ _ _ _ _ rs _ _ _ => 1 + dpL rs
def dpL : List Re → Nat
  | [] => 0
  | r :: l => max (dpR r) (dpL l)
end
theorem dpL_le : ∀ (l : List Re) {b : Nat}, (∀ p ∈ l, dpR p ≤ b) → dpL l ≤ b
  | [], _, _ => Nat.zero_le _
  | r :: l, b, h => by rw [dpL]; exact Nat.max_le.2 ⟨h r (by simp), dpL_le l fun p hp => h p (by simp [hp])⟩
theorem foldl_max_ge : ∀ (l : List Nat) (a x : Nat), x ∈ l ∨ x ≤ a → x ≤ l.foldl max a
  | [], a, x, h => h.elim (fun h => absurd h (by simp)) id
  | y :: l, a, x, h => by
    rw [List.foldl_cons]
    refine foldl_max_ge l _ x ?_
    rcases h with h | h
    · rcases List.mem_cons.1 h with rfl | h
      · exact .inr (Nat.le_max_right _ _)
      · exact .inl h
    · exact .inr (Nat.le_trans h (Nat.le_max_left _ _))
theorem dp_le : ∀ (k : Nat) (r : Re), deepR k r ≤ k → dpR r ≤ deepR k r
  | 0, r, h => by simp [deepR] at h
  | k + 1, .mk a b c d e rs f g n, h => by
    rw [deepR] at h ⊢
    rw [dpR]
    have hd : dpL rs ≤ (rs.map (deepR k)).foldl max 0 := dpL_le rs fun p hp => by
      have hm : deepR k p ≤ (rs.map (deepR k)).foldl max 0 := foldl_max_ge _ 0 _ (.inl (List.mem_map.2 ⟨p, hp, rfl⟩))
      have hk : deepR k p ≤ k := by
        have h' : (rs.map (deepR k)).foldl max 0 + 1 ≤ k + 1 := h
        omega
      exact Nat.le_trans (dp_le k p hk) hm
    show 1 + dpL rs ≤ (rs.map (deepR k)).foldl max 0 + 1
    omega
/-- At most so many nodes. -/
def gB (s d : Nat) : Nat := 2 * (s * d) + 26 * s
mutual
def gR : Re → Nat
  | .mk k s0 s1 s2 s3 rs lo hi neg => gB (sizeR (.mk k s0 s1 s2 s3 rs lo hi neg)) (1 + dpL rs)
def gL : List Re → Nat
  | [] => 0
  | r :: l => gR r + gL l
end
theorem gR_eq (r : Re) : gR r = gB (sizeR r) (dpR r) := by cases r; rw [gR, dpR]
theorem gL_le : ∀ (l : List Re) {d : Nat}, dpL l ≤ d → gL l ≤ gB (sizeL l) d
  | [], d, _ => Nat.zero_le _
  | r :: l, d, h => by
    rw [dpL] at h
    have ih := gL_le l (d := d) (by omega)
    rw [gL, gR_eq, sizeL]
    unfold gB at *
    have h1 : sizeR r * dpR r ≤ sizeR r * d := Nat.mul_le_mul_left _ (by omega)
    have h2 : (sizeR r + sizeL l) * d = sizeR r * d + sizeL l * d := Nat.add_mul _ _ _
    omega
theorem sizeR_pos (r : Re) : 1 ≤ sizeR r := by
  obtain ⟨k, s0, s1, s2, s3, rs, lo, hi, neg⟩ := r
  simp only [sizeR]
  have := timesR_pos k lo hi
  unfold capR
  split
  · omega
  · have : 0 ≤ (sizeL rs : Int) * timesR k lo hi := Int.mul_nonneg (by omega) (by omega)
    omega
theorem size_parts {k s0 s1 s2 s3 lo hi : Int} {neg : Bool} {rs : List Re} (h : sizeR (.mk k s0 s1 s2 s3 rs lo hi neg) ≤ 1000) : sizeR (.mk k s0 s1 s2 s3 rs lo hi neg) = sizeL rs * (timesR k lo hi).toNat + 1 ∧ sizeL rs + 1 ≤ sizeR (.mk k s0 s1 s2 s3 rs lo hi neg) := by
  have ht := timesR_pos k lo hi
  have hc : sizeR (.mk k s0 s1 s2 s3 rs lo hi neg) = capR k lo hi (sizeL rs) := by simp only [sizeR]
  rw [hc] at h ⊢
  unfold capR at h ⊢
  by_cases h1 : 1000 < sizeL rs
  · rw [if_pos h1] at h; omega
  · rw [if_neg h1] at h ⊢
    obtain ⟨t, e⟩ : ∃ t : Nat, timesR k lo hi = t := ⟨(timesR k lo hi).toNat, by omega⟩
    rw [e] at h ht ⊢
    have hm : ((sizeL rs : Nat) : Int) * (t : Int) = ((sizeL rs * t : Nat) : Int) := by push_cast; rfl
    rw [hm] at h ⊢
    have h2 : sizeL rs ≤ sizeL rs * t := Nat.le_mul_of_pos_right _ (by omega)
    rw [Int.toNat_natCast]
    omega
theorem looked_bd {ns : List Nd} (hO : OkA ns) (e k : Int) (neg : Bool) (hr : ns.length < 20000) : Hb (lookedN ns e k neg).1.1 1 (lookedN ns e k neg).2 ∧ OkA (lookedN ns e k neg).1.1 ∧ (lookedN ns e k neg).1.1.length ≤ ns.length + 1 := by
  unfold lookedN
  split
  · obtain ⟨h1, h2, h3, h4⟩ := none_bd hO hr
    exact ⟨hb_leaf (Nat.le_refl 1) h1 (by unfold k345 ndK; simp) (by unfold ndK; simp), h2, h4⟩
  · rename_i hk
    have hri : rightN ⟨8, 0, 0, 0, 0, k, 0, neg⟩ ns.length = true := by
      unfold rightN
      rw [if_neg (by simp), if_neg (by simp), if_neg (by simp), if_neg (by simp), if_pos rfl]
      simp only [Bool.and_eq_true, decide_eq_true_eq]
      exact ⟨by omega, trivial⟩
    obtain ⟨h1, h2, h3, h4⟩ := put_bd (x := ⟨8, 0, 0, 0, 0, k, 0, neg⟩) hO ⟨by simp [i64], by simp [u64], by simp [u64], by simp [u64], by simp [u64], by unfold i64; simp only; omega, by simp [i64]⟩ hri hr
    exact ⟨hb_leaf (Nat.le_refl 1) h1 (by unfold k345; simp) (by simp), h2, h4⟩
theorem times_bd {ns : List Nd} {x lo hi : Int} {s t : Nat} (hs : 1 ≤ s) (hO : OkA ns) (hx : Hb ns s x) (h7 : 0 ≤ lo ∧ lo ≤ 20 ∧ (hi = -1 ∨ (lo ≤ hi ∧ 1 ≤ hi ∧ hi ≤ 20))) (ht : lo ≤ t ∧ hi ≤ t ∧ 1 ≤ t) (hr : ns.length + 2 * (s * t) + 25 * t + 2 ≤ 20000) :
    Hb (timesN lo hi ns x).1 (s * t + 1) (timesN lo hi ns x).2 ∧ OkA (timesN lo hi ns x).1 ∧ (timesN lo hi ns x).1.length ≤ ns.length + 2 * (s * t) + 25 * t + 2 := by
  have hst : s ≤ s * t := Nat.le_mul_of_pos_right _ (by omega)
  obtain ⟨e1, e2, e3, e4⟩ := empty_bd hO (by omega)
  have hxe := hx.pre hO e2 e3
  unfold timesN
  by_cases hn : hi < 0
  · simp only [hn, if_true]
    obtain ⟨s1, s2, s3, s4⟩ := star_bd hs e2 hxe (by omega)
    rw [show (hi - lo).toNat = 0 by omega]
    have hps := starN_pre (emptyN ns).1 x
    have hlt : lo.toNat * s ≤ s * t := by rw [Nat.mul_comm]; exact Nat.mul_le_mul_left _ (by omega)
    show Hb (repN x lo.toNat (starN (emptyN ns).1 x).1 (starN (emptyN ns).1 x).2).1 _ (repN x lo.toNat (starN (emptyN ns).1 x).1 (starN (emptyN ns).1 x).2).2 ∧ OkA (repN x lo.toNat (starN (emptyN ns).1 x).1 (starN (emptyN ns).1 x).2).1 ∧ (repN x lo.toNat (starN (emptyN ns).1 x).1 (starN (emptyN ns).1 x).2).1.length ≤ _
    obtain ⟨r1, r2, r3⟩ := rep_bd hs lo.toNat 1 s2 (Nat.le_refl 1) (hxe.pre e2 s2 hps) (s1.mono (by omega)) (by omega) (by omega)
    exact ⟨r1.mono (by omega), r2, by omega⟩
  · simp only [hn, if_false]
    obtain ⟨n, hn'⟩ : ∃ n : Nat, (hi - lo).toNat = n := ⟨_, rfl⟩
    obtain ⟨l, hl⟩ : ∃ l : Nat, lo.toNat = l := ⟨_, rfl⟩
    rw [hn', hl]
    have hnl : n + l ≤ t := by omega
    have hm : n * s + l * s ≤ s * t := by rw [← Nat.add_mul, Nat.mul_comm]; exact Nat.mul_le_mul_left _ hnl
    have hn20 : n ≤ 20 := by omega
    have hexp : n * (2 * s + 25) = 2 * (n * s) + 25 * n := by rw [Nat.mul_add, Nat.mul_left_comm, Nat.mul_comm n 25]
    have hE4 : lw (emptyN ns).1 4 (emptyN ns).2 = 1 := lw_leaf _ (by rw [e1.kind]; show (1 : Int) ≠ 4; omega)
    obtain ⟨o1, o2, o3⟩ := opt_bd hs n 0 e2 hxe ((hb_empty (Nat.le_refl 1) e1).mono (by omega)) (by omega) (by omega) (by omega)
    rw [Nat.zero_add] at o1
    have hpo := opt_pre x n (emptyN ns).1 (emptyN ns).2
    obtain ⟨r1, r2, r3⟩ := rep_bd hs l (1 + n * s) o2 (by omega) (hxe.pre e2 o2 hpo) (o1.mono (by omega)) (o1.lw (.inl rfl)) (by omega)
    exact ⟨r1.mono (by omega), r2, by omega⟩
/-- Some nodes, each with its size. -/
def HbL (ns : List Nd) : List Int → List Re → Prop
  | [], [] => True
  | z :: l, r :: rs => Hb ns (sizeR r) z ∧ HbL ns l rs
  | _, _ => False
theorem HbL.pre {ns ns' : List Nd} (hO : OkA ns) (hO' : OkA ns') (hp : ns <+: ns') : ∀ {l : List Int} {rs : List Re}, HbL ns l rs → HbL ns' l rs
  | [], [], _ => trivial
  | _ :: _, _ :: _, h => ⟨h.1.pre hO hO' hp, HbL.pre hO hO' hp h.2⟩
  | [], _ :: _, h => h.elim
  | _ :: _, [], h => h.elim
theorem HbL.all {ns : List Nd} {c : Nat} : ∀ {l : List Int} {rs : List Re}, HbL ns l rs → sizeL rs ≤ c → ∀ z ∈ l, Hb ns c z
  | [], [], _, _ => by simp
  | y :: l, r :: rs, h, hc => by
    rw [sizeL] at hc
    intro z hz
    rcases List.mem_cons.1 hz with rfl | hz
    · exact h.1.mono (by omega)
    · exact HbL.all h.2 (by omega) z hz
  | [], _ :: _, h, _ => h.elim
  | _ :: _, [], h, _ => h.elim
theorem HbL.sum {ns : List Nd} {kd : Int} (hkd : k345 kd) : ∀ {l : List Int} {rs : List Re}, HbL ns l rs → (l.map (lw ns kd)).sum ≤ sizeL rs
  | [], [], _ => Nat.le_refl _
  | y :: l, r :: rs, h => by
    have := HbL.sum hkd h.2
    have := h.1.lw hkd
    simp only [List.map_cons, List.sum_cons, sizeL]
    omega
  | [], _ :: _, h => h.elim
  | _ :: _, [], h => h.elim
theorem gB_step {s s' d d' : Nat} (h1 : s' + 1 ≤ s) (h2 : d = 1 + d') : gB s' d' + 2 * s + 26 ≤ gB s d := by
  subst h2
  unfold gB
  have e1 : s * (1 + d') = s + s * d' := by rw [Nat.mul_add, Nat.mul_one]
  have e2 : s' * d' ≤ s * d' := Nat.mul_le_mul_right _ (by omega)
  omega
mutual
theorem bR_bd (lk : Re → Int) : ∀ (r : Re), InRe r → allR r = true → sizeR r ≤ 1000 → ∀ (ns : List Nd) (e : Int), OkA ns → ns.length + gR r ≤ 19990 →
    Hb (bR lk r ns e).1.1 (sizeR r) (bR lk r ns e).2 ∧ OkA (bR lk r ns e).1.1 ∧ (bR lk r ns e).1.1.length ≤ ns.length + gR r
  | .mk k s0 s1 s2 s3 rs lo hi neg, hr, hall, hsz, ns, e, hO, hlen => by
    have hs : InS ⟨s0, s1, s2, s3⟩ := by cases hr; assumption
    have hp : ∀ p ∈ rs, InRe p := by cases hr; assumption
    simp only [allR, Bool.and_eq_true, decide_eq_true_eq] at hall
    obtain ⟨hOw, hall⟩ := hall
    rw [allL_eq, List.all_eq_true] at hall
    obtain ⟨hse, hsl⟩ := size_parts hsz
    have hs1 := sizeR_pos (.mk k s0 s1 s2 s3 rs lo hi neg)
    have hgl := gL_le rs (Nat.le_refl _)
    have hgb := gB_step (d := 1 + dpL rs) (d' := dpL rs) hsl rfl
    have hL := bL_bd lk rs hp hall (by omega)
    obtain ⟨⟨hk0, hk11⟩, hparts, -, hneg, h7, -⟩ := hOw
    rw [gR] at hlen ⊢
    generalize hSe : sizeR (.mk k s0 s1 s2 s3 rs lo hi neg) = S at *
    rw [bR]
    split
    · obtain ⟨h1, h2, h3, h4⟩ := none_bd hO (by omega)
      exact ⟨hb_leaf hs1 h1 (by unfold k345 ndK; simp) (by unfold ndK; simp), h2, by dsimp only; omega⟩
    split
    · obtain ⟨h1, h2, h3, h4⟩ := empty_bd hO (by omega)
      exact ⟨hb_empty hs1 h1, h2, by dsimp only; omega⟩
    split
    · have hb : ∃ x, At (bytesN ns ⟨s0, s1, s2, s3⟩).1 (bytesN ns ⟨s0, s1, s2, s3⟩).2 x ∧ (x.k = 0 ∨ x.k = 2) ∧ OkA (bytesN ns ⟨s0, s1, s2, s3⟩).1 ∧ (bytesN ns ⟨s0, s1, s2, s3⟩).1.length ≤ ns.length + 1 := by
        unfold bytesN
        split
        · obtain ⟨h1, h2, h3, h4⟩ := none_bd hO (by omega)
          exact ⟨_, h1, .inl rfl, h2, h4⟩
        · obtain ⟨h1, h2, h3, h4⟩ := put_bd hO (inN_B hs) (right_B _ _) (by omega)
          exact ⟨_, h1, .inr rfl, h2, h4⟩
      obtain ⟨x, h1, h2, h3, h4⟩ := hb
      exact ⟨hb_leaf hs1 h1 (by unfold k345; omega) (by omega), h3, by dsimp only; omega⟩
    split
    · obtain ⟨e1, e2, e3, e4⟩ := empty_bd hO (by omega)
      obtain ⟨l1, l2, l3⟩ := hL (emptyN ns).1 e e2 (by omega)
      have hpl := bL_pre lk rs (emptyN ns).1 e
      generalize bL lk rs (emptyN ns).1 e = q at *
      dsimp only
      have hsum : (q.2.reverse.map (lw q.1.1 3)).sum ≤ sizeL rs := by
        rw [List.map_reverse, List.sum_reverse]
        exact l1.sum (.inl rfl)
      have he := e1.pre hpl
      have hlo : lw q.1.1 3 (emptyN ns).2 = 1 := lw_leaf _ (by rw [he.kind]; show (1 : Int) ≠ 3; omega)
      obtain ⟨c1, c2, c3⟩ := cats_bd hs1 q.2.reverse l2 (fun z hz => l1.all (c := S) (by omega) z (List.mem_reverse.1 hz)) (hb_empty hs1 he) (by omega) (by omega)
      exact ⟨c1, c2, by omega⟩
    split
    · obtain ⟨l1, l2, l3⟩ := hL ns e hO (by omega)
      generalize bL lk rs ns e = q at *
      dsimp only
      obtain ⟨c1, c2, c3, -⟩ := gput_bd false l2 hs1 (S := sizeL rs) (by omega) (l1.all (by omega)) (l1.sum (.inr (.inl rfl))) (by omega)
      exact ⟨c1, c2, Nat.le_trans c3 (by omega)⟩
    split
    · obtain ⟨l1, l2, l3⟩ := hL ns e hO (by omega)
      generalize bL lk rs ns e = q at *
      dsimp only
      obtain ⟨c1, c2, c3, -⟩ := gput_bd true l2 hs1 (S := sizeL rs) (by omega) (l1.all (by omega)) (l1.sum (.inr (.inr rfl))) (by omega)
      exact ⟨c1, c2, Nat.le_trans c3 (by omega)⟩
    have hone : k = 6 ∨ k = 7 → ∃ p, rs = [p] := fun h => by
      have e : partsK k = 1 := by unfold partsK; rw [if_neg (by omega), if_pos (by omega)]
      rw [e] at hparts
      have := hparts (by omega)
      match rs, this with
      | [p], _ => exact ⟨p, rfl⟩
      | [], h => simp at h
      | _ :: _ :: _, h => simp at h; omega
    split
    · rename_i k6
      obtain ⟨p, rfl⟩ := hone (.inl k6)
      obtain ⟨l1, l2, l3⟩ := hL ns e hO (by omega)
      have hzl := bL_len lk [p] ns e
      generalize bL lk [p] ns e = q at *
      obtain ⟨q1, q2⟩ := q
      match q2, hzl with
      | [z], _ =>
        have l1' := l1.1
        dsimp only at l1' l2 l3 ⊢
        obtain ⟨c1, c2, c3⟩ := not_bd hs1 l2 (l1'.mono (by rw [sizeL] at hsl; omega)) (by omega)
        exact ⟨c1, c2, Nat.le_trans c3 (by omega)⟩
    split
    · rename_i k7
      obtain ⟨p, rfl⟩ := hone (.inr k7)
      obtain ⟨l1, l2, l3⟩ := hL ns e hO (by omega)
      have hzl := bL_len lk [p] ns e
      generalize bL lk [p] ns e = q at *
      obtain ⟨q1, q2⟩ := q
      match q2, hzl with
      | [z], _ =>
        have h7 := h7 k7
        have hsp : sizeL [p] = sizeR p := by simp [sizeL]
        have hp1 := sizeR_pos p
        have ht : (timesR k lo hi) = max (min (max lo hi) 1001) 1 := by unfold timesR; rw [if_pos k7]
        obtain ⟨t, et⟩ : ∃ t : Nat, (timesR k lo hi).toNat = t := ⟨_, rfl⟩
        rw [et, hsp] at hse
        have hgx : gB (sizeL [p]) (dpL [p]) + 2 * (sizeR p * t) + 25 * t + 2 ≤ gB S (1 + dpL [p]) := by
          rw [hsp, hse]
          unfold gB
          have e1 : (sizeR p * t + 1) * (1 + dpL [p]) = (sizeR p * t + 1) + (sizeR p * t + 1) * dpL [p] := by rw [Nat.mul_add, Nat.mul_one]
          have e2 : sizeR p * dpL [p] ≤ (sizeR p * t + 1) * dpL [p] := Nat.mul_le_mul_right _ (by
            have : sizeR p ≤ sizeR p * t := Nat.le_mul_of_pos_right _ (by omega)
            omega)
          have e3 : sizeR p + t ≤ sizeR p * t + 1 := by
            obtain ⟨a, ha⟩ : ∃ a, sizeR p = a + 1 := ⟨sizeR p - 1, by omega⟩
            obtain ⟨b, hb⟩ : ∃ b, t = b + 1 := ⟨t - 1, by omega⟩
            rw [ha, hb, Nat.add_mul, Nat.mul_add]
            omega
          omega
        dsimp only at l2 l3
        obtain ⟨c1, c2, c3⟩ := times_bd (t := t) hp1 l2 l1.1 h7 (by omega) (by omega)
        refine ⟨?_, c2, Nat.le_trans c3 (by omega)⟩
        rw [hse]; exact c1
    · obtain ⟨h1, h2, h3⟩ := looked_bd hO e (lk (.mk k s0 s1 s2 s3 rs lo hi false)) neg (by omega)
      exact ⟨h1.mono hs1, h2, by omega⟩
theorem bL_bd (lk : Re → Int) : ∀ (l : List Re), (∀ p ∈ l, InRe p) → (∀ p ∈ l, allR p = true) → sizeL l ≤ 1000 → ∀ (ns : List Nd) (e : Int), OkA ns → ns.length + gL l ≤ 19990 →
    HbL (bL lk l ns e).1.1 (bL lk l ns e).2 l ∧ OkA (bL lk l ns e).1.1 ∧ (bL lk l ns e).1.1.length ≤ ns.length + gL l
  | [], _, _, _, ns, e, hO, _ => ⟨trivial, hO, Nat.le_add_right _ _⟩
  | r :: l, hi, ha, hsz, ns, e, hO, hlen => by
    rw [gL] at hlen ⊢
    rw [sizeL] at hsz
    obtain ⟨h1, h2, h3⟩ := bR_bd lk r (hi r (by simp)) (ha r (by simp)) (by omega) ns e hO (by omega)
    have hp := bL_pre lk l (bR lk r ns e).1.1 (bR lk r ns e).1.2
    obtain ⟨i1, i2, i3⟩ := bL_bd lk l (fun p hp => hi p (by simp [hp])) (fun p hp => ha p (by simp [hp])) (by omega) (bR lk r ns e).1.1 (bR lk r ns e).1.2 h2 (by omega)
    rw [bL]
    exact ⟨⟨h1.pre h2 i2 hp, i1⟩, i2, by dsimp only; omega⟩
end
end Go.Proofs.YtpdiljdklllmjaaGreat.ar
