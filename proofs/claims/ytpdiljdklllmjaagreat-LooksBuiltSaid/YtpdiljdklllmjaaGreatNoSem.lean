/- norm, plain law: what is put together matches what its parts do. Conditions: none. -/
import Derived.Test.YtpdiljdklllmjaaGreatNoPure
import Derived.Test.YtpdiljdklllmjaaGreatNoRel
import Derived.Test.YtpdiljdklllmjaaGreatArSpans

namespace Go.Proofs.YtpdiljdklllmjaaGreat.ar
open Go Go.Ev Go.Proofs Go.Proofs.YtpdiljdklllmjaaGreat.tabs

/-- The spans of a node. -/
def T (ws bts : List Int) (ns : List Nd) (z : Int) : Tb := tabN ws bts ns z.toNat
section
variable {ws bts : List Int}
theorem T_at {ns : List Nd} (hO : OkA ns) {z : Int} {x : Nd} (h : At ns z x) : T ws bts ns z = nodT ws bts x (tabN ws bts ns) := tabN_eq ws bts hO.right h.2
theorem T_pre {ns ns' : List Nd} (hO : OkA ns) (hO' : OkA ns') (hp : ns <+: ns') : ∀ (k : Nat) (z : Int), z.toNat < k → okId ns z → T ws bts ns' z = T ws bts ns z := by
  intro k
  induction k with
  | zero => intro z h; omega
  | succ k ih =>
    intro z h hz
    obtain ⟨x, hx, -⟩ := hz.at
    have hl := (List.getElem?_eq_some_iff.1 hx.2).1
    rw [T_at hO' (hx.pre hp), T_at hO hx]
    refine nodT_ext (hx.right hO) fun j hj => ?_
    have := ih (j : Int) (by omega) (by unfold okId; omega)
    unfold T at this
    rwa [Int.toNat_natCast] at this
theorem T_pre' {ns ns' : List Nd} (hO : OkA ns) (hO' : OkA ns') (hp : ns <+: ns') {z : Int} (hz : okId ns z) : T ws bts ns' z = T ws bts ns z := T_pre hO hO' hp _ z (Nat.lt_succ_self _) hz
theorem T_up {ns : List Nd} (hO : OkA ns) : ∀ (k : Nat) (z : Int), z.toNat < k → okId ns z → Upt (ws.length + 1) (T ws bts ns z) := by
  intro k
  induction k with
  | zero => intro z h; omega
  | succ k ih =>
    intro z h hz
    obtain ⟨x, hx, -⟩ := hz.at
    have hl := (List.getElem?_eq_some_iff.1 hx.2).1
    have hr := hx.right hO
    have hlt := right_lt hr
    have ih' : ∀ y : Int, 0 ≤ y ∧ y < z.toNat → Upt (ws.length + 1) (tabN ws bts ns y.toNat) := fun y hy => ih y (by omega) (by unfold okId; omega)
    rw [T_at hO hx]
    unfold nodT
    intro i j hi hj
    split
    · intro h; have := of_decide_eq_true h; omega
    split
    · intro h
      rw [Bool.and_eq_true] at h
      have := of_decide_eq_true h.1; omega
    split
    · exact upt_then _ _ _ i j hi hj
    split
    · intro h
      rw [Bool.or_eq_true] at h
      have h1 := hlt.1 (by omega)
      exact h.elim (ih' _ h1.1 i j hi hj) (ih' _ h1.2 i j hi hj)
    split
    · intro h
      rw [Bool.and_eq_true] at h
      have h1 := hlt.1 (by omega)
      exact ih' _ h1.1 i j hi hj h.1
    split
    · intro h
      rw [Bool.and_eq_true] at h
      exact of_decide_eq_true h.1
    split
    · exact upt_any _ _ i j hi hj
    split
    · intro h
      rw [Bool.and_eq_true] at h
      have := of_decide_eq_true h.1; omega
    · intro h; cases h
theorem T_upt {ns : List Nd} (hO : OkA ns) {z : Int} (hz : okId ns z) : Upt (ws.length + 1) (T ws bts ns z) := T_up hO _ z (Nat.lt_succ_self _) hz
theorem T_none {ns : List Nd} (hO : OkA ns) {z : Int} {x : Nd} (h : At ns z x) (hk : x.k = 0) : T ws bts ns z = nonT := by
  rw [T_at hO h]; unfold nodT; rw [if_neg (by omega), if_neg (by omega), if_neg (by omega), if_neg (by omega), if_neg (by omega), if_neg (by omega), if_neg (by omega), if_neg (by omega)]; rfl
theorem T_empty {ns : List Nd} (hO : OkA ns) {z : Int} {x : Nd} (h : At ns z x) (hk : x.k = 1) : T ws bts ns z = oneT := by
  rw [T_at hO h]; unfold nodT; rw [if_pos hk]; rfl
/-- The byte at a place. -/
def byteAt (ws : List Int) (i : Nat) : Nat := (ws.getD i 0).toNat
theorem hasR_bit (s0 s1 s2 s3 : Int) (b : Nat) : hasR s0 s1 s2 s3 b = (S4.get ⟨s0, s1, s2, s3⟩ (b / 64)).toNat.testBit (b % 64) := by
  unfold hasR
  rw [Nat.testBit_eq_decide_div_mod_eq]; rfl
def bitB (s : S4) (j : Nat) : Bool := (s.get (j / 64)).toNat.testBit (j % 64)
theorem T_bytes {ns : List Nd} (hO : OkA ns) {z : Int} {x : Nd} (h : At ns z x) (hk : x.k = 2) (i j : Nat) : T ws bts ns z i j = (decide (j = i + 1) && bitB (setOf x) (byteAt ws i)) := by
  rw [T_at hO h]; unfold nodT; rw [if_neg (by omega), if_pos hk]
  rw [hasR_bit]; rfl
theorem T_cat {ns : List Nd} (hO : OkA ns) {z : Int} {x : Nd} (h : At ns z x) (hk : x.k = 3) : T ws bts ns z = thenT (ws.length + 1) (T ws bts ns x.a) (T ws bts ns x.b) := by
  rw [T_at hO h]; unfold nodT; rw [if_neg (by omega), if_neg (by omega), if_pos hk]; rfl
theorem T_or {ns : List Nd} (hO : OkA ns) {z : Int} {x : Nd} (h : At ns z x) (hk : x.k = 4) (i j : Nat) : T ws bts ns z i j = (T ws bts ns x.a i j || T ws bts ns x.b i j) := by
  rw [T_at hO h]; unfold nodT; rw [if_neg (by omega), if_neg (by omega), if_neg (by omega), if_pos hk]; rfl
theorem T_and {ns : List Nd} (hO : OkA ns) {z : Int} {x : Nd} (h : At ns z x) (hk : x.k = 5) (i j : Nat) : T ws bts ns z i j = (T ws bts ns x.a i j && T ws bts ns x.b i j) := by
  rw [T_at hO h]; unfold nodT; rw [if_neg (by omega), if_neg (by omega), if_neg (by omega), if_neg (by omega), if_pos hk]; rfl
theorem T_not {ns : List Nd} (hO : OkA ns) {z : Int} {x : Nd} (h : At ns z x) (hk : x.k = 6) (i j : Nat) : T ws bts ns z i j = (decide (i ≤ j) && !T ws bts ns x.a i j) := by
  rw [T_at hO h]; unfold nodT; rw [if_neg (by omega), if_neg (by omega), if_neg (by omega), if_neg (by omega), if_neg (by omega), if_pos hk]; rfl
theorem T_star {ns : List Nd} (hO : OkA ns) {z : Int} {x : Nd} (h : At ns z x) (hk : x.k = 7) : T ws bts ns z = anyT (ws.length + 1) (T ws bts ns x.a) := by
  rw [T_at hO h]; unfold nodT; rw [if_neg (by omega), if_neg (by omega), if_neg (by omega), if_neg (by omega), if_neg (by omega), if_neg (by omega), if_pos hk]; rfl
theorem T_look {ns : List Nd} (hO : OkA ns) {z : Int} {x : Nd} (h : At ns z x) (hk : x.k = 8) (i j : Nat) : T ws bts ns z i j = (decide (i = j) && (decide ((bts.getD i 0).toNat / 2 ^ x.a.toNat % 2 = 1) != x.neg)) := by
  rw [T_at hO h]; unfold nodT; rw [if_neg (by omega), if_neg (by omega), if_neg (by omega), if_neg (by omega), if_neg (by omega), if_neg (by omega), if_neg (by omega), if_pos hk]

/-- What some nodes match together. -/
def tog (g : Bool) (i j : Nat) (Q : Int → Prop) (f : Int → Tb) : Prop := match g with
  | false => ∃ z, Q z ∧ f z i j = true
  | true => i ≤ j ∧ ∀ z, Q z → f z i j = true
theorem mb_ok {ns : List Nd} (hO : OkA ns) {kd : Int} (hkd : kd = 4 ∨ kd = 5) {x z : Int} (h : Mb ns kd x z) : okId ns x → okId ns z := by
  induction h with
  | leaf _ => exact id
  | a hk _ ih => exact fun hx => ih (okId_parts hO hx (by omega)).1
  | b hk _ ih => exact fun hx => ih (okId_parts hO hx (by omega)).2
/-- A node of a kind matches what its members do together. -/
theorem mb_tog {ns : List Nd} (hO : OkA ns) (g : Bool) {i j : Nat} (hi : i < ws.length + 1) (hj : j < ws.length + 1) : ∀ (k : Nat) (x : Int), x.toNat < k → okId ns x → (T ws bts ns x i j = true ↔ tog g i j (Mb ns (kdG g) x) (T ws bts ns)) := by
  intro k
  induction k with
  | zero => intro x h; omega
  | succ k ih =>
    intro x h hx
    by_cases hk : kindN ns x = kdG g
    · have hkd := kdG_or g
      obtain ⟨p1, p2⟩ := okId_parts hO hx (by omega)
      obtain ⟨n, e1, e2⟩ := hx.at
      have hkn : n.k = kdG g := by rw [← e1.kind]; exact hk
      have hlt := (right_lt (e1.right hO)).1 (by omega)
      rw [e2] at p1 p2
      simp only at p1 p2
      have ia := ih n.a (by omega) p1
      have ib := ih n.b (by omega) p2
      have ea : (nodeN ns x).1.a = n.a := by rw [e2]
      have eb : (nodeN ns x).1.b = n.b := by rw [e2]
      cases g
      · rw [T_or hO e1 hkn, Bool.or_eq_true, ia, ib]
        constructor
        · rintro (⟨z, h1, h2⟩ | ⟨z, h1, h2⟩)
          · exact ⟨z, .a hk (by rw [ea]; exact h1), h2⟩
          · exact ⟨z, .b hk (by rw [eb]; exact h1), h2⟩
        · rintro ⟨z, h1, h2⟩
          cases h1 with
          | leaf h => exact absurd hk h
          | a _ h1 => rw [ea] at h1; exact .inl ⟨z, h1, h2⟩
          | b _ h1 => rw [eb] at h1; exact .inr ⟨z, h1, h2⟩
      · rw [T_and hO e1 hkn, Bool.and_eq_true, ia, ib]
        constructor
        · rintro ⟨⟨h0, h1⟩, _, h2⟩
          refine ⟨h0, fun z hz => ?_⟩
          cases hz with
          | leaf h => exact absurd hk h
          | a _ hz => rw [ea] at hz; exact h1 z hz
          | b _ hz => rw [eb] at hz; exact h2 z hz
        · rintro ⟨h0, h1⟩
          exact ⟨⟨h0, fun z hz => h1 z (.a hk (by rw [ea]; exact hz))⟩, h0, fun z hz => h1 z (.b hk (by rw [eb]; exact hz))⟩
    · cases g
      · exact ⟨fun h => ⟨x, .leaf hk, h⟩, fun ⟨z, h1, h2⟩ => by rw [← h1.at_leaf hk]; exact h2⟩
      · exact ⟨fun h => ⟨T_upt hO hx i j hi hj h, fun z hz => by rw [hz.at_leaf hk]; exact h⟩, fun ⟨_, h⟩ => h x (.leaf hk)⟩
theorem bitB_op (g : Bool) (s t : S4) (j : Nat) : bitB (op4 g s t) j = match g with | false => (bitB s j || bitB t j) | true => (bitB s j && bitB t j) := by
  cases g
  · show bitB (un4 s t) j = _
    unfold bitB; rw [get_un]; unfold orI; rw [Int.toNat_natCast, Nat.testBit_or]
  · show bitB (in4 s t) j = _
    unfold bitB; rw [get_in]; unfold andI; rw [Int.toNat_natCast, Nat.testBit_and]
theorem bitB_z (j : Nat) : bitB z4 j = false := by
  unfold bitB S4.get z4
  split <;> (try split) <;> (try split) <;> simp
/-- What is split: those that aren't sets of bytes; the sets of bytes as one. -/
def SQ (g : Bool) (ns : List Nd) (Q : Int → Prop) (p : List Int × Option S4) : Prop :=
  (∀ z, z ∈ p.1 ↔ Q z ∧ kindN ns z ≠ 2) ∧ match p.2 with
  | none => ¬ ∃ z, Q z ∧ kindN ns z = 2
  | some s => (∃ z, Q z ∧ kindN ns z = 2) ∧ ∀ j, bitB s j = true ↔ match g with
    | false => ∃ z, Q z ∧ kindN ns z = 2 ∧ bitB (setOf (nodeN ns z).1) j = true
    | true => ∀ z, Q z → kindN ns z = 2 → bitB (setOf (nodeN ns z).1) j = true
theorem SQ.step {g : Bool} {ns : List Nd} {Q : Int → Prop} {p : List Int × Option S4} (h : SQ g ns Q p) (y : Int) : SQ g ns (fun z => Q z ∨ z = y) (stepS g ns p y) := by
  obtain ⟨out, so⟩ := p
  obtain ⟨h1, h2⟩ := h
  unfold stepS
  by_cases hk : (nodeN ns y).1.k = 2
  · rw [if_neg (by simp [hk])]
    have hky : kindN ns y = 2 := hk
    have h3 : ∀ z, z ∈ out ↔ (Q z ∨ z = y) ∧ kindN ns z ≠ 2 := fun z => by
      rw [h1 z]
      constructor
      · exact fun h => ⟨.inl h.1, h.2⟩
      · rintro ⟨h | rfl, h'⟩
        · exact ⟨h, h'⟩
        · exact absurd hky h'
    cases so with
    | none =>
      simp only at h2 ⊢
      refine ⟨h3, ⟨y, .inr rfl, hky⟩, fun j => ?_⟩
      cases g
      · constructor
        · exact fun h => ⟨y, .inr rfl, hky, h⟩
        · rintro ⟨z, h | rfl, k, hb⟩
          · exact absurd ⟨z, h, k⟩ h2
          · exact hb
      · constructor
        · rintro h z (hz | rfl) hk
          · exact absurd ⟨z, hz, hk⟩ h2
          · exact h
        · exact fun h => h y (.inr rfl) hky
    | some s =>
      simp only at h2 ⊢
      obtain ⟨h4, h5⟩ := h2
      refine ⟨h3, ⟨y, .inr rfl, hky⟩, fun j => ?_⟩
      rw [bitB_op]
      cases g
      · simp only
        rw [Bool.or_eq_true, h5 j]
        constructor
        · rintro (⟨z, hz, k, hb⟩ | h)
          · exact ⟨z, .inl hz, k, hb⟩
          · exact ⟨y, .inr rfl, hky, h⟩
        · rintro ⟨z, h | rfl, k, hb⟩
          · exact .inl ⟨z, h, k, hb⟩
          · exact .inr hb
      · simp only
        rw [Bool.and_eq_true, h5 j]
        constructor
        · rintro ⟨h, hb⟩ z (hz | rfl) k
          · exact h z hz k
          · exact hb
        · exact fun h => ⟨fun z hz k => h z (.inl hz) k, h y (.inr rfl) hky⟩
  · rw [if_pos hk]
    have hky : kindN ns y ≠ 2 := hk
    have hiff : ∀ z, ((Q z ∨ z = y) ∧ kindN ns z = 2) ↔ (Q z ∧ kindN ns z = 2) := fun z => by
      constructor
      · rintro ⟨h | rfl, k⟩
        · exact ⟨h, k⟩
        · exact absurd k hky
      · exact fun h => ⟨.inl h.1, h.2⟩
    refine ⟨fun z => ?_, ?_⟩
    · show z ∈ out ++ [y] ↔ _
      rw [List.mem_append, h1 z, List.mem_singleton]
      constructor
      · rintro (h | rfl)
        · exact ⟨.inl h.1, h.2⟩
        · exact ⟨.inr rfl, hky⟩
      · rintro ⟨h | h, h'⟩
        · exact .inl ⟨h, h'⟩
        · exact .inr h
    · cases so with
      | none =>
        simp only at h2 ⊢
        rintro ⟨z, hz⟩
        exact h2 ⟨z, (hiff z).1 hz⟩
      | some s =>
        simp only at h2 ⊢
        obtain ⟨⟨z, h4⟩, h5⟩ := h2
        refine ⟨⟨z, (hiff z).2 h4⟩, fun j => ?_⟩
        rw [h5 j]
        cases g
        · constructor
          · rintro ⟨z, hz, k, hb⟩; exact ⟨z, .inl hz, k, hb⟩
          · rintro ⟨z, h, k, hb⟩; obtain ⟨h, k⟩ := (hiff z).1 ⟨h, k⟩; exact ⟨z, h, k, hb⟩
        · constructor
          · intro h z hz k; obtain ⟨hz, k⟩ := (hiff z).1 ⟨hz, k⟩; exact h z hz k
          · exact fun h z hz k => h z (.inl hz) k
theorem SQ.fold {g : Bool} {ns : List Nd} : ∀ (l : List Int) {Q : Int → Prop} {p : List Int × Option S4}, SQ g ns Q p → SQ g ns (fun z => Q z ∨ z ∈ l) (l.foldl (stepS g ns) p)
  | [], Q, p, h => by
    have e : (fun z => Q z ∨ z ∈ ([] : List Int)) = Q := funext fun z => by simp
    rw [e]; exact h
  | y :: l, Q, p, h => by
    have e : (fun z => Q z ∨ z ∈ y :: l) = fun z => (Q z ∨ z = y) ∨ z ∈ l := funext fun z => by simp [or_assoc]
    rw [e]; exact SQ.fold l (h.step y)
theorem split_sq (g : Bool) (ns : List Nd) (l : List Int) : SQ g ns (fun z => z ∈ l) (splitN g ns l) := by
  have h0 : SQ g ns (fun _ => False) ([], none) := ⟨fun z => by simp, by simp⟩
  have := SQ.fold l h0
  rw [show (fun z => False ∨ z ∈ l) = fun z => z ∈ l from funext fun z => by simp] at this
  exact this
end
end Go.Proofs.YtpdiljdklllmjaaGreat.ar
