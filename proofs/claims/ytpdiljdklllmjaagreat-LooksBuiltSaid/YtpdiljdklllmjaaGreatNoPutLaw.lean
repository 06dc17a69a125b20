/- norm, plain law: what Or and And make. Conditions: none. -/
import Derived.Test.YtpdiljdklllmjaaGreatNoEl

namespace Go.Proofs.YtpdiljdklllmjaaGreat.ar
open Go Go.Ev Go.Proofs

/-! ### Chains -/
theorem chainN_snoc (kd a : Int) : ∀ (l : List Int) (ns : List Nd) (out : Int), chainN kd ns (l ++ [a]) out = pN (chainN kd ns l out).1 (ndP kd a (chainN kd ns l out).2)
  | [], ns, out => rfl
  | z :: l, ns, out => chainN_snoc kd a l _ _
theorem chainR_cons (kd : Int) (ns : List Nd) (no a b : Int) (l : List Int) : chainR kd ns no (a :: b :: l).reverse = pN (chainR kd ns no (b :: l).reverse).1 (ndP kd a (chainR kd ns no (b :: l).reverse).2) := by
  have e : (b :: l).reverse = (b :: l).getLast (by simp) :: (b :: l).dropLast.reverse := by
    have := List.dropLast_concat_getLast (l := b :: l) (by simp)
    conv => lhs; rw [← this]
    rw [List.reverse_append]; rfl
  rw [List.reverse_cons (a := a), e]
  exact chainN_snoc kd a _ ns _
theorem Lst.tail {ns : List Nd} {kd a : Int} {l : List Int} (h : Lst ns kd (a :: l)) : Lst ns kd l :=
  ⟨fun z hz => h.ok z (by simp [hz]), (List.pairwise_cons.1 h.lt).2, fun z hz => h.kind z (by simp [hz]), fun z hz => h.none z (by simp [hz]), fun z hz => h.all z (by simp [hz]), fun z hz y hy => h.one z (by simp [hz]) y (by simp [hy])⟩
theorem right_P {kd a b : Int} {n : Nat} (hk : kd = 3 ∨ kd = 4 ∨ kd = 5) (ha : 0 ≤ a ∧ a < n) (hb : 0 ≤ b ∧ b < n) : rightN (ndP kd a b) n = true := by
  unfold rightN ndP
  rw [if_neg (by simp only; omega), if_neg (by simp only; omega), if_pos (by simp only; omega)]
  simp [ha, hb]
theorem right_1 {kd a : Int} {n : Nat} (hk : kd = 6 ∨ kd = 7) (ha : 0 ≤ a ∧ a < n) : rightN (ndP kd a 0) n = true := by
  unfold rightN ndP
  rw [if_neg (by simp only; omega), if_neg (by simp only; omega), if_neg (by simp only; omega), if_pos (by simp only; omega)]
  simp [ha]
theorem right_B (s : S4) (n : Nat) : rightN (ndB s) n = true := by
  unfold rightN ndB
  rw [if_neg (by simp), if_pos rfl]
  simp
theorem nmx_P {ns : List Nd} {kd a b : Int} (hkd : kd = 4 ∨ kd = 5) (h : Lst ns kd (a :: chN ns kd b)) : NmX ns (ndP kd a b) :=
  ⟨fun h => absurd (show kd = 2 from h) (by omega), fun h => absurd (show kd = 3 from h) (by omega), fun _ => h, fun h => absurd (show kd = 6 from h) (by omega), fun h => absurd (show kd = 7 from h) (by omega)⟩
theorem nmx_B {ns : List Nd} {s : S4} (h : s ≠ z4) : NmX ns (ndB s) :=
  ⟨fun _ => h, fun h => absurd (show (2 : Int) = 3 from h) (by omega), fun h => absurd (show (2 : Int) = 4 ∨ (2 : Int) = 5 from h) (by omega), fun h => absurd (show (2 : Int) = 6 from h) (by omega), fun h => absurd (show (2 : Int) = 7 from h) (by omega)⟩
/-- A chain of a list. -/
theorem chainR_spec {kd : Int} (hkd : kd = 4 ∨ kd = 5) (no : Int) : ∀ (xs : List Int) (ns : List Nd), Nm ns → Lst ns kd xs → ns.length + xs.length ≤ 20001 → xs ≠ [] →
    Nm (chainR kd ns no xs.reverse).1 ∧ (chainR kd ns no xs.reverse).1.length + 1 ≤ ns.length + xs.length ∧ okId (chainR kd ns no xs.reverse).1 (chainR kd ns no xs.reverse).2 ∧ chN (chainR kd ns no xs.reverse).1 kd (chainR kd ns no xs.reverse).2 = xs := by
  intro xs
  induction xs with
  | nil => intro ns _ _ _ h; exact absurd rfl h
  | cons a t ih =>
    intro ns hN hl hr _
    cases t with
    | nil =>
      have ha := hl.ok a (by simp)
      exact ⟨hN, Nat.le_refl _, ha, ch_leaf _ (hl.kind a (by simp))⟩
    | cons b t =>
      simp only [List.length_cons] at hr
      obtain ⟨h1, h2, h3, h4⟩ := ih ns hN hl.tail (by simp only [List.length_cons]; omega) (by simp)
      have hp := chainR_pre kd ns no (b :: t).reverse
      rw [chainR_cons]
      generalize chainR kd ns no (b :: t).reverse = r at h1 h2 h3 h4 hp
      simp only [List.length_cons] at h2
      have ha : okId r.1 a := okId_pre hp (hl.ok a (by simp))
      have hL : Lst r.1 kd (a :: chN r.1 kd r.2) := by rw [h4]; exact hl.pre hp
      have hri : rightN (ndP kd a r.2) r.1.length = true := right_P (by omega) ha h3
      have hi : InN (ndP kd a r.2) := inN_P (by omega) (okId_i64 h1.ok.len ha) (okId_i64 h1.ok.len h3)
      have hN2 := h1.put hi hri (nmx_P hkd hL) (by omega)
      have hs := pN_spec h1.ok hri (by omega)
      have hp2 := pN_pre r.1 (ndP kd a r.2)
      generalize pN r.1 (ndP kd a r.2) = q at hN2 hs hp2
      have hq := hs.1
      refine ⟨hN2, ?_, hq.ok, ?_⟩
      · simp only [List.length_cons]
        rcases hs.2 with e | ⟨e, -⟩
        · rw [e]; omega
        · rw [e, List.length_append]; simp only [List.length_singleton]; omega
      · rw [ch_node hN2.ok (kd := kd) (by omega) hq.ok (show kindN q.1 q.2 = kd from hq.kind), hq.node]
        show a :: chN q.1 kd r.2 = _
        rw [ch_pre h1.ok hN2.ok hp2 (by omega) _ h3, h4]
/-- A chain that is there. -/
theorem chainR_have {kd : Int} (hkd : kd = 4 ∨ kd = 5) (no : Int) {ns : List Nd} (hN : Nm ns) : ∀ r, okId ns r → chainR kd ns no (chN ns kd r).reverse = (ns, r) := by
  refine ch_induct hN.ok (kd := kd) (by omega) (fun x hx hk => ?_) (fun x hx hk ha hb ih => ?_)
  · rw [ch_leaf _ hk]; rfl
  · rw [ch_node hN.ok (by omega) hx hk]
    obtain ⟨b, t, e⟩ : ∃ b t, chN ns kd (nodeN ns x).1.b = b :: t := by
      cases e : chN ns kd (nodeN ns x).1.b with
      | nil => exact absurd e ch_ne
      | cons b t => exact ⟨b, t, rfl⟩
    rw [e] at ih ⊢
    rw [chainR_cons, ih]
    obtain ⟨n, h1, h2⟩ := hx.at
    have hk' := hk
    rw [h1.kind] at hk'
    have hr := h1.right hN.ok
    unfold rightN at hr
    rw [if_neg (by omega), if_neg (by omega), if_pos (by omega)] at hr
    simp only [Bool.and_eq_true, decide_eq_true_eq] at hr
    have en : n = ndP kd n.a n.b := by rw [← hr.2, hk']; rfl
    rw [h2]
    show pN ns (ndP kd n.a n.b) = _
    rw [← en]
    exact pN_have hN.ok h1

/-! ### Sets of bytes as one -/
def SP (g : Bool) (ns : List Nd) (Q : Int → Prop) (p : List Int × Option S4) : Prop :=
  (∀ z, z ∈ p.1 ↔ Q z ∧ kindN ns z ≠ 2) ∧ match p.2 with
  | none => ¬ ∃ z, Q z ∧ kindN ns z = 2
  | some s => InS s ∧ (∃ z, Q z ∧ kindN ns z = 2) ∧ ∀ j, bit s j = true ↔ btOf g ns Q j
theorem SP.step {g : Bool} {ns : List Nd} (hO : OkA ns) {Q : Int → Prop} {p : List Int × Option S4} (h : SP g ns Q p) (y : Int) : SP g ns (fun z => Q z ∨ z = y) (stepS g ns p y) := by
  obtain ⟨out, so⟩ := p
  obtain ⟨h1, h2⟩ := h
  have hin := inS_of (nodeN_in hO y)
  unfold stepS
  by_cases hk : (nodeN ns y).1.k = 2
  · rw [if_neg (by simp [hk])]
    have hky : kindN ns y = 2 := hk
    have h3 : ∀ z, z ∈ out ↔ (Q z ∨ z = y) ∧ kindN ns z ≠ 2 := fun z => by
      rw [h1 z]
      constructor
      · exact fun h => ⟨.inl h.1, h.2⟩
      · rintro ⟨h | rfl, h'⟩
        · exact ⟨h, h'⟩
        · exact absurd hky h'
    cases so with
    | none =>
      simp only at h2 ⊢
      refine ⟨h3, hin, ⟨y, .inr rfl, hky⟩, fun j => ?_⟩
      cases g
      · constructor
        · exact fun h => ⟨y, .inr rfl, hky, h⟩
        · rintro ⟨z, h | rfl, k, hb⟩
          · exact absurd ⟨z, h, k⟩ h2
          · exact hb
      · constructor
        · rintro h z (hz | rfl) hk
          · exact absurd ⟨z, hz, hk⟩ h2
          · exact h
        · exact fun h => h y (.inr rfl) hky
    | some s =>
      simp only at h2 ⊢
      obtain ⟨h2, h4, h5⟩ := h2
      refine ⟨h3, inS_op g h2 hin, ⟨y, .inr rfl, hky⟩, fun j => ?_⟩
      cases g
      · show bit (un4 s _) j = true ↔ _
        rw [bit_un, Bool.or_eq_true, h5 j]
        constructor
        · rintro (⟨z, hz, k, hb⟩ | h)
          · exact ⟨z, .inl hz, k, hb⟩
          · exact ⟨y, .inr rfl, hky, h⟩
        · rintro ⟨z, h | rfl, k, hb⟩
          · exact .inl ⟨z, h, k, hb⟩
          · exact .inr hb
      · show bit (in4 s _) j = true ↔ _
        rw [bit_in, Bool.and_eq_true, h5 j]
        constructor
        · rintro ⟨h, hb⟩ z (hz | rfl) k
          · exact h z hz k
          · exact hb
        · exact fun h => ⟨fun z hz k => h z (.inl hz) k, h y (.inr rfl) hky⟩
  · rw [if_pos hk]
    have hky : kindN ns y ≠ 2 := hk
    refine ⟨fun z => ?_, ?_⟩
    · show z ∈ out ++ [y] ↔ _
      rw [List.mem_append, h1 z, List.mem_singleton]
      constructor
      · rintro (h | rfl)
        · exact ⟨.inl h.1, h.2⟩
        · exact ⟨.inr rfl, hky⟩
      · rintro ⟨h | h, h'⟩
        · exact .inl ⟨h, h'⟩
        · exact .inr h
    · have hiff : ∀ z, ((Q z ∨ z = y) ∧ kindN ns z = 2) ↔ (Q z ∧ kindN ns z = 2) := fun z => by
        constructor
        · rintro ⟨h | rfl, k⟩
          · exact ⟨h, k⟩
          · exact absurd k hky
        · exact fun h => ⟨.inl h.1, h.2⟩
      cases so with
      | none =>
        simp only at h2 ⊢
        rintro ⟨z, hz⟩
        exact h2 ⟨z, (hiff z).1 hz⟩
      | some s =>
        simp only at h2 ⊢
        obtain ⟨h2, ⟨z, h4⟩, h5⟩ := h2
        refine ⟨h2, ⟨z, (hiff z).2 h4⟩, fun j => ?_⟩
        rw [h5 j]
        cases g
        · constructor
          · rintro ⟨z, hz, k, hb⟩; exact ⟨z, .inl hz, k, hb⟩
          · rintro ⟨z, h, k, hb⟩; obtain ⟨h, k⟩ := (hiff z).1 ⟨h, k⟩; exact ⟨z, h, k, hb⟩
        · constructor
          · intro h z hz k; obtain ⟨hz, k⟩ := (hiff z).1 ⟨hz, k⟩; exact h z hz k
          · exact fun h z hz k => h z (.inl hz) k
theorem SP.fold {g : Bool} {ns : List Nd} (hO : OkA ns) : ∀ (l : List Int) {Q : Int → Prop} {p : List Int × Option S4}, SP g ns Q p → SP g ns (fun z => Q z ∨ z ∈ l) (l.foldl (stepS g ns) p)
  | [], Q, p, h => by
    have e : (fun z => Q z ∨ z ∈ ([] : List Int)) = Q := funext fun z => by simp
    rw [e]; exact h
  | y :: l, Q, p, h => by
    have e : (fun z => Q z ∨ z ∈ y :: l) = fun z => (Q z ∨ z = y) ∨ z ∈ l := funext fun z => by simp [or_assoc]
    rw [e]; exact SP.fold hO l (h.step hO y)
theorem split_sp (g : Bool) {ns : List Nd} (hO : OkA ns) (l : List Int) : SP g ns (fun z => z ∈ l) (splitN g ns l) := by
  have h0 : SP g ns (fun _ => False) ([], none) := ⟨fun z => by simp, by simp⟩
  have := SP.fold hO l h0
  rw [show (fun z => False ∨ z ∈ l) = fun z => z ∈ l from funext fun z => by simp] at this
  exact this
theorem Nm.nothing {ns : List Nd} (h : Nm ns) (g : Bool) : nothingN g ns = (ns, nothingI g) := by cases g; exact h.none; exact h.all
theorem Nm.wins {ns : List Nd} (h : Nm ns) (g : Bool) : winsN g ns = (ns, winsI g) := by cases g; exact h.all; exact h.none

/-- What Or and And make. -/
structure Made (g : Bool) (ns : List Nd) (E : El) (r : List Nd × Int) : Prop where
  pre : ns <+: r.1
  nm : Nm r.1
  is : IsG g r.1 r.2 E
theorem gput_spec {g : Bool} {ns : List Nd} (hN : Nm ns) {l : List Int} (hl : ∀ x ∈ l, okId ns x) (V : List Int) (hV : ∀ z, (elL g ns l).P z → z ∈ V) (hr : ns.length + V.length + 1 ≤ 20000) :
    Made g ns (elL g ns l) (gputN g ns l) ∧ (gputN g ns l).1.length ≤ ns.length + V.length + 1 ∧ (∀ r, IsG g ns r (elL g ns l) → (gputN g ns l).2 = r ∧ (gputN g ns l).1.length ≤ ns.length + 1) := by
  have hth : thereN ns l = true := by
    unfold thereN; rw [List.all_eq_true]; exact fun z hz => decide_eq_true (hl z hz)
  have hpre := gput_pre g ns l
  unfold gputN at hpre ⊢
  rw [if_neg (by rw [hth]; decide), hN.nothing g] at hpre ⊢
  simp only at hpre ⊢
  rw [hN.wins g] at hpre ⊢
  simp only at hpre ⊢
  have hkd := kdG_or g
  have hmem : ∀ z, z ∈ memN ns (kdG g) l ↔ ∃ x ∈ l, z ∈ chN ns (kdG g) x := fun z => by
    rw [memN_iff hN.ok hkd hl]
    exact ⟨fun ⟨x, hx, h⟩ => ⟨x, hx, (mb_ch hN hkd x (hl x hx) z).1 h⟩, fun ⟨x, hx, h⟩ => ⟨x, hx, (mb_ch hN hkd x (hl x hx) z).2 h⟩⟩
  have hE : elL g ns l = elOf g ns fun z => z ∈ memN ns (kdG g) l := elOf_congr fun z => (hmem z).symm
  have hmok := memN_ok hN.ok hkd hl
  have hmk : ∀ z ∈ memN ns (kdG g) l, kindN ns z ≠ kdG g := fun z hz => by
    obtain ⟨x, -, h⟩ := (memN_iff hN.ok hkd hl z).1 hz
    exact h.kind
  rw [hE] at hV ⊢
  clear hE hmem
  generalize memN ns (kdG g) l = M at *
  have hsp := split_sp g hN.ok M
  -- the arena with the set of bytes, and the list
  have key : ∃ ns3 l3, gbytesN g ns M = (ns3, l3) ∧ ns <+: ns3 ∧ Nm ns3 ∧ ns3.length ≤ ns.length + 1 ∧ (∀ z ∈ l3, okId ns3 z ∧ kindN ns3 z ≠ kdG g) ∧
      (winsI g ∈ l3 → top g (elOf g ns fun z => z ∈ M)) ∧ (winsI g ∉ l3 → (∀ z, z ∈ l3 ∧ kindN ns3 z ≠ 2 ∧ z ≠ nothingI g ↔ z ∈ M ∧ kindN ns z ≠ 2 ∧ z ≠ nothingI g) ∧
        (∀ z ∈ l3, ∀ y ∈ l3, kindN ns3 z = 2 → kindN ns3 y = 2 → z = y) ∧ elOf g ns3 (fun z => z ∈ l3) = elOf g ns fun z => z ∈ M) := by
    unfold gbytesN
    obtain ⟨s1, s2⟩ := hsp
    generalize splitN g ns M = p at s1 s2
    obtain ⟨out, so⟩ := p
    simp only at s1 s2
    cases so with
    | none =>
      simp only at s2 ⊢
      have hnb : ∀ z ∈ M, kindN ns z ≠ 2 := fun z hz hk => s2 ⟨z, hz, hk⟩
      have ho : ∀ z, z ∈ out ↔ z ∈ M := fun z => by rw [s1 z]; exact ⟨fun h => h.1, fun h => ⟨h, hnb z h⟩⟩
      refine ⟨ns, out, rfl, List.prefix_refl _, hN, by omega, fun z hz => ⟨hmok z ((ho z).1 hz), hmk z ((ho z).1 hz)⟩, fun hw => .inl ⟨(ho _).1 hw, (hN.g1 g).2.1, wn_ne g⟩, fun _ => ⟨fun z => by rw [ho z], fun z hz y hy hk => absurd hk (hnb z ((ho z).1 hz)), elOf_congr ho⟩⟩
    | some s =>
      simp only at s2 ⊢
      obtain ⟨s2, s3, s4⟩ := s2
      have hw : winsI g ∈ out → top g (elOf g ns fun z => z ∈ M) := fun hw => .inl ⟨((s1 _).1 hw).1, (hN.g1 g).2.1, wn_ne g⟩
      unfold bytesN
      by_cases hz : s = z4
      · rw [if_pos hz, hN.none]
        simp only
        have hnob : ∀ j, ¬ btOf g ns (fun z => z ∈ M) j := fun j hj => by
          have := (s4 j).2 hj
          rw [hz, bit_z] at this; cases this
        refine ⟨ns, out ++ [0], rfl, List.prefix_refl _, hN, by omega, fun z hz => ?_, fun h => ?_, fun h => ?_⟩
        · rcases List.mem_append.1 hz with hz | hz
          · have := (s1 z).1 hz; exact ⟨hmok z this.1, hmk z this.1⟩
          · rw [List.mem_singleton.1 hz]; exact ⟨hN.n0.ok, by rw [hN.n0.kind]; cases g <;> decide⟩
        · rcases List.mem_append.1 h with h | h
          · exact hw h
          · cases g
            · exact absurd (List.mem_singleton.1 h) (by decide)
            · exact .inr ⟨rfl, s3, hnob⟩
        · exfalso
          cases g
          · obtain ⟨z, h1, h2⟩ := s3
            obtain ⟨-, h4, h5⟩ := hN.kind2 (hmok z h1) h2
            refine h5 (bit_ext h4 inS_z fun j => ?_)
            rw [bit_z]
            cases hb : bit (setOf (nodeN ns z).1) j with
            | false => rfl
            | true => exact absurd ⟨z, h1, h2, hb⟩ (hnob j)
          · exact h (by simp [winsI])
      · rw [if_neg hz]
        have hri := right_B s ns.length
        have hN3 := hN.put (inN_B s2) hri (nmx_B hz) (by omega)
        have hs := pN_spec hN.ok hri (by omega)
        have hp := pN_pre ns (ndB s)
        generalize pN ns (ndB s) = q at hN3 hs hp
        obtain ⟨ns3, b⟩ := q
        simp only at hN3 hs hp ⊢
        have hb := hs.1
        have hkb : kindN ns3 b = 2 := hb.kind
        have hoi : ∀ z ∈ out, z ∈ M ∧ okId ns z ∧ kindN ns z ≠ 2 ∧ kindN ns3 z = kindN ns z := fun z hz => by
          have := (s1 z).1 hz; have h1 := hmok z this.1; exact ⟨this.1, h1, this.2, kind_pre hp h1⟩
        have hbw : winsI g ≠ b := fun e => by
          have := (hN3.g1 g).2.1
          rw [e] at this; exact this hkb
        have hiff : ∀ z, z ∈ out ++ [b] ∧ kindN ns3 z ≠ 2 ∧ z ≠ nothingI g ↔ z ∈ M ∧ kindN ns z ≠ 2 ∧ z ≠ nothingI g := fun z => by
          constructor
          · rintro ⟨h1, h2, h3⟩
            rcases List.mem_append.1 h1 with h1 | h1
            · have := hoi z h1; exact ⟨this.1, this.2.2.1, h3⟩
            · rw [List.mem_singleton.1 h1] at h2; exact absurd hkb h2
          · rintro ⟨h1, h2, h3⟩
            have h4 := (s1 z).2 ⟨h1, h2⟩
            exact ⟨by simp [h4], by rw [(hoi z h4).2.2.2]; exact h2, h3⟩
        have hbz : ∀ z, z ∈ out ++ [b] → kindN ns3 z = 2 → z = b := fun z h1 h2 => by
          rcases List.mem_append.1 h1 with h1 | h1
          · have := hoi z h1; rw [this.2.2.2] at h2; exact absurd h2 this.2.2.1
          · exact List.mem_singleton.1 h1
        refine ⟨ns3, out ++ [b], rfl, hp, hN3, ?_, fun z hz => ?_, fun h => ?_, fun _ => ⟨hiff, fun z hz y hy h1 h2 => by rw [hbz z hz h1, hbz y hy h2], El.ext' hiff ?_ fun j => ?_⟩⟩
        · rcases hs.2 with e | ⟨e, -⟩
          · rw [e]; omega
          · rw [e, List.length_append]; simp
        · rcases List.mem_append.1 hz with hz | hz
          · have := hoi z hz; exact ⟨okId_pre hp this.2.1, by rw [this.2.2.2]; exact hmk z this.1⟩
          · rw [List.mem_singleton.1 hz]; exact ⟨hb.ok, by rw [hkb]; cases g <;> decide⟩
        · rcases List.mem_append.1 h with h | h
          · exact hw h
          · exact absurd (List.mem_singleton.1 h) hbw
        · exact ⟨fun _ => s3, fun _ => ⟨b, by simp, hkb⟩⟩
        · have e : setOf (nodeN ns3 b).1 = s := by rw [hb.node]; rfl
          show btOf g ns3 _ j ↔ btOf g ns _ j
          rw [← s4 j]
          cases g
          · exact ⟨fun ⟨z, h1, h2, h3⟩ => by rw [hbz z h1 h2, e] at h3; exact h3, fun h => ⟨b, by simp, hkb, by rw [e]; exact h⟩⟩
          · exact ⟨fun h => by rw [← e]; exact h b (by simp) hkb, fun h z h1 h2 => by rw [hbz z h1 h2, e]; exact h⟩
  obtain ⟨ns3, l3, hgb, hp3, hN3, hlen3, hok3, htop, hnot⟩ := key
  rw [hgb] at hpre ⊢
  simp only at hpre ⊢
  unfold restN at hpre ⊢
  by_cases hw : winsI g ∈ l3
  · rw [if_pos hw] at hpre ⊢
    have ht := htop hw
    have hi : IsG g ns3 (winsI g) (elOf g ns fun z => z ∈ M) := ⟨(hN3.g1 g).1, .inl ⟨top_wins hN3 g, ht⟩⟩
    exact ⟨⟨hp3, hN3, hi⟩, by simp only; omega, fun r hr => ⟨(hi.uniq hN3 (hr.pre hN.ok hN3.ok hp3)), hlen3⟩⟩
  rw [if_neg hw] at hpre ⊢
  obtain ⟨n1, n2, n3⟩ := hnot hw
  have hxs : ∀ z, z ∈ csd (nothingI g) l3 ↔ z ∈ l3 ∧ z ≠ nothingI g := csd_iff _ _
  have hxlt := csd_lt (nothingI g) l3
  show Made g ns _ (chainR (kdG g) ns3 (nothingI g) (csd (nothingI g) l3).reverse) ∧ (chainR (kdG g) ns3 (nothingI g) (csd (nothingI g) l3).reverse).1.length ≤ _ ∧ ∀ r, _ → (chainR (kdG g) ns3 (nothingI g) (csd (nothingI g) l3).reverse).2 = r ∧ (chainR (kdG g) ns3 (nothingI g) (csd (nothingI g) l3).reverse).1.length ≤ _
  change ns <+: (chainR (kdG g) ns3 (nothingI g) (csd (nothingI g) l3).reverse).1 at hpre
  generalize csd (nothingI g) l3 = xs at hxs hxlt hpre ⊢
  have hLst : Lst ns3 (kdG g) xs := by
    refine ⟨fun z hz => (hok3 z ((hxs z).1 hz).1).1, hxlt, fun z hz => (hok3 z ((hxs z).1 hz).1).2, fun z hz => ?_, fun z hz => ?_, fun z hz y hy => n2 z ((hxs z).1 hz).1 y ((hxs y).1 hy).1⟩
    · obtain ⟨h1, h2⟩ := (hxs z).1 hz
      exact (wn_cases g (fun e => hw (e ▸ h1)) h2).1
    · obtain ⟨h1, h2⟩ := (hxs z).1 hz
      exact (wn_cases g (fun e => hw (e ▸ h1)) h2).2
  have hxE : elOf g ns3 (fun z => z ∈ xs) = elOf g ns fun z => z ∈ M := by
    rw [← n3]
    have h0 := (hN3.g0 g).2.1
    refine El.ext' (fun z => ?_) ?_ fun j => ?_
    · exact ⟨fun ⟨h1, h2, h3⟩ => ⟨((hxs z).1 h1).1, h2, h3⟩, fun ⟨h1, h2, h3⟩ => ⟨(hxs z).2 ⟨h1, h3⟩, h2, h3⟩⟩
    · exact ⟨fun ⟨z, h1, h2⟩ => ⟨z, ((hxs z).1 h1).1, h2⟩, fun ⟨z, h1, h2⟩ => ⟨z, (hxs z).2 ⟨h1, fun e => h0 (e ▸ h2)⟩, h2⟩⟩
    · cases g
      · exact ⟨fun ⟨z, h1, h2, h3⟩ => ⟨z, ((hxs z).1 h1).1, h2, h3⟩, fun ⟨z, h1, h2, h3⟩ => ⟨z, (hxs z).2 ⟨h1, fun e => h0 (e ▸ h2)⟩, h2, h3⟩⟩
      · exact ⟨fun h z h1 h2 => h z ((hxs z).2 ⟨h1, fun e => h0 (e ▸ h2)⟩) h2, fun h z h1 h2 => h z ((hxs z).1 h1).1 h2⟩
  have hxl : xs.length ≤ V.length + 1 := by
    by_cases hb : ∃ b ∈ xs, kindN ns3 b = 2
    · obtain ⟨b, hb1, hb2⟩ := hb
      have hnd : xs.Nodup := hxlt.imp fun h => by omega
      have := hnd.length_le_of_subset (l₂ := b :: V) fun z hz => by
        by_cases hk : kindN ns3 z = 2
        · rw [hLst.one z hz b hb1 hk hb2]; simp
        · obtain ⟨h1, h2⟩ := (hxs z).1 hz
          exact List.mem_cons_of_mem _ (hV z ((n1 z).1 ⟨h1, hk, h2⟩))
      simpa using this
    · have hnd : xs.Nodup := hxlt.imp fun h => by omega
      have := hnd.length_le_of_subset (l₂ := V) fun z hz => by
        obtain ⟨h1, h2⟩ := (hxs z).1 hz
        exact hV z ((n1 z).1 ⟨h1, fun hk => hb ⟨z, hz, hk⟩, h2⟩)
      omega
  -- the chain
  have hch : Nm (chainR (kdG g) ns3 (nothingI g) xs.reverse).1 ∧ (chainR (kdG g) ns3 (nothingI g) xs.reverse).1.length ≤ ns3.length + V.length ∧ okId (chainR (kdG g) ns3 (nothingI g) xs.reverse).1 (chainR (kdG g) ns3 (nothingI g) xs.reverse).2 ∧ elI g (chainR (kdG g) ns3 (nothingI g) xs.reverse).1 (chainR (kdG g) ns3 (nothingI g) xs.reverse).2 = xs := by
    by_cases hx0 : xs = []
    · subst hx0
      exact ⟨hN3, Nat.le_add_right _ _, (hN3.g0 g).1, if_pos rfl⟩
    · obtain ⟨c1, c2, c3, c4⟩ := chainR_spec hkd (nothingI g) xs ns3 hN3 hLst (by omega) hx0
      refine ⟨c1, by omega, c3, ?_⟩
      unfold elI
      rw [if_neg, c4]
      intro e
      rw [e, ch_leaf _ (c1.g0 g).2.2] at c4
      exact ((hxs (nothingI g)).1 (by rw [← c4]; simp)).2 rfl
  have hp4 := chainR_pre (kdG g) ns3 (nothingI g) xs.reverse
  have hhave : ∀ r, okId ns3 r → elI g ns3 r = xs → chainR (kdG g) ns3 (nothingI g) xs.reverse = (ns3, r) := fun r hr e => by
    unfold elI at e
    split at e
    · rename_i h0; rw [← e, h0]; rfl
    · rw [← e]; exact chainR_have hkd _ hN3 r hr
  generalize chainR (kdG g) ns3 (nothingI g) xs.reverse = R at hpre hch hp4 hhave ⊢
  obtain ⟨c1, c2, c3, c4⟩ := hch
  have hi : IsG g R.1 R.2 (elOf g ns fun z => z ∈ M) := by
    refine ⟨c3, .inr ?_⟩
    rw [ofId_elI c1, c4, ← hxE]
    refine El.ext' (fun z => ?_) ?_ fun j => ?_
    · exact ⟨fun ⟨h1, h2, h3⟩ => ⟨h1, by rwa [kind_pre hp4 (hLst.ok z h1)] at h2, h3⟩, fun ⟨h1, h2, h3⟩ => ⟨h1, by rwa [kind_pre hp4 (hLst.ok z h1)], h3⟩⟩
    · exact ⟨fun ⟨z, h1, h2⟩ => ⟨z, h1, by rwa [kind_pre hp4 (hLst.ok z h1)] at h2⟩, fun ⟨z, h1, h2⟩ => ⟨z, h1, by rwa [kind_pre hp4 (hLst.ok z h1)]⟩⟩
    · cases g
      · exact ⟨fun ⟨z, h1, h2, h3⟩ => ⟨z, h1, by rwa [kind_pre hp4 (hLst.ok z h1)] at h2, by rwa [node_pre hp4 (hLst.ok z h1)] at h3⟩, fun ⟨z, h1, h2, h3⟩ => ⟨z, h1, by rwa [kind_pre hp4 (hLst.ok z h1)], by rwa [node_pre hp4 (hLst.ok z h1)]⟩⟩
      · exact ⟨fun h z h1 h2 => by have := h z h1 (by rwa [kind_pre hp4 (hLst.ok z h1)]); rwa [node_pre hp4 (hLst.ok z h1)] at this, fun h z h1 h2 => by rw [kind_pre hp4 (hLst.ok z h1)] at h2; rw [node_pre hp4 (hLst.ok z h1)]; exact h z h1 h2⟩
  refine ⟨⟨hpre, c1, hi⟩, by omega, fun r hr => ?_⟩
  have hrR : R.2 = r := hi.uniq c1 (hr.pre hN.ok c1.ok hpre)
  have hr3 := okId_pre hp3 hr.1
  have he : elI g ns3 r = xs := by
    rw [← c4, hrR]
    unfold elI
    split
    · rfl
    · exact (ch_pre hN3.ok c1.ok hp4 (kdG_or3 g) r hr3).symm
  rw [hhave r hr3 he]
  exact ⟨rfl, hlen3⟩
end Go.Proofs.YtpdiljdklllmjaaGreat.ar
