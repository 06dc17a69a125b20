/- norm, plain law: Or, And, Cat, Not, Star match what their parts do, in whatever arena. Conditions: none. -/
import Derived.Test.YtpdiljdklllmjaaGreatNoSem

namespace Go.Proofs.YtpdiljdklllmjaaGreat.ar
open Go Go.Ev Go.Proofs Go.Proofs.YtpdiljdklllmjaaGreat.tabs

section
variable {ws bts : List Int}
theorem tog_congr {g : Bool} {i j : Nat} {Q R : Int → Prop} {f : Int → Tb} (h : ∀ z, Q z ↔ R z) : tog g i j Q f ↔ tog g i j R f := by rw [show Q = R from funext fun z => propext (h z)]
/-- A chain of nodes. -/
theorem chain_sem (g : Bool) {i j : Nat} : ∀ (l : List Int) (ns : List Nd) (out : Int), OkA ns → (∀ z ∈ l, 0 ≤ z → okId ns z) → (0 ≤ out → okId ns out) → (∀ z ∈ l, i64 z) → i64 out → 0 ≤ (chainN (kdG g) ns l out).2 →
    okId (chainN (kdG g) ns l out).1 (chainN (kdG g) ns l out).2 ∧ (∀ z ∈ l, 0 ≤ z) ∧ 0 ≤ out ∧ (T ws bts (chainN (kdG g) ns l out).1 (chainN (kdG g) ns l out).2 i j = true ↔ match g with
      | false => T ws bts ns out i j = true ∨ ∃ z ∈ l, T ws bts ns z i j = true
      | true => T ws bts ns out i j = true ∧ ∀ z ∈ l, T ws bts ns z i j = true)
  | [], ns, out, hO, _, ho, _, _, hr => ⟨ho hr, by simp, hr, by cases g <;> simp [chainN]⟩
  | y :: l, ns, out, hO, hl, ho, hli, hoi, hr => by
    rw [chainN] at hr ⊢
    have hO2 := okA_p hO (inN_P (kd := kdG g) (a := y) (b := out) (kdG_le g) (hli y (by simp)) hoi)
    have hp := pN_pre ns (ndP (kdG g) y out)
    have hpi := pN_i64 hO (ndP (kdG g) y out)
    have hany := pN_any hO (ndP (kdG g) y out)
    generalize pN ns (ndP (kdG g) y out) = q at hr hO2 hp hpi hany ⊢
    have ih := chain_sem g (i := i) (j := j) l q.1 q.2 hO2 (fun z hz h0 => okId_pre hp (hl z (by simp [hz]) h0)) (fun h0 => by
      rcases hany with ⟨e, -⟩ | h
      · omega
      · exact h.ok) (fun z hz => hli z (by simp [hz])) hpi hr
    obtain ⟨h1, h2, h3, h4⟩ := ih
    have hat : At q.1 q.2 (ndP (kdG g) y out) := by
      rcases hany with ⟨e, -⟩ | h
      · omega
      · exact h
    have hright := (right_lt (hat.right hO2)).1 (by cases g; exact .inr (.inl rfl); exact .inr (.inr rfl))
    have hy0 : 0 ≤ y := hright.1.1
    have ho0 : 0 ≤ out := hright.2.1
    refine ⟨h1, fun z hz => ?_, ho0, ?_⟩
    · rcases List.mem_cons.1 hz with rfl | hz
      · exact hy0
      · exact h2 z hz
    · rw [h4]
      have hTy : T ws bts q.1 y = T ws bts ns y := T_pre' hO hO2 hp (hl y (by simp) hy0)
      have hTo : T ws bts q.1 out = T ws bts ns out := T_pre' hO hO2 hp (ho ho0)
      have hTl : ∀ z ∈ l, T ws bts q.1 z = T ws bts ns z := fun z hz => T_pre' hO hO2 hp (hl z (by simp [hz]) (h2 z hz))
      cases g
      · simp only
        rw [T_or hO2 hat rfl, show (ndP (kdG false) y out).a = y from rfl, show (ndP (kdG false) y out).b = out from rfl, hTy, hTo, Bool.or_eq_true]
        constructor
        · rintro ((h | h) | ⟨z, hz, h⟩)
          · exact .inr ⟨y, by simp, h⟩
          · exact .inl h
          · exact .inr ⟨z, by simp [hz], by rw [← hTl z hz]; exact h⟩
        · rintro (h | ⟨z, hz, h⟩)
          · exact .inl (.inr h)
          · rcases List.mem_cons.1 hz with rfl | hz
            · exact .inl (.inl h)
            · exact .inr ⟨z, hz, by rw [hTl z hz]; exact h⟩
      · simp only
        rw [T_and hO2 hat rfl, show (ndP (kdG true) y out).a = y from rfl, show (ndP (kdG true) y out).b = out from rfl, hTy, hTo, Bool.and_eq_true]
        constructor
        · rintro ⟨⟨h, h'⟩, h2'⟩
          refine ⟨h', fun z hz => ?_⟩
          rcases List.mem_cons.1 hz with rfl | hz
          · exact h
          · rw [← hTl z hz]; exact h2' z hz
        · rintro ⟨h, h'⟩
          exact ⟨⟨h' y (by simp), h⟩, fun z hz => by rw [hTl z hz]; exact h' z (by simp [hz])⟩
theorem none_any {ns : List Nd} (hO : OkA ns) : (noneN ns).2 = -1 ∧ (noneN ns).1 = ns ∨ At (noneN ns).1 (noneN ns).2 (ndK 0) := pN_any hO _
theorem all_any {ns : List Nd} (hO : OkA ns) : (allN ns).2 = -1 ∨ 0 ≤ (noneN ns).2 ∧ At (noneN ns).1 (noneN ns).2 (ndK 0) ∧ At (allN ns).1 (allN ns).2 (ndP 6 (noneN ns).2 0) := by
  have ea : allX ns = ndP 6 (noneN ns).2 0 := rfl
  unfold allN
  rw [ea]
  rcases pN_any (okA_none hO) (ndP 6 (noneN ns).2 0) with ⟨e, -⟩ | h
  · exact .inl e
  · have hr := (right_lt (h.right (okA_p (okA_none hO) (inN_P (by omega) (pN_i64 hO _) (by simp [i64]))))).2.1 (.inl rfl)
    have h0 : 0 ≤ (noneN ns).2 := hr.1
    refine .inr ⟨h0, ?_, h⟩
    rcases none_any hO with ⟨e, -⟩ | h'
    · omega
    · exact h'
theorem T_all {ns : List Nd} (hO : OkA ns) {z y : Int} (h : At ns z (ndP 6 y 0)) (hy : At ns y (ndK 0)) (i j : Nat) : T ws bts ns z i j = decide (i ≤ j) := by
  rw [T_not hO h rfl, show (ndP 6 y 0).a = y from rfl, T_none hO hy rfl]
  simp [nonT]
def noT (g : Bool) (i j : Nat) : Bool := match g with | false => false | true => decide (i ≤ j)
def wiT (g : Bool) (i j : Nat) : Bool := match g with | true => false | false => decide (i ≤ j)
def wiK (g : Bool) : Int := match g with | true => 0 | false => 6
/-- What counts for nothing, and what takes all, where they are there. -/
theorem nw_sem {ns : List Nd} (hO : OkA ns) (g : Bool) {ns' : List Nd} (hO' : OkA ns') (hp : (winsN g (nothingN g ns).1).1 <+: ns') {i j : Nat} :
    (0 ≤ (nothingN g ns).2 → okId ns' (nothingN g ns).2 ∧ T ws bts ns' (nothingN g ns).2 i j = noT g i j) ∧
    (0 ≤ (winsN g (nothingN g ns).1).2 → okId ns' (winsN g (nothingN g ns).1).2 ∧ T ws bts ns' (winsN g (nothingN g ns).1).2 i j = wiT g i j ∧ kindN ns' (winsN g (nothingN g ns).1).2 = wiK g) := by
  have hA : ∀ {m : List Nd}, OkA m → (allN m).1 <+: ns' → 0 ≤ (allN m).2 → okId ns' (allN m).2 ∧ T ws bts ns' (allN m).2 i j = decide (i ≤ j) ∧ kindN ns' (allN m).2 = 6 := fun {m} hm hp h0 => by
    rcases all_any hm with e | ⟨h1, h2, h3⟩
    · omega
    · have h3' := h3.pre hp
      have h2' := (h2.pre (pN_pre _ (allX m))).pre hp
      exact ⟨h3'.ok, T_all hO' h3' h2' i j, h3'.kind⟩
  have hN : ∀ {m : List Nd}, OkA m → (noneN m).1 <+: ns' → 0 ≤ (noneN m).2 → okId ns' (noneN m).2 ∧ T ws bts ns' (noneN m).2 i j = false ∧ kindN ns' (noneN m).2 = 0 := fun {m} hm hp h0 => by
    rcases none_any hm with ⟨e, -⟩ | h
    · omega
    · exact ⟨(h.pre hp).ok, by rw [T_none hO' (h.pre hp) rfl]; rfl, (h.pre hp).kind⟩
  cases g
  · refine ⟨fun h => ?_, hA (okA_none hO) hp⟩
    have := hN hO ((all_pre _).trans hp) h
    exact ⟨this.1, this.2.1⟩
  · refine ⟨fun h => ?_, hN (okA_all hO) hp⟩
    have := hA hO ((none_pre _).trans hp) h
    exact ⟨this.1, this.2.1⟩
/-- Or and And match what their parts do together. -/
theorem gput_sem (g : Bool) {ns : List Nd} (hO : OkA ns) (l : List Int) (hno : g = true → 0 ≤ (allN ns).2) (hr : 0 ≤ (gputN g ns l).2) :
    okId (gputN g ns l).1 (gputN g ns l).2 ∧ (∀ z ∈ l, okId ns z) ∧ ∀ {i j : Nat}, i < ws.length + 1 → j < ws.length + 1 → (T ws bts (gputN g ns l).1 (gputN g ns l).2 i j = true ↔ tog g i j (fun z => z ∈ l) (T ws bts ns)) := by
  have hOr := okA_gput hO g l
  have hpre := gput_pre g ns l
  unfold gputN at hr hOr hpre ⊢
  by_cases hth : thereN ns l = false
  · rw [if_pos hth] at hr; simp at hr
  rw [if_neg hth] at hr hOr hpre ⊢
  have hid := there_ok hth
  have hp2 := (nothing_pre g ns).trans (wins_pre g (nothingN g ns).1)
  have hO1 := okA_nothing hO g
  have hO2 := okA_wins hO1 g
  have hnw := fun {i j : Nat} {ns' : List Nd} hO' hp => nw_sem (ws := ws) (bts := bts) hO g (ns' := ns') hO' hp (i := i) (j := j)
  have hwi := wins_i64 hO1 g
  have hnoi := nothing_i64 hO g
  have hno2 : g = true → 0 ≤ (nothingN g ns).2 := fun h => by subst h; exact hno rfl
  have hnw2 : (nothingN g ns).2 = -1 → g = false → (winsN g (nothingN g ns).1).2 = -1 := fun h e => by
    subst e
    rcases all_any (ns := (noneN ns).1) (okA_none hO) with h' | ⟨h1, h2, -⟩
    · exact h'
    · exfalso
      rcases none_any hO with ⟨-, e2⟩ | h'
      · rw [e2] at h1
        have : (noneN ns).2 = -1 := h
        omega
      · have := h'.1
        have h4 : (noneN ns).2 = -1 := h
        omega
  generalize hn1 : (nothingN g ns).2 = no at *
  generalize hns1 : (nothingN g ns).1 = ns1 at *
  generalize hwi2 : (winsN g ns1).2 = wi at *
  generalize hns2 : (winsN g ns1).1 = ns2 at *
  have hid2 : ∀ z ∈ l, okId ns2 z := fun z hz => okId_pre hp2 (hid z hz)
  have hmok := memN_ok hO2 (kdG_or g) hid2
  have hmem : ∀ z, z ∈ memN ns2 (kdG g) l ↔ ∃ x ∈ l, Mb ns2 (kdG g) x z := memN_iff hO2 (kdG_or g) hid2
  -- what the members match together
  have hM : ∀ {i j : Nat}, i < ws.length + 1 → j < ws.length + 1 → (tog g i j (fun z => z ∈ memN ns2 (kdG g) l) (T ws bts ns2) ↔ tog g i j (fun z => z ∈ l) (T ws bts ns)) := fun {i j} hi hj => by
    have hx := fun x hx => mb_tog (ws := ws) (bts := bts) hO2 g hi hj (x.toNat + 1) x (Nat.lt_succ_self _) (hid2 x hx)
    have hT := fun x hx => T_pre' (ws := ws) (bts := bts) hO hO2 hp2 (hid x hx)
    cases g
    · constructor
      · rintro ⟨z, h1, h2⟩
        obtain ⟨x, h3, h4⟩ := (hmem z).1 h1
        exact ⟨x, h3, by rw [← hT x h3]; exact (hx x h3).2 ⟨z, h4, h2⟩⟩
      · rintro ⟨x, h3, h4⟩
        rw [← hT x h3] at h4
        obtain ⟨z, h5, h6⟩ := (hx x h3).1 h4
        exact ⟨z, (hmem z).2 ⟨x, h3, h5⟩, h6⟩
    · constructor
      · rintro ⟨h0, h1⟩
        refine ⟨h0, fun x h3 => ?_⟩
        rw [← hT x h3]
        exact (hx x h3).2 ⟨h0, fun z hz => h1 z ((hmem z).2 ⟨x, h3, hz⟩)⟩
      · rintro ⟨h0, h1⟩
        refine ⟨h0, fun z hz => ?_⟩
        obtain ⟨x, h3, h4⟩ := (hmem z).1 hz
        have := h1 x h3
        rw [← hT x h3] at this
        exact ((hx x h3).1 this).2 z h4
  generalize memN ns2 (kdG g) l = M at *
  -- with the sets of bytes as one
  have hsq := split_sq g ns2 M
  have hO3 := okA_gbytes hO2 g M
  have hp3 := gbytes_pre g ns2 M
  have hbi := gbytes_i64 hO2 g hmok
  have hl3 : (∀ z ∈ (gbytesN g ns2 M).2, 0 ≤ z → okId (gbytesN g ns2 M).1 z) ∧ ((∀ z ∈ (gbytesN g ns2 M).2, 0 ≤ z) → ∀ {i j : Nat}, i < ws.length + 1 → j < ws.length + 1 → (tog g i j (fun z => z ∈ (gbytesN g ns2 M).2) (T ws bts (gbytesN g ns2 M).1) ↔ tog g i j (fun z => z ∈ M) (T ws bts ns2))) ∧
      (wi ∈ (gbytesN g ns2 M).2 → 0 ≤ wi → wi ∈ M ∨ g = true ∧ ∀ {i j : Nat}, ¬ tog g i j (fun z => z ∈ M) (T ws bts ns2)) := by
    unfold gbytesN at hO3 hp3 ⊢
    obtain ⟨s1, s2⟩ := hsq
    have hbyte : ∀ z ∈ M, kindN ns2 z = 2 → ∀ i j, T ws bts ns2 z i j = (decide (j = i + 1) && bitB (setOf (nodeN ns2 z).1) (byteAt ws i)) := fun z hz hk i j => by
      obtain ⟨x, h1, h2⟩ := (hmok z hz).at
      rw [T_bytes hO2 h1 (by rw [← h1.kind]; exact hk), h2]
    have hsin := splitN_in g hO2 M
    generalize splitN g ns2 M = p at *
    obtain ⟨out, so⟩ := p
    cases so with
    | none =>
      simp only at s1 s2 hO3 hp3 ⊢
      have ho : ∀ z, z ∈ out ↔ z ∈ M := fun z => by rw [s1 z]; exact ⟨fun h => h.1, fun h => ⟨h, fun hk => s2 ⟨z, h, hk⟩⟩⟩
      exact ⟨fun z hz _ => hmok z ((ho z).1 hz), fun _ {i j} _ _ => tog_congr ho, fun h _ => .inl ((ho wi).1 h)⟩
    | some s =>
      simp only at s1 s2 hO3 hp3 ⊢
      obtain ⟨⟨zb, hzb1, hzb2⟩, s4⟩ := s2
      have hom : ∀ z ∈ out, z ∈ M := fun z hz => ((s1 z).1 hz).1
      -- the node of the bytes
      have hb : (bytesN ns2 s).2 = -1 ∨ okId (bytesN ns2 s).1 (bytesN ns2 s).2 ∧ (∀ i j, T ws bts (bytesN ns2 s).1 (bytesN ns2 s).2 i j = (decide (j = i + 1) && bitB s (byteAt ws i))) ∧ (s = z4 ∨ kindN (bytesN ns2 s).1 (bytesN ns2 s).2 = 2) := by
        unfold bytesN at hO3 ⊢
        by_cases hz : s = z4
        · rw [if_pos hz] at hO3 ⊢
          rcases none_any hO2 with ⟨e, -⟩ | h
          · exact .inl e
          · refine .inr ⟨h.ok, fun i j => ?_, .inl hz⟩
            rw [T_none hO3 h rfl, hz, bitB_z, Bool.and_false]; rfl
        · rw [if_neg hz] at hO3 ⊢
          rcases pN_any hO2 (ndB s) with ⟨e, -⟩ | h
          · exact .inl e
          · exact .inr ⟨h.ok, fun i j => T_bytes hO3 h rfl i j, .inr h.kind⟩
      refine ⟨fun z hz h0 => ?_, fun hall {i j} hi hj => ?_, fun hw h0 => ?_⟩
      · rcases List.mem_append.1 hz with hz | hz
        · exact okId_pre hp3 (hmok z (hom z hz))
        · rw [List.mem_singleton.1 hz] at h0 ⊢
          rcases hb with e | h
          · omega
          · exact h.1
      · have hb0 := hall (bytesN ns2 s).2 (by simp)
        obtain ⟨b1, b2, -⟩ : okId (bytesN ns2 s).1 (bytesN ns2 s).2 ∧ _ := by
          rcases hb with e | h
          · omega
          · exact h
        have hTo : ∀ z ∈ out, T ws bts (bytesN ns2 s).1 z = T ws bts ns2 z := fun z hz => T_pre' hO2 hO3 hp3 (hmok z (hom z hz))
        cases g
        · constructor
          · rintro ⟨z, h1, h2⟩
            rcases List.mem_append.1 h1 with h1 | h1
            · rw [hTo z h1] at h2; exact ⟨z, hom z h1, h2⟩
            · rw [List.mem_singleton.1 h1, b2 i j, Bool.and_eq_true] at h2
              obtain ⟨y, k1, k2, k3⟩ := (s4 _).1 h2.2
              exact ⟨y, k1, by rw [hbyte y k1 k2, Bool.and_eq_true]; exact ⟨h2.1, k3⟩⟩
          · rintro ⟨z, h1, h2⟩
            by_cases hk : kindN ns2 z = 2
            · rw [hbyte z h1 hk, Bool.and_eq_true] at h2
              exact ⟨_, List.mem_append.2 (.inr (List.mem_singleton.2 rfl)), by rw [b2 i j, Bool.and_eq_true]; exact ⟨h2.1, (s4 _).2 ⟨z, h1, hk, h2.2⟩⟩⟩
            · have ho := (s1 z).2 ⟨h1, hk⟩
              exact ⟨z, by simp [ho], by rw [hTo z ho]; exact h2⟩
        · constructor
          · rintro ⟨h0, h1⟩
            refine ⟨h0, fun z hz => ?_⟩
            by_cases hk : kindN ns2 z = 2
            · have := h1 _ (List.mem_append.2 (.inr (List.mem_singleton.2 rfl)))
              rw [b2 i j, Bool.and_eq_true] at this
              rw [hbyte z hz hk, Bool.and_eq_true]
              exact ⟨this.1, (s4 _).1 this.2 z hz hk⟩
            · have ho := (s1 z).2 ⟨hz, hk⟩
              rw [← hTo z ho]; exact h1 z (by simp [ho])
          · rintro ⟨h0, h1⟩
            refine ⟨h0, fun z hz => ?_⟩
            rcases List.mem_append.1 hz with hz | hz
            · rw [hTo z hz]; exact h1 z (hom z hz)
            · rw [List.mem_singleton.1 hz, b2 i j, Bool.and_eq_true]
              have := h1 zb hzb1
              rw [hbyte zb hzb1 hzb2, Bool.and_eq_true] at this
              refine ⟨this.1, (s4 _).2 fun y hy hk => ?_⟩
              have := h1 y hy
              rw [hbyte y hy hk, Bool.and_eq_true] at this
              exact this.2
      · rcases List.mem_append.1 hw with hw | hw
        · exact .inl (hom wi hw)
        · have ew := List.mem_singleton.1 hw
          have hk := (hnw (i := 0) (j := 0) hO3 hp3).2 h0
          rw [ew] at hk h0
          rcases hb with e | ⟨-, b2, b3⟩
          · omega
          · cases g
            · exfalso
              have hk := hk.2.2
              change kindN _ _ = 6 at hk
              rcases b3 with hz | b3
              · have e : bytesN ns2 s = noneN ns2 := by unfold bytesN; rw [if_pos hz]
                rw [e] at hk h0
                rcases none_any hO2 with ⟨e', -⟩ | h'
                · omega
                · rw [h'.kind] at hk; exact absurd hk (by decide)
              · rw [b3] at hk; exact absurd hk (by decide)
            · refine .inr ⟨rfl, fun {i j} ⟨_, h1⟩ => ?_⟩
              have hk := hk.2.2
              change kindN _ _ = 0 at hk
              have hz : s = z4 := by
                rcases b3 with hz | b3
                · exact hz
                · rw [b3] at hk; exact absurd hk (by decide)
              have := h1 zb hzb1
              rw [hbyte zb hzb1 hzb2, Bool.and_eq_true] at this
              have h5 := (s4 (byteAt ws i)).2 fun y hy hk => by
                have := h1 y hy
                rw [hbyte y hy hk, Bool.and_eq_true] at this
                exact this.2
              rw [hz, bitB_z] at h5; cases h5
  obtain ⟨hl3a, hl3b, hl3c⟩ := hl3
  generalize (gbytesN g ns2 M).1 = ns3 at *
  generalize (gbytesN g ns2 M).2 = l3 at *
  unfold restN at hr hOr hpre ⊢
  by_cases hw : wi ∈ l3
  · rw [if_pos hw] at hr hOr hpre ⊢
    simp only at hr hOr hpre ⊢
    have hk := fun {i j : Nat} => (hnw (i := i) (j := j) hO3 hp3).2 hr
    refine ⟨(hk (i := 0) (j := 0)).1, hid, fun {i j} hi hj => ?_⟩
    rw [(hk (i := i) (j := j)).2.1, ← hM hi hj]
    have hTw := (hnw (i := i) (j := j) hO2 (List.prefix_refl _)).2 hr
    rcases hl3c hw hr with h | ⟨rfl, h⟩
    · cases g
      · constructor
        · intro hij; exact ⟨wi, h, by rw [hTw.2.1]; exact hij⟩
        · rintro ⟨z, h1, h2⟩; exact decide_eq_true (T_upt hO2 (hmok z h1) i j hi hj h2)
      · constructor
        · intro h'; cases h'
        · rintro ⟨_, h1⟩
          have := h1 wi h
          rw [hTw.2.1] at this; exact this
    · exact ⟨fun h' => (by cases h'), fun h' => absurd h' h⟩
  · rw [if_neg hw] at hr hOr hpre ⊢
    have hxi : ∀ z ∈ csd no l3, z ∈ l3 ∧ z ≠ no := fun z => (csd_iff no l3 z).1
    have hxo : ∀ z, z ∈ l3 → z ≠ no → z ∈ csd no l3 := fun z h1 h2 => (csd_iff no l3 z).2 ⟨h1, h2⟩
    change 0 ≤ (chainR (kdG g) ns3 no (csd no l3).reverse).2 at hr
    change ns <+: (chainR (kdG g) ns3 no (csd no l3).reverse).1 at hpre
    show okId (chainR (kdG g) ns3 no (csd no l3).reverse).1 (chainR (kdG g) ns3 no (csd no l3).reverse).2 ∧ _ ∧ ∀ {i j : Nat}, _ → _ → (T ws bts (chainR (kdG g) ns3 no (csd no l3).reverse).1 (chainR (kdG g) ns3 no (csd no l3).reverse).2 i j = true ↔ _)
    -- what counts for nothing was struck
    have hno3 : no ∈ l3 → 0 ≤ no := fun hm => by
      cases g
      · rcases Int.lt_or_le no 0 with h | h
        · exfalso
          have : no = -1 := by
            have := pN_any hO (ndK 0)
            rcases this with ⟨e, -⟩ | h'
            · exact hn1.symm.trans e
            · have := h'.1
              have e : (noneN ns).2 = no := hn1
              have e2 : (pN ns (ndK 0)).2 = no := e
              omega
          rw [hnw2 this rfl] at hw
          exact hw (this ▸ hm)
        · exact h
      · exact hno2 rfl
    have hdrop : (∀ z ∈ csd no l3, 0 ≤ z) → ∀ {i j : Nat}, i < ws.length + 1 → j < ws.length + 1 → (tog g i j (fun z => z ∈ csd no l3) (T ws bts ns3) ↔ tog g i j (fun z => z ∈ l) (T ws bts ns)) := fun hall {i j} hi hj => by
      have h3 : ∀ z ∈ l3, 0 ≤ z := fun z hz => by
        by_cases e : z = no
        · rw [e]; exact hno3 (e ▸ hz)
        · exact hall z (hxo z hz e)
      rw [← hM hi hj, ← hl3b h3 hi hj]
      cases g
      · constructor
        · rintro ⟨z, h1, h2⟩; exact ⟨z, (hxi z h1).1, h2⟩
        · rintro ⟨z, h1, h2⟩
          refine ⟨z, hxo z h1 fun e => ?_, h2⟩
          rw [e] at h1 h2
          have := (hnw (i := i) (j := j) hO3 hp3).1 (hno3 h1)
          rw [this.2] at h2; cases h2
      · constructor
        · rintro ⟨h0, h1⟩
          refine ⟨h0, fun z hz => ?_⟩
          by_cases e : z = no
          · rw [e] at hz ⊢
            have := (hnw (i := i) (j := j) hO3 hp3).1 (hno3 hz)
            rw [this.2]; exact decide_eq_true h0
          · exact h1 z (hxo z hz e)
        · rintro ⟨h0, h1⟩; exact ⟨h0, fun z hz => h1 z (hxi z hz).1⟩
    have hxi64 : ∀ z ∈ csd no l3, i64 z := fun z hz => hbi z (hxi z hz).1
    have hxok : ∀ z ∈ csd no l3, 0 ≤ z → okId ns3 z := fun z hz h0 => hl3a z (hxi z hz).1 h0
    clear hxi hxo
    generalize hxs : (csd no l3).reverse = xs at hr hpre ⊢
    have hmx : ∀ z, z ∈ csd no l3 ↔ z ∈ xs := fun z => by rw [← hxs, List.mem_reverse]
    cases xs with
    | nil =>
      have hr' : 0 ≤ no := hr
      have hk := fun {i j : Nat} => (hnw (i := i) (j := j) hO3 hp3).1 hr'
      refine ⟨(hk (i := 0) (j := 0)).1, hid, fun {i j} hi hj => ?_⟩
      rw [← hdrop (fun z hz => absurd ((hmx z).1 hz) (by simp)) hi hj]
      show T ws bts ns3 no i j = true ↔ _
      rw [(hk (i := i) (j := j)).2]
      cases g
      · exact ⟨fun h => (by cases h), fun ⟨z, hz, _⟩ => absurd ((hmx z).1 hz) (by simp)⟩
      · exact ⟨fun h => ⟨of_decide_eq_true h, fun z hz => absurd ((hmx z).1 hz) (by simp)⟩, fun h => decide_eq_true h.1⟩
    | cons y xs =>
      have hr' : 0 ≤ (chainN (kdG g) ns3 xs y).2 := hr
      have hc := fun {i j : Nat} => chain_sem (ws := ws) (bts := bts) g (i := i) (j := j) xs ns3 y hO3 (fun z hz => hxok z ((hmx z).2 (by simp [hz]))) (hxok y ((hmx y).2 (by simp))) (fun z hz => hxi64 z ((hmx z).2 (by simp [hz]))) (hxi64 y ((hmx y).2 (by simp))) hr'
      obtain ⟨h1, h2, h3, -⟩ := hc (i := 0) (j := 0)
      refine ⟨h1, hid, fun {i j} hi hj => ?_⟩
      rw [← hdrop (fun z hz => by
        rcases List.mem_cons.1 ((hmx z).1 hz) with rfl | hz
        · exact h3
        · exact h2 z hz) hi hj]
      show T ws bts (chainN (kdG g) ns3 xs y).1 (chainN (kdG g) ns3 xs y).2 i j = true ↔ _
      rw [(hc (i := i) (j := j)).2.2.2]
      cases g
      · constructor
        · rintro (h | ⟨z, hz, h⟩)
          · exact ⟨y, (hmx y).2 (by simp), h⟩
          · exact ⟨z, (hmx z).2 (by simp [hz]), h⟩
        · rintro ⟨z, hz, h⟩
          rcases List.mem_cons.1 ((hmx z).1 hz) with rfl | hz
          · exact .inl h
          · exact .inr ⟨z, hz, h⟩
      · constructor
        · rintro ⟨h, h'⟩
          have hy := hxok y ((hmx y).2 (by simp)) h3
          refine ⟨T_upt hO3 hy i j hi hj h, fun z hz => ?_⟩
          rcases List.mem_cons.1 ((hmx z).1 hz) with rfl | hz
          · exact h
          · exact h' z hz
        · rintro ⟨_, h⟩
          exact ⟨h y ((hmx y).2 (by simp)), fun z hz => h z ((hmx z).2 (by simp [hz]))⟩
end
end Go.Proofs.YtpdiljdklllmjaaGreat.ar
