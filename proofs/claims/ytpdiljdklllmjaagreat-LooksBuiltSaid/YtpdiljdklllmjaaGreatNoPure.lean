/- norm, plain law: arenas, members, lists. Conditions: none. -/
import Derived.Test.YtpdiljdklllmjaaGreatNoOps

namespace Go.Proofs.YtpdiljdklllmjaaGreat.ar
open Go Go.Ev Go.Proofs

/-! ### Nodes of an arena -/
theorem right_mono {x : Nd} {n n' : Nat} (h : rightN x n = true) (hn : n ≤ n') : rightN x n' = true := by
  unfold rightN at *
  split at h
  · rw [if_pos (by assumption)]; exact h
  rename_i h1
  rw [if_neg h1]
  split at h
  · rw [if_pos (by assumption)]; exact h
  rename_i h2
  rw [if_neg h2]
  split at h
  · rename_i h3
    rw [if_pos h3]
    simp only [Bool.and_eq_true, decide_eq_true_eq] at h ⊢
    exact ⟨by omega, h.2⟩
  rename_i h3
  rw [if_neg h3]
  split at h
  · rename_i h4
    rw [if_pos h4]
    simp only [Bool.and_eq_true, decide_eq_true_eq] at h ⊢
    exact ⟨by omega, h.2⟩
  rename_i h4
  rw [if_neg h4]
  exact h
/-- What a node is. -/
def At (ns : List Nd) (z : Int) (x : Nd) : Prop := 0 ≤ z ∧ ns[z.toNat]? = some x
theorem At.ok {ns : List Nd} {z : Int} {x : Nd} (h : At ns z x) : okId ns z := by
  have := (List.getElem?_eq_some_iff.1 h.2).1
  have := h.1
  unfold okId; omega
theorem At.node {ns : List Nd} {z : Int} {x : Nd} (h : At ns z x) : nodeN ns z = (x, true) := by
  obtain ⟨y, e1, e2⟩ := nodeN_ok h.ok
  rw [e1]; rw [h.2] at e2; cases e2; rfl
theorem At.kind {ns : List Nd} {z : Int} {x : Nd} (h : At ns z x) : kindN ns z = x.k := by unfold kindN; rw [h.node]
theorem okId.at {ns : List Nd} {z : Int} (h : okId ns z) : ∃ x, At ns z x ∧ nodeN ns z = (x, true) := by
  obtain ⟨x, e1, e2⟩ := nodeN_ok h
  exact ⟨x, ⟨h.1, e2⟩, e1⟩
theorem At.pre {ns ns' : List Nd} (hp : ns <+: ns') {z : Int} {x : Nd} (h : At ns z x) : At ns' z x := by
  obtain ⟨t, rfl⟩ := hp
  exact ⟨h.1, by rw [List.getElem?_append_left (List.getElem?_eq_some_iff.1 h.2).1]; exact h.2⟩
theorem node_pre {ns ns' : List Nd} (hp : ns <+: ns') {z : Int} (h : okId ns z) : nodeN ns' z = nodeN ns z := by
  obtain ⟨x, h1, h2⟩ := h.at
  rw [(h1.pre hp).node, h2]
theorem kind_pre {ns ns' : List Nd} (hp : ns <+: ns') {z : Int} (h : okId ns z) : kindN ns' z = kindN ns z := by unfold kindN; rw [node_pre hp h]
theorem At.inj {ns : List Nd} (hO : OkA ns) {z y : Int} {x : Nd} (h : At ns z x) (k : At ns y x) : z = y := by
  have e : ns[z.toNat]? = ns[y.toNat]? := by rw [h.2, k.2]
  have := (List.getElem?_inj (List.getElem?_eq_some_iff.1 h.2).1 hO.nodup).1 e
  have := h.1; have := k.1; omega
theorem At.right {ns : List Nd} (hO : OkA ns) {z : Int} {x : Nd} (h : At ns z x) : rightN x z.toNat = true := hO.right _ _ h.2
/-- What Put tells. -/
theorem pN_have {ns : List Nd} (hO : OkA ns) {z : Int} {x : Nd} (h : At ns z x) : pN ns x = (ns, z) := by
  have hl := (List.getElem?_eq_some_iff.1 h.2).1
  have hr := right_mono (h.right hO) (Nat.le_of_lt hl)
  have hm : x ∈ ns := List.mem_of_getElem? h.2
  have hi : ns.idxOf x = z.toNat := by
    rw [← (List.getElem?_eq_some_iff.1 h.2).2]
    exact hO.nodup.idxOf_getElem _ hl
  have e : putN ns x = (ns, z.toNat, 0) := by
    unfold putN
    rw [if_neg (by rw [hr]; decide), if_pos hm, hi]
  unfold pN putI
  rw [e]
  simp only [if_true]
  congr 1
  have := h.1; omega
theorem pN_new {ns : List Nd} {x : Nd} (h : rightN x ns.length = true) (hm : x ∉ ns) (hn : ns.length < 20000) : pN ns x = (ns ++ [x], (ns.length : Int)) := by
  have e : putN ns x = (ns ++ [x], ns.length, 0) := by
    unfold putN
    rw [if_neg (by rw [h]; decide), if_neg hm, if_neg (by omega)]
  unfold pN putI
  rw [e]
  rfl
theorem at_new (ns : List Nd) (x : Nd) : At (ns ++ [x]) (ns.length : Int) x := ⟨by omega, by rw [Int.toNat_natCast, List.getElem?_append_right (Nat.le_refl _), Nat.sub_self]; rfl⟩
/-- Put: the node that is there, or a new one. -/
theorem pN_spec {ns : List Nd} (hO : OkA ns) {x : Nd} (h : rightN x ns.length = true) (hn : ns.length < 20000) :
    At (pN ns x).1 (pN ns x).2 x ∧ ((pN ns x).1 = ns ∨ (pN ns x).1 = ns ++ [x] ∧ x ∉ ns) := by
  by_cases hm : x ∈ ns
  · obtain ⟨i, hi, e⟩ := List.getElem_of_mem hm
    have hat : At ns (i : Int) x := ⟨by omega, by rw [Int.toNat_natCast, List.getElem?_eq_getElem hi, e]⟩
    rw [pN_have hO hat]
    exact ⟨hat, .inl rfl⟩
  · rw [pN_new h hm hn]
    exact ⟨at_new ns x, .inr ⟨rfl, hm⟩⟩
/-- Put, in whatever arena: no number, or the node's. -/
theorem pN_any {ns : List Nd} (hO : OkA ns) (x : Nd) : (pN ns x).2 = -1 ∧ (pN ns x).1 = ns ∨ At (pN ns x).1 (pN ns x).2 x := by
  by_cases h : rightN x ns.length = true
  · by_cases hm : x ∈ ns
    · right
      obtain ⟨i, hi, e⟩ := List.getElem_of_mem hm
      have hat : At ns (i : Int) x := ⟨by omega, by rw [Int.toNat_natCast, List.getElem?_eq_getElem hi, e]⟩
      rw [pN_have hO hat]
      exact hat
    · by_cases hn : ns.length < 20000
      · right; exact (pN_spec hO h hn).1
      · left
        have e : putN ns x = (ns, 0, 4) := by
          unfold putN
          rw [if_neg (by rw [h]; decide), if_neg hm, if_pos (by omega)]
        unfold pN putI
        rw [e]
        exact ⟨rfl, rfl⟩
  · left
    have e : putN ns x = (ns, 0, 1) := by
      unfold putN
      rw [if_pos (by cases hh : rightN x ns.length; rfl; exact absurd hh h)]
    unfold pN putI
    rw [e]
    exact ⟨rfl, rfl⟩
theorem gbytes_pre (g : Bool) (ns : List Nd) (l : List Int) : ns <+: (gbytesN g ns l).1 := by
  unfold gbytesN
  split
  · exact List.prefix_refl _
  · exact bytesN_pre _ _
theorem chain_pre (kd : Int) : ∀ (l : List Int) (ns : List Nd) (out : Int), ns <+: (chainN kd ns l out).1
  | [], ns, _ => List.prefix_refl _
  | z :: l, ns, out => (pN_pre ns _).trans (chain_pre kd l _ _)
theorem chainR_pre (kd : Int) (ns : List Nd) (no : Int) (l : List Int) : ns <+: (chainR kd ns no l).1 := by
  cases l with
  | nil => exact List.prefix_refl _
  | cons z l => exact chain_pre kd l ns z
theorem rest_pre (g : Bool) (ns : List Nd) (l : List Int) (no wi : Int) : ns <+: (restN g ns l no wi).1 := by
  unfold restN
  split
  · exact List.prefix_refl _
  · exact chainR_pre _ _ _ _
theorem gput_pre (g : Bool) (ns : List Nd) (l : List Int) : ns <+: (gputN g ns l).1 := by
  unfold gputN
  split
  · exact List.prefix_refl _
  · exact (nothing_pre g ns).trans ((wins_pre g _).trans ((gbytes_pre g _ _).trans (rest_pre g _ _ _ _)))
theorem catF_pre : ∀ (k : Nat) (ns : List Nd) (x y : Int), ns <+: (catF k ns x y).1
  | 0, ns, x, y => List.prefix_refl _
  | k + 1, ns, x, y => by
    rw [catF]
    split
    · split
      · exact none_pre ns
      split
      · exact List.prefix_refl _
      split
      · exact List.prefix_refl _
      split
      · exact (catF_pre k _ _ _).trans (catF_pre k _ _ _)
      · exact pN_pre _ _
    · exact List.prefix_refl _
theorem notN_pre (ns : List Nd) (x : Int) : ns <+: (notN ns x).1 := by
  unfold notN
  split
  · split
    · exact List.prefix_refl _
    · exact pN_pre _ _
  · exact List.prefix_refl _
theorem starN_pre (ns : List Nd) (x : Int) : ns <+: (starN ns x).1 := by
  unfold starN
  split
  · split
    · exact pN_pre _ _
    split
    · exact List.prefix_refl _
    · exact pN_pre _ _
  · exact List.prefix_refl _

/-! ### Members -/
/-- A member of a kind, all the way down. -/
inductive Mb (ns : List Nd) (kd : Int) : Int → Int → Prop
  | leaf {x : Int} : kindN ns x ≠ kd → Mb ns kd x x
  | a {x z : Int} : kindN ns x = kd → Mb ns kd (nodeN ns x).1.a z → Mb ns kd x z
  | b {x z : Int} : kindN ns x = kd → Mb ns kd (nodeN ns x).1.b z → Mb ns kd x z
theorem Mb.kind {ns : List Nd} {kd x z : Int} (h : Mb ns kd x z) : kindN ns z ≠ kd := by
  induction h with
  | leaf h => exact h
  | a _ _ ih => exact ih
  | b _ _ ih => exact ih
theorem Mb.at_leaf {ns : List Nd} {kd x z : Int} (hk : kindN ns x ≠ kd) (h : Mb ns kd x z) : z = x := by
  cases h with
  | leaf _ => rfl
  | a h _ => exact absurd h hk
  | b h _ => exact absurd h hk
theorem memF_sound {ns : List Nd} {kd : Int} : ∀ (k : Nat) (st out seen res : List Int), memF ns kd k st out seen = some res → ∀ z ∈ res, z ∈ out ∨ ∃ x ∈ st, Mb ns kd x z := by
  intro k
  induction k with
  | zero => intro st out seen res h; cases h
  | succ k ih =>
    intro st out seen res h z hz
    cases st with
    | nil => rw [memF] at h; cases h; exact .inl hz
    | cons id st =>
      rw [memF] at h
      split at h
      · rcases ih _ _ _ _ h z hz with h1 | ⟨x, hx, h1⟩
        · exact .inl h1
        · exact .inr ⟨x, by simp [hx], h1⟩
      split at h
      · rename_i hk
        rcases ih _ _ _ _ h z hz with h1 | ⟨x, hx, h1⟩
        · exact .inl h1
        · rcases List.mem_cons.1 hx with rfl | hx
          · exact .inr ⟨id, by simp, .b hk h1⟩
          rcases List.mem_cons.1 hx with rfl | hx
          · exact .inr ⟨id, by simp, .a hk h1⟩
          · exact .inr ⟨x, by simp [hx], h1⟩
      · rename_i hk
        rcases ih _ _ _ _ h z hz with h1 | ⟨x, hx, h1⟩
        · rcases List.mem_append.1 h1 with h1 | h1
          · exact .inl h1
          · rw [List.mem_singleton.1 h1]; exact .inr ⟨id, by simp, .leaf hk⟩
        · exact .inr ⟨x, by simp [hx], h1⟩
def Closed (ns : List Nd) (kd : Int) (st out seen : List Int) : Prop :=
  ∀ s ∈ seen, if kindN ns s = kd then ((nodeN ns s).1.a ∈ seen ∨ (nodeN ns s).1.a ∈ st) ∧ ((nodeN ns s).1.b ∈ seen ∨ (nodeN ns s).1.b ∈ st) else s ∈ out
theorem memF_closed {ns : List Nd} {kd : Int} : ∀ (k : Nat) (st out seen res : List Int), memF ns kd k st out seen = some res → Closed ns kd st out seen → ∃ sf, (∀ x ∈ st, x ∈ sf) ∧ (∀ x ∈ seen, x ∈ sf) ∧ Closed ns kd [] res sf := by
  intro k
  induction k with
  | zero => intro st out seen res h; cases h
  | succ k ih =>
    intro st out seen res h hc
    cases st with
    | nil => rw [memF] at h; cases h; exact ⟨seen, by simp, fun _ h => h, hc⟩
    | cons id st =>
      rw [memF] at h
      split at h
      · rename_i hm
        have hc2 : Closed ns kd st out seen := fun s hs => by
          have h1 := hc s hs
          split
          · rename_i hk
            rw [if_pos hk] at h1
            refine ⟨h1.1.elim .inl fun h2 => ?_, h1.2.elim .inl fun h2 => ?_⟩
            · rcases List.mem_cons.1 h2 with h2 | h2
              · rw [h2]; exact .inl hm
              · exact .inr h2
            · rcases List.mem_cons.1 h2 with h2 | h2
              · rw [h2]; exact .inl hm
              · exact .inr h2
          · rename_i hk
            rw [if_neg hk] at h1
            exact h1
        obtain ⟨sf, h1, h2, h3⟩ := ih _ _ _ _ h hc2
        exact ⟨sf, fun x hx => (List.mem_cons.1 hx).elim (fun e => h2 x (e ▸ hm)) (h1 x), h2, h3⟩
      split at h
      · rename_i hk
        have hc2 : Closed ns kd ((nodeN ns id).1.b :: (nodeN ns id).1.a :: st) out (seen ++ [id]) := fun s hs => by
          rcases List.mem_append.1 hs with hs | hs
          · have h1 := hc s hs
            split
            · rename_i hk
              rw [if_pos hk] at h1
              refine ⟨h1.1.elim (fun h => .inl (by simp [h])) fun h2 => ?_, h1.2.elim (fun h => .inl (by simp [h])) fun h2 => ?_⟩
              · rcases List.mem_cons.1 h2 with h2 | h2
                · rw [h2]; exact .inl (by simp)
                · exact .inr (by simp [h2])
              · rcases List.mem_cons.1 h2 with h2 | h2
                · rw [h2]; exact .inl (by simp)
                · exact .inr (by simp [h2])
            · rename_i hk
              rw [if_neg hk] at h1
              exact h1
          · rw [List.mem_singleton.1 hs, if_pos hk]
            exact ⟨.inr (by simp), .inr (by simp)⟩
        obtain ⟨sf, h1, h2, h3⟩ := ih _ _ _ _ h hc2
        exact ⟨sf, fun x hx => (List.mem_cons.1 hx).elim (fun e => h2 x (by simp [e])) (fun hx => h1 x (by simp [hx])), fun x hx => h2 x (by simp [hx]), h3⟩
      · rename_i hk
        have hc2 : Closed ns kd st (out ++ [id]) (seen ++ [id]) := fun s hs => by
          rcases List.mem_append.1 hs with hs | hs
          · have h1 := hc s hs
            split
            · rename_i hk
              rw [if_pos hk] at h1
              refine ⟨h1.1.elim (fun h => .inl (by simp [h])) fun h2 => ?_, h1.2.elim (fun h => .inl (by simp [h])) fun h2 => ?_⟩
              · rcases List.mem_cons.1 h2 with h2 | h2
                · rw [h2]; exact .inl (by simp)
                · exact .inr h2
              · rcases List.mem_cons.1 h2 with h2 | h2
                · rw [h2]; exact .inl (by simp)
                · exact .inr h2
            · rename_i hk
              rw [if_neg hk] at h1
              simp [h1]
          · rw [List.mem_singleton.1 hs, if_neg hk]
            simp
        obtain ⟨sf, h1, h2, h3⟩ := ih _ _ _ _ h hc2
        exact ⟨sf, fun x hx => (List.mem_cons.1 hx).elim (fun e => h2 x (by simp [e])) (h1 x), fun x hx => h2 x (by simp [hx]), h3⟩
theorem closed_mb {ns : List Nd} {kd : Int} {res sf : List Int} (hc : Closed ns kd [] res sf) {x z : Int} (h : Mb ns kd x z) : x ∈ sf → z ∈ res := by
  induction h with
  | leaf hk => intro hx; have := hc _ hx; rw [if_neg hk] at this; exact this
  | a hk _ ih => intro hx; have := hc _ hx; rw [if_pos hk] at this; exact ih (this.1.elim id fun h => absurd h (by simp))
  | b hk _ ih => intro hx; have := hc _ hx; rw [if_pos hk] at this; exact ih (this.2.elim id fun h => absurd h (by simp))
theorem memN_iff {ns : List Nd} (hO : OkA ns) {kd : Int} (hkd : kd = 4 ∨ kd = 5) {l : List Int} (hl : ∀ z ∈ l, okId ns z) (z : Int) : z ∈ memN ns kd l ↔ ∃ x ∈ l, Mb ns kd x z := by
  have h := memN_eq hO hkd hl
  constructor
  · intro hz
    rcases memF_sound _ _ _ _ _ h z hz with h1 | ⟨x, hx, h1⟩
    · simp at h1
    · exact ⟨x, by simpa using hx, h1⟩
  · rintro ⟨x, hx, h1⟩
    obtain ⟨sf, h2, -, h3⟩ := memF_closed _ _ _ _ _ h (fun s hs => by simp at hs)
    exact closed_mb h3 h1 (h2 x (by simpa using hx))
theorem memF_nodup {ns : List Nd} {kd : Int} : ∀ (k : Nat) (st out seen res : List Int), memF ns kd k st out seen = some res → out.Nodup → (∀ z ∈ out, z ∈ seen) → res.Nodup := by
  intro k
  induction k with
  | zero => intro st out seen res h; cases h
  | succ k ih =>
    intro st out seen res h hn hs
    cases st with
    | nil => rw [memF] at h; cases h; exact hn
    | cons id st =>
      rw [memF] at h
      split at h
      · exact ih _ _ _ _ h hn hs
      rename_i hns
      split at h
      · exact ih _ _ _ _ h hn fun z hz => by simp [hs z hz]
      · refine ih _ _ _ _ h (List.nodup_append.2 ⟨hn, by simp, fun a ha b hb e => hns ?_⟩) fun z hz => ?_
        · rw [List.mem_singleton.1 hb] at e; exact e ▸ hs a ha
        · rcases List.mem_append.1 hz with hz | hz
          · simp [hs z hz]
          · simp [List.mem_singleton.1 hz]
theorem memN_nodup {ns : List Nd} (hO : OkA ns) {kd : Int} (hkd : kd = 4 ∨ kd = 5) {l : List Int} (hl : ∀ z ∈ l, okId ns z) : (memN ns kd l).Nodup :=
  memF_nodup _ _ _ _ _ (memN_eq hO hkd hl) (by simp) (by simp)

/-! ### Lists: in order, each once -/
theorem get! {l : List Int} {j : Nat} (h : j < l.length) : l.toArray[j]! = l[j] := by simp [getElem!_pos, h]
theorem compact_mem' {l : List Int} {z : Int} : z ∈ l → z ∈ Lib.compact l := by
  intro h
  have hex : ∃ j, j < l.length ∧ l.toArray[j]! = z := by
    obtain ⟨j, hj, e⟩ := List.getElem_of_mem h
    exact ⟨j, hj, by rw [get! hj, e]⟩
  obtain ⟨j, ⟨hj, e⟩, hmin⟩ : ∃ j, (j < l.length ∧ l.toArray[j]! = z) ∧ ∀ i, i < j → ¬ (i < l.length ∧ l.toArray[i]! = z) := by
    obtain ⟨j0, h0⟩ := hex
    induction j0 using Nat.strongRecOn with
    | ind j0 ih =>
      by_cases hm : ∃ i, i < j0 ∧ (i < l.length ∧ l.toArray[i]! = z)
      · obtain ⟨i, hi, h1⟩ := hm; exact ih i hi h1
      · exact ⟨j0, h0, fun i hi h1 => hm ⟨i, hi, h1⟩⟩
  unfold Lib.compact Lib.compactUpTo
  refine List.mem_map.2 ⟨j, List.mem_filter.2 ⟨List.mem_range.2 hj, ?_⟩, e⟩
  unfold Lib.keeps
  refine decide_eq_true ?_
  by_cases h0 : j = 0
  · exact .inl h0
  · right
    intro e2
    exact hmin (j - 1) (by omega) ⟨by omega, by rw [← e2, e]⟩
theorem compact_lt {l : List Int} (h : l.Pairwise (· ≤ ·)) : (Lib.compact l).Pairwise (· < ·) := by
  unfold Lib.compact Lib.compactUpTo
  rw [List.pairwise_map]
  have hp : ((List.range l.length).filter (Lib.keeps l.toArray)).Pairwise (· < ·) := List.pairwise_lt_range.filter _
  refine hp.imp_of_mem fun {a b} ha hb hab => ?_
  have ha' := List.mem_range.1 (List.mem_filter.1 ha).1
  have hb' := List.mem_range.1 (List.mem_filter.1 hb).1
  have hk := (List.mem_filter.1 hb).2
  unfold Lib.keeps at hk
  have hk := of_decide_eq_true hk
  rw [get! ha', get! hb']
  rw [List.pairwise_iff_getElem] at h
  rcases hk with h0 | hk
  · omega
  · rw [get! hb', get! (by omega : b - 1 < l.length)] at hk
    have h1 : l[b - 1] ≤ l[b] := h (b - 1) b (by omega) hb' (by omega)
    have h2 : l[a] ≤ l[b - 1] := by
      by_cases e : a = b - 1
      · subst e; exact Int.le_refl _
      · exact h a (b - 1) ha' (by omega) (by omega)
    omega
/-- In order, each once, without one. -/
def csd (no : Int) (l : List Int) : List Int := Lib.compact (sortI (dropI no l))
theorem sortI_le (l : List Int) : (sortI l).Pairwise (· ≤ ·) := by
  unfold sortI
  have := List.pairwise_mergeSort (le := fun x y : Int => decide (x ≤ y)) (fun a b c h1 h2 => by simp only [decide_eq_true_eq] at *; omega) (fun a b => by simp only [Bool.or_eq_true, decide_eq_true_eq]; omega) l
  exact this.imp fun h => of_decide_eq_true h
theorem csd_lt (no : Int) (l : List Int) : (csd no l).Pairwise (· < ·) := compact_lt (sortI_le _)
theorem csd_iff (no : Int) (l : List Int) (z : Int) : z ∈ csd no l ↔ z ∈ l ∧ z ≠ no := by
  constructor
  · intro h
    have h := compact_mem h
    unfold sortI dropI at h
    rw [List.mem_mergeSort, List.mem_filter] at h
    exact ⟨h.1, of_decide_eq_true h.2⟩
  · rintro ⟨h1, h2⟩
    refine compact_mem' ?_
    unfold sortI dropI
    rw [List.mem_mergeSort, List.mem_filter]
    exact ⟨h1, decide_eq_true h2⟩
theorem lt_ext : ∀ {l k : List Int}, l.Pairwise (· < ·) → k.Pairwise (· < ·) → (∀ z, z ∈ l ↔ z ∈ k) → l = k
  | [], [], _, _, _ => rfl
  | [], b :: k, _, _, h => absurd ((h b).2 (by simp)) (by simp)
  | a :: l, [], _, _, h => absurd ((h a).1 (by simp)) (by simp)
  | a :: l, b :: k, hl, hk, h => by
    obtain ⟨h1, h2⟩ := List.pairwise_cons.1 hl
    obtain ⟨h3, h4⟩ := List.pairwise_cons.1 hk
    have hab : a = b := by
      have ha := (h a).1 (by simp)
      have hb := (h b).2 (by simp)
      rcases List.mem_cons.1 ha with e | ha
      · exact e
      rcases List.mem_cons.1 hb with e | hb
      · exact e.symm
      have := h3 a ha
      have := h1 b hb
      omega
    subst hab
    congr 1
    refine lt_ext h2 h4 fun z => ⟨fun hz => ?_, fun hz => ?_⟩
    · rcases List.mem_cons.1 ((h z).1 (by simp [hz])) with e | h'
      · subst e; exact absurd (h1 _ hz) (by omega)
      · exact h'
    · rcases List.mem_cons.1 ((h z).2 (by simp [hz])) with e | h'
      · subst e; exact absurd (h3 _ hz) (by omega)
      · exact h'
end Go.Proofs.YtpdiljdklllmjaaGreat.ar
