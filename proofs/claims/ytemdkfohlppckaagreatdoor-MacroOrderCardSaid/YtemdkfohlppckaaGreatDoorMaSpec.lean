/- Macros, in plain Lean: what is wrong first; what each stands for; in whatever order. Conditions: none. -/
import Derived.Test.YtemdkfohlppckaaGreatDoorMaPars

namespace Go.Proofs.YtemdkfohlppckaaGreatDoor.ma
open Go Go.Ev Go.Proofs Go.Proofs.YtemdkfohlppckaaGreatDoor.lx Go.Proofs.YtemdkfohlppckaaGreatDoor.tree Go.Proofs.YtemdkfohlppckaaGreatDoor.pa

abbrev Ms := List (List UInt8 × List UInt8)
def nmM (l : Ms) (i : Nat) : List UInt8 := (l.getD i ([], [])).1
def txM (l : Ms) (i : Nat) : List UInt8 := (l.getD i ([], [])).2
/-- The first macro of a name. -/
def idxM : Ms → List UInt8 → Option Nat
  | [], _ => none
  | m :: l, n => if m.1 = n then some 0 else (idxM l n).map (· + 1)
theorem idxM_some : ∀ {l : Ms} {n : List UInt8} {k : Nat}, idxM l n = some k → k < l.length ∧ nmM l k = n
  | [], n, k, h => by cases h
  | m :: l, n, k, h => by
    rw [idxM] at h
    by_cases hm : m.1 = n
    · rw [if_pos hm] at h; cases h; exact ⟨by simp, hm⟩
    · rw [if_neg hm] at h
      cases hi : idxM l n with
      | none => rw [hi] at h; cases h
      | some q =>
        rw [hi] at h; cases h
        obtain ⟨a, b⟩ := idxM_some hi
        exact ⟨by simp only [List.length_cons]; omega, b⟩
theorem idxM_none : ∀ {l : Ms} {n : List UInt8}, idxM l n = none ↔ ∀ i, i < l.length → nmM l i ≠ n
  | [], n => by simp [idxM]
  | m :: l, n => by
    rw [idxM]
    by_cases hm : m.1 = n
    · rw [if_pos hm]
      exact ⟨fun h => (by cases h), fun h => absurd hm (h 0 (by simp))⟩
    · rw [if_neg hm, Option.map_eq_none_iff, idxM_none]
      constructor
      · intro h i hi
        cases i with
        | zero => exact hm
        | succ i => exact h i (by simp at hi; omega)
      · intro h i hi
        exact h (i + 1) (by simp; omega)
/-- No name stands twice. -/
def Dist (l : Ms) : Prop := ∀ i k, i < l.length → k < l.length → nmM l i = nmM l k → i = k
theorem idxM_at {l : Ms} (hd : Dist l) {k : Nat} (hk : k < l.length) : idxM l (nmM l k) = some k := by
  cases h : idxM l (nmM l k) with
  | none => exact absurd rfl (idxM_none.1 h k hk)
  | some q =>
    obtain ⟨a, b⟩ := idxM_some h
    rw [hd q k a hk b]
def wrM (l : Ms) (i : Nat) : List (Nat × W) := (outT (txM l i)).1
/-- On which others a word leans. -/
def onW (l : Ms) (w : Nat × W) : Option Nat := if w.2.kind = 11 then idxM l w.2.name else none
def onM (l : Ms) (i : Nat) : List Nat := (wrM l i).filterMap (onW l)
theorem onM_lt {l : Ms} {i k : Nat} (h : k ∈ onM l i) : k < l.length := by
  obtain ⟨w, -, hw⟩ := List.mem_filterMap.1 h
  unfold onW at hw
  split at hw
  · exact (idxM_some hw).1
  · cases hw

/-! ### What is wrong first -/
abbrev E3 := Int × Int × Int
def orE (a b : E3) : E3 := if a.2.2 ≠ 0 then a else b
theorem orE_zero {a b : E3} : (orE a b).2.2 = 0 ↔ a.2.2 = 0 ∧ b.2.2 = 0 := by
  unfold orE
  by_cases h : a.2.2 = 0
  · rw [if_neg (fun hn => hn h)]; exact ⟨fun hb => ⟨h, hb⟩, fun hb => hb.2⟩
  · rw [if_pos h]; exact ⟨fun ha => absurd ha h, fun ha => absurd ha.1 h⟩
theorem orE_assoc (a b c : E3) : orE (orE a b) c = orE a (orE b c) := by
  unfold orE
  by_cases h : a.2.2 = 0 <;> simp [h]
def noE : E3 := (0, 0, 0)
theorem orE_no (a : E3) : orE noE a = a := by unfold orE noE; rw [if_neg (fun h => h rfl)]
def chk1 (l : Ms) (i : Nat) : E3 := if namedT (nmM l i) = false then (i, 0, 2) else if nmM l i ∈ (l.take i).map (·.1) then (i, 0, 6) else noE
def chkW (l : Ms) (i : Nat) : List (Nat × W) → E3
  | [] => noE
  | w :: r => orE (if w.2.kind = 11 ∧ idxM l w.2.name = none then ((i : Int), (w.1 : Int), 5) else noE) (chkW l i r)
def chk2 (l : Ms) (i : Nat) : E3 := orE (if (outT (txM l i)).2.2 ≠ 0 then ((i : Int), (outT (txM l i)).2.1, (outT (txM l i)).2.2) else noE) (chkW l i (wrM l i))
def chk3 (c : Nat → Bool) (i : Nat) : E3 := if c i = true then (i, 0, 7) else noE
def allE (f : Nat → E3) : Nat → E3
  | 0 => noE
  | n + 1 => orE (allE f n) (f n)
theorem allE_zero {f : Nat → E3} : ∀ {n : Nat}, (allE f n).2.2 = 0 ↔ ∀ i, i < n → (f i).2.2 = 0
  | 0 => ⟨fun _ i h => by omega, fun _ => rfl⟩
  | n + 1 => by
    rw [allE, orE_zero, allE_zero]
    constructor
    · rintro ⟨h1, h2⟩ i hi
      by_cases e : i = n
      · subst e; exact h2
      · exact h1 i (by omega)
    · intro h; exact ⟨fun i hi => h i (by omega), h n (by omega)⟩
def early (l : Ms) (c : Nat → Bool) : E3 := if 20 < l.length then (20, 0, 4) else orE (allE (chk1 l) l.length) (orE (allE (chk2 l) l.length) (allE (chk3 c) l.length))

theorem chkW_zero {l : Ms} {i : Nat} : ∀ {ws : List (Nat × W)}, (chkW l i ws).2.2 = 0 ↔ ∀ w ∈ ws, w.2.kind = 11 → idxM l w.2.name ≠ none
  | [] => ⟨fun _ w h => by (cases h), fun _ => rfl⟩
  | w :: r => by
    rw [chkW, orE_zero, chkW_zero]
    constructor
    · rintro ⟨h1, h2⟩ x hx hk
      rcases List.mem_cons.1 hx with rfl | hx
      · intro hn; rw [if_pos ⟨hk, hn⟩] at h1; cases h1
      · exact h2 x hx hk
    · intro h
      refine ⟨?_, fun x hx => h x (by simp [hx])⟩
      split
      · rename_i hc; exact absurd hc.2 (h w (by simp) hc.1)
      · rfl
theorem chk1_zero {l : Ms} {i : Nat} (hi : i ≤ l.length) : (chk1 l i).2.2 = 0 ↔ namedT (nmM l i) = true ∧ ∀ k, k < i → nmM l k ≠ nmM l i := by
  have hmem : nmM l i ∈ (l.take i).map (·.1) ↔ ∃ k, k < i ∧ nmM l k = nmM l i := by
    rw [List.mem_map]
    constructor
    · rintro ⟨x, hx, hn⟩
      obtain ⟨k, hk, rfl⟩ := List.getElem_of_mem hx
      rw [List.length_take] at hk
      refine ⟨k, by omega, ?_⟩
      rw [List.getElem_take] at hn
      unfold nmM at hn ⊢
      rw [List.getD_eq_getElem?_getD, List.getElem?_eq_getElem (by omega)]
      exact hn
    · rintro ⟨k, hk, hn⟩
      refine ⟨l[k]'(by omega), ?_, ?_⟩
      · have : (l.take i)[k]? = some (l[k]'(by omega)) := by rw [List.getElem?_take_of_lt hk, List.getElem?_eq_getElem]
        exact List.mem_of_getElem? this
      · rw [← hn]; unfold nmM; rw [List.getD_eq_getElem?_getD, List.getElem?_eq_getElem (by omega : k < l.length)]; rfl
  unfold chk1
  by_cases h1 : namedT (nmM l i) = false
  · rw [if_pos h1]
    exact ⟨fun h => (by cases h), fun h => by rw [h1] at h; cases h.1⟩
  · rw [if_neg h1]
    have h1' : namedT (nmM l i) = true := by cases h : namedT (nmM l i); exact absurd h h1; rfl
    by_cases h2 : nmM l i ∈ (l.take i).map (·.1)
    · rw [if_pos h2]
      obtain ⟨k, hk, hn⟩ := hmem.1 h2
      exact ⟨fun h => (by cases h), fun h => absurd hn (h.2 k hk)⟩
    · rw [if_neg h2]
      exact ⟨fun _ => ⟨h1', fun k hk hn => h2 (hmem.2 ⟨k, hk, hn⟩)⟩, fun _ => rfl⟩
/-- What is right, but for the parsing. -/
structure Right (l : Ms) : Prop where
  len : l.length ≤ 20
  named : ∀ i, i < l.length → namedT (nmM l i) = true
  dist : Dist l
  words : ∀ i, i < l.length → (outT (txM l i)).2.2 = 0
  found : ∀ i, i < l.length → ∀ w ∈ wrM l i, w.2.kind = 11 → idxM l w.2.name ≠ none
theorem early_zero {l : Ms} {c : Nat → Bool} : (early l c).2.2 = 0 ↔ Right l ∧ ∀ i, i < l.length → c i = false := by
  unfold early
  by_cases hl : 20 < l.length
  · rw [if_pos hl]
    exact ⟨fun h => (by cases h), fun h => absurd h.1.len (by omega)⟩
  rw [if_neg hl, orE_zero, orE_zero, allE_zero, allE_zero, allE_zero]
  constructor
  · rintro ⟨h1, h2, h3⟩
    have k1 := fun i (hi : i < l.length) => (chk1_zero (by omega)).1 (h1 i hi)
    have k2 := fun i (hi : i < l.length) => orE_zero.1 (h2 i hi)
    refine ⟨⟨by omega, fun i hi => (k1 i hi).1, fun i k hi hk he => ?_, fun i hi => ?_, fun i hi => chkW_zero.1 (k2 i hi).2⟩, fun i hi => ?_⟩
    · rcases Nat.lt_trichotomy i k with h | h | h
      · exact absurd he ((k1 k hk).2 i h)
      · exact h
      · exact absurd he.symm ((k1 i hi).2 k h)
    · have := (k2 i hi).1
      by_cases h : (outT (txM l i)).2.2 = 0
      · exact h
      · rw [if_pos h] at this; exact this
    · have := h3 i hi
      unfold chk3 at this
      split at this
      · cases this
      · rename_i h; cases hc : c i; rfl; exact absurd hc h
  · rintro ⟨hr, hc⟩
    refine ⟨fun i hi => (chk1_zero (by omega)).2 ⟨hr.named i hi, fun k hk he => ?_⟩, fun i hi => orE_zero.2 ⟨?_, chkW_zero.2 (hr.found i hi)⟩, fun i hi => ?_⟩
    · have := hr.dist k i (by omega) hi he; omega
    · rw [if_neg (fun h => h (hr.words i hi))]; rfl
    · unfold chk3; rw [hc i hi]; rfl

/-! ### What each stands for -/
def dsOf (l : Ms) (idx : List Nat) (f : Nat → Re) : List (List UInt8 × Re) := idx.map fun k => (nmM l k, f k)
inductive Means (l : Ms) : Nat → Re → Prop
  | mk (i : Nat) (r : Re) (f : Nat → Re) (h : ∀ k ∈ onM l i, Means l k (f k)) (hp : parseT (txM l i) (dsOf l (onM l i) f) = (r, 0, 0)) : Means l i r
theorem means_det {l : Ms} {i : Nat} {r : Re} (h : Means l i r) : ∀ {r' : Re}, Means l i r' → r = r' := by
  induction h with
  | mk i r f h hp ih =>
    intro r' h'
    cases h' with
    | mk _ _ f' h2 hp2 =>
      have e : dsOf l (onM l i) f = dsOf l (onM l i) f' := by
        unfold dsOf
        refine List.map_congr_left fun k hk => ?_
        rw [ih k hk (h2 k hk)]
      rw [e, hp2] at hp
      injection hp with h1 _
      exact h1.symm
theorem find_ds {l : Ms} (hd : Dist l) (f : Nat → Re) {k : Nat} (hk : k < l.length) : ∀ {idx : List Nat}, (∀ j ∈ idx, j < l.length) → k ∈ idx → findD (nmM l k) (dsOf l idx f) = some (f k)
  | [], _, h => by cases h
  | j :: idx, hj, h => by
    show findD (nmM l k) ((nmM l j, f j) :: dsOf l idx f) = _
    rw [findD]
    by_cases e : nmM l j = nmM l k
    · rw [if_pos e]
      have := hd j k (hj j (by simp)) hk e
      subst this; rfl
    · rw [if_neg e]
      rcases List.mem_cons.1 h with rfl | h
      · exact absurd rfl e
      · exact find_ds hd f hk (fun j hj' => hj j (by simp [hj'])) h
/-- A macro's text is read the same, whatever else is known. -/
theorem read_same {l : Ms} (hr : Right l) {i : Nat} (hi : i < l.length) {f g : Nat → Re} {idx idx' : List Nat} (h1 : ∀ j ∈ idx, j < l.length) (h2 : ∀ j ∈ idx', j < l.length)
    (hs : ∀ k ∈ onM l i, k ∈ idx ∧ k ∈ idx' ∧ f k = g k) :
    parseT (txM l i) (dsOf l idx f) = parseT (txM l i) (dsOf l idx' g) ∧ ((parseT (txM l i) (dsOf l idx f)).2.2 = 0 ∨ (parseT (txM l i) (dsOf l idx f)).2.2 = 2 ∨ (parseT (txM l i) (dsOf l idx f)).2.2 = 8 ∨ (parseT (txM l i) (dsOf l idx f)).2.2 = 9) := by
  refine parse_same (hr.words i hi) fun w hw hk => ?_
  have hf := hr.found i hi w hw hk
  cases hx : idxM l w.2.name with
  | none => exact absurd hx hf
  | some k =>
    obtain ⟨hkl, hkn⟩ := idxM_some hx
    have hon : k ∈ onM l i := List.mem_filterMap.2 ⟨w, hw, by unfold onW; rw [if_pos hk, hx]⟩
    obtain ⟨a, b, c⟩ := hs k hon
    rw [← hkn, find_ds hr.dist f hkl h1 a, find_ds hr.dist g hkl h2 b, c]
    exact ⟨rfl, fun h => by cases h⟩
/-- One more is read. -/
theorem read_next {l : Ms} (hr : Right l) {i : Nat} (hi : i < l.length) {f : Nat → Re} {idx : List Nat} (h1 : ∀ j ∈ idx, j < l.length) (hm : ∀ j ∈ idx, Means l j (f j)) (hs : ∀ k ∈ onM l i, k ∈ idx) :
    ((parseT (txM l i) (dsOf l idx f)).2.2 = 0 ∧ Means l i (parseT (txM l i) (dsOf l idx f)).1) ∨
    (((parseT (txM l i) (dsOf l idx f)).2.2 = 2 ∨ (parseT (txM l i) (dsOf l idx f)).2.2 = 8 ∨ (parseT (txM l i) (dsOf l idx f)).2.2 = 9) ∧ ¬ ∃ r, Means l i r) := by
  have hon : ∀ j ∈ onM l i, j < l.length := fun j hj => onM_lt hj
  obtain ⟨e, he⟩ := read_same hr hi (f := f) (g := f) h1 hon fun k hk => ⟨hs k hk, hk, rfl⟩
  rcases he with he | he
  · refine .inl ⟨he, ?_⟩
    rw [e] at he ⊢
    exact .mk i _ f (fun k hk => hm k (hs k hk)) (parse_leaf (hr.words i hi) he).1
  · refine .inr ⟨he, ?_⟩
    rintro ⟨r, h⟩
    cases h with
    | mk _ _ g hg hp =>
      have e2 := (read_same hr hi (f := f) (g := g) h1 hon fun k hk => ⟨hs k hk, hk, means_det (hm k (hs k hk)) (hg k hk)⟩).1
      rw [e2, hp] at he
      rcases he with he | he | he <;> cases he
/-- What one stands for is what its text is read as, all being known. -/
theorem read_all {l : Ms} (hr : Right l) {f : Nat → Re} (hm : ∀ i, i < l.length → Means l i (f i)) {i : Nat} (hi : i < l.length) : parseT (txM l i) (dsOf l (List.range l.length) f) = (f i, 0, 0) := by
  cases hm i hi with
  | mk _ _ g hg hp =>
    have e2 := (read_same hr hi (f := f) (g := g) (fun j hj => List.mem_range.1 hj) (fun j hj => onM_lt hj) fun k hk => ⟨List.mem_range.2 (onM_lt hk), hk, means_det (hm k (onM_lt hk)) (hg k hk)⟩).1
    rw [e2, hp]

/-! ### Ways -/
def Leans (l : Ms) (i k : Nat) : Prop := k ∈ onM l i
abbrev Way (l : Ms) := Relation.TransGen (Leans l)
/-- Among some, one leans on none of them, if none leans on itself. -/
theorem least {R : Nat → Nat → Prop} (ht : ∀ {a b c}, R a b → R b c → R a c) (hi : ∀ a, ¬ R a a) : ∀ (S : List Nat), S ≠ [] → ∃ t ∈ S, ∀ u ∈ S, ¬ R t u
  | [], h => absurd rfl h
  | [a], _ => ⟨a, by simp, fun u hu => by rw [List.mem_singleton.1 hu]; exact hi a⟩
  | a :: b :: S, _ => by
    obtain ⟨t, hm, hl⟩ := least (R := R) @ht hi (b :: S) (by simp)
    by_cases h : R t a
    · refine ⟨a, by simp, fun u hu => ?_⟩
      rcases List.mem_cons.1 hu with rfl | hu
      · exact hi u
      · exact fun hau => hl u hu (ht h hau)
    · refine ⟨t, by simp [List.mem_cons.1 hm], fun u hu => ?_⟩
      rcases List.mem_cons.1 hu with rfl | hu
      · exact h
      · exact hl u hu
/-- What stands for something leans on itself by no way. -/
theorem means_acyclic {l : Ms} {i : Nat} {r : Re} (h : Means l i r) : ¬ Way l i i := by
  have hacc : Acc (fun a b => Leans l b a) i := by
    induction h with
    | mk i r f h hp ih => exact Acc.intro _ fun k hk => ih k hk
  clear h
  have hacc2 : Acc (fun a b => Way l b a) i := by
    induction hacc with
    | intro x h ih =>
      refine Acc.intro _ fun y hy => ?_
      have key : ∀ z, Way l x z → Acc (fun a b => Way l b a) z := by
        intro z hz
        induction hz with
        | single h1 => exact ih _ h1
        | tail h1 h2 ih2 => exact ih2.inv (.single h2)
      exact key y hy
  clear hacc
  induction hacc2 with
  | intro x h ih => exact fun hc => ih x hc hc
/-- As long as some aren't done, one of them leans on done ones alone. -/
theorem next_some {l : Ms} (hc : ∀ i, i < l.length → ¬ Way l i i) {done : Nat → Bool} (hn : ∃ i, i < l.length ∧ done i = false) : ∃ i, i < l.length ∧ done i = false ∧ ∀ k ∈ onM l i, done k = true := by
  obtain ⟨i0, hi0, hd0⟩ := hn
  have hS : ((List.range l.length).filter fun i => !done i) ≠ [] := by
    have : i0 ∈ (List.range l.length).filter fun i => !done i := List.mem_filter.2 ⟨List.mem_range.2 hi0, by simp [hd0]⟩
    intro h; rw [h] at this; cases this
  obtain ⟨t, hm, hl⟩ := least (R := fun a b => a < l.length ∧ b < l.length ∧ Way l a b) (fun {a b c} h1 h2 => ⟨h1.1, h2.2.1, h1.2.2.trans h2.2.2⟩) (fun a h => hc a h.1 h.2.2) _ hS
  obtain ⟨h1, h2⟩ := List.mem_filter.1 hm
  have h1 := List.mem_range.1 h1
  refine ⟨t, h1, by simpa using h2, fun k hk => ?_⟩
  have hkl := onM_lt hk
  cases hd : done k with
  | true => rfl
  | false => exact absurd ⟨h1, hkl, .single hk⟩ (hl k (List.mem_filter.2 ⟨List.mem_range.2 hkl, by simp [hd]⟩))

/-! ### In another order -/
structure Turn (l l' : Ms) (σ τ : Nat → Nat) : Prop where
  len : l'.length = l.length
  lt : ∀ i, i < l.length → σ i < l.length
  gt : ∀ i, i < l.length → τ i < l.length
  st : ∀ i, i < l.length → σ (τ i) = i
  ts : ∀ i, i < l.length → τ (σ i) = i
  at_ : ∀ i, i < l.length → l'[σ i]? = l[i]?
theorem Turn.symm {l l' : Ms} {σ τ : Nat → Nat} (h : Turn l l' σ τ) : Turn l' l τ σ :=
  ⟨h.len.symm, fun i hi => by rw [h.len] at hi ⊢; exact h.gt i hi, fun i hi => by rw [h.len] at hi ⊢; exact h.lt i hi, fun i hi => h.ts i (by rw [h.len] at hi; exact hi), fun i hi => h.st i (by rw [h.len] at hi; exact hi),
    fun i hi => by rw [h.len] at hi; have := h.at_ (τ i) (h.gt i hi); rw [h.st i hi] at this; exact this.symm⟩
section
variable {l l' : Ms} {σ τ : Nat → Nat}
theorem Turn.nm (h : Turn l l' σ τ) {i : Nat} (hi : i < l.length) : nmM l' (σ i) = nmM l i := by
  unfold nmM; rw [List.getD_eq_getElem?_getD, List.getD_eq_getElem?_getD, h.at_ i hi]
theorem Turn.tx (h : Turn l l' σ τ) {i : Nat} (hi : i < l.length) : txM l' (σ i) = txM l i := by
  unfold txM; rw [List.getD_eq_getElem?_getD, List.getD_eq_getElem?_getD, h.at_ i hi]
theorem Turn.dist (h : Turn l l' σ τ) (hd : Dist l) : Dist l' := by
  intro i k hi hk he
  rw [h.len] at hi hk
  have e1 := h.nm (h.gt i hi)
  have e2 := h.nm (h.gt k hk)
  rw [h.st i hi] at e1
  rw [h.st k hk] at e2
  have := hd (τ i) (τ k) (h.gt i hi) (h.gt k hk) (by rw [← e1, ← e2, he])
  rw [← h.st i hi, ← h.st k hk, this]
theorem Turn.idx (h : Turn l l' σ τ) (hd : Dist l) (n : List UInt8) : idxM l' n = (idxM l n).map σ := by
  cases hx : idxM l n with
  | none =>
    rw [Option.map_none, idxM_none]
    intro i hi
    rw [h.len] at hi
    have e1 := h.nm (h.gt i hi)
    rw [h.st i hi] at e1
    rw [e1]
    exact idxM_none.1 hx _ (h.gt i hi)
  | some k =>
    obtain ⟨hk, hn⟩ := idxM_some hx
    rw [← hn, ← h.nm hk]
    exact idxM_at (h.dist hd) (by rw [h.len]; exact h.lt k hk)
theorem Turn.on (h : Turn l l' σ τ) (hd : Dist l) {i : Nat} (hi : i < l.length) : onM l' (σ i) = (onM l i).map σ := by
  unfold onM wrM
  rw [h.tx hi, List.map_filterMap]
  congr 1
  funext w
  unfold onW
  split
  · exact h.idx hd _
  · rfl
theorem Turn.right (h : Turn l l' σ τ) (hr : Right l) : Right l' := by
  have key : ∀ i, i < l'.length → nmM l' i = nmM l (τ i) ∧ txM l' i = txM l (τ i) ∧ τ i < l.length := fun i hi => by
    rw [h.len] at hi
    have e1 := h.nm (h.gt i hi)
    have e2 := h.tx (h.gt i hi)
    rw [h.st i hi] at e1 e2
    exact ⟨e1, e2, h.gt i hi⟩
  refine ⟨by rw [h.len]; exact hr.len, fun i hi => ?_, h.dist hr.dist, fun i hi => ?_, fun i hi w hw hk => ?_⟩
  · obtain ⟨e1, -, ht⟩ := key i hi; rw [e1]; exact hr.named _ ht
  · obtain ⟨-, e2, ht⟩ := key i hi; rw [e2]; exact hr.words _ ht
  · obtain ⟨-, e2, ht⟩ := key i hi
    unfold wrM at hw
    rw [e2] at hw
    rw [h.idx hr.dist]
    intro hn
    exact hr.found _ ht w hw hk (Option.map_eq_none_iff.1 hn)
theorem Turn.means (h : Turn l l' σ τ) (hd : Dist l) {i : Nat} {r : Re} (hm : Means l i r) : i < l.length → Means l' (σ i) r := by
  induction hm with
  | mk i r f hf hp ih =>
    intro hi
    refine .mk (σ i) r (fun q => f (τ q)) (fun k hk => ?_) ?_
    · rw [h.on hd hi] at hk
      obtain ⟨j, hj, rfl⟩ := List.mem_map.1 hk
      have hjl := onM_lt hj
      rw [h.ts j hjl]
      exact ih j hj hjl
    · rw [h.tx hi, h.on hd hi]
      have e : dsOf l' ((onM l i).map σ) (fun q => f (τ q)) = dsOf l (onM l i) f := by
        unfold dsOf
        rw [List.map_map]
        refine List.map_congr_left fun j hj => ?_
        have hjl := onM_lt hj
        show (nmM l' (σ j), f (τ (σ j))) = _
        rw [h.nm hjl, h.ts j hjl]
      rw [e]; exact hp
end
end Go.Proofs.YtemdkfohlppckaaGreatDoor.ma
namespace Go.Proofs.YtemdkfohlppckaaGreatDoor.ma
open Go Go.Ev Go.Proofs Go.Proofs.YtemdkfohlppckaaGreatDoor.lx Go.Proofs.YtemdkfohlppckaaGreatDoor.tree Go.Proofs.YtemdkfohlppckaaGreatDoor.pa

abbrev Sn := Nat → Bool
def setS (r : Sn) (b : Nat) (v : Bool) : Sn := fun k => if k = b then v else r k
/-- As cells. -/
def cellsB (n : Nat) (r : Sn) : List Value := (List.range n).map fun k => Value.bool (r k)
theorem cellsB_len (n : Nat) (r : Sn) : (cellsB n r).length = n := by simp [cellsB]
theorem cellsB_get {n k : Nat} {r : Sn} (h : k < n) : (cellsB n r)[k]? = some (.bool (r k)) := by
  unfold cellsB; rw [List.getElem?_map, List.getElem?_range h]; rfl
theorem cellsB_set (n : Nat) (r : Sn) (b : Nat) (v : Bool) : (cellsB n r).set b (.bool v) = cellsB n (setS r b v) := by
  refine List.ext_getElem? fun k => ?_
  by_cases hk : k < n
  · have e1 := cellsB_get (r := r) hk
    have e2 := cellsB_get (r := setS r b v) hk
    rw [List.getElem?_set, e1, e2]
    unfold setS
    by_cases e : b = k
    · rw [if_pos e, if_pos (by rw [cellsB_len]; omega), if_pos e.symm]
    · rw [if_neg e, if_neg (fun h => e h.symm)]
  · rw [List.getElem?_eq_none (by rw [List.length_set, cellsB_len]; omega), List.getElem?_eq_none (by rw [cellsB_len]; omega)]
theorem cellsB_zero (n : Nat) : zerosL n [.bool false] = cellsB n (fun _ => false) := by
  rw [zeros_rows]
  unfold cellsB
  refine List.ext_getElem? fun k => ?_
  rw [List.getElem?_map]
  rw [show (List.replicate n [Value.bool false]).flatten = List.replicate n (Value.bool false) by
    induction n with
    | zero => rfl
    | succ n ih => rw [List.replicate_succ, List.flatten_cons, ih, List.replicate_succ]; rfl]
  rw [List.getElem?_replicate]
  split
  · rename_i h; rw [List.getElem?_range h]; rfl
  · rename_i h; rw [List.getElem?_eq_none (by simp; omega)]; rfl

/-! ### rounds -/
section
variable (lb : Nat → Nat → Bool)
def stepS (a : Nat) (r : Sn) (b : Nat) : Sn := setS r b (r b || (r a && lb a b))
def rowS (n a : Nat) (r : Sn) : Sn := (List.range n).foldl (stepS lb a) r
def rndS (n : Nat) (r : Sn) : Sn := (List.range n).foldl (fun r a => rowS lb n a r) r
def itS (n : Nat) (r : Sn) : Nat → Sn
  | 0 => r
  | t + 1 => rndS lb n (itS n r t)
def cycS (n i : Nat) : Bool := itS lb n (fun k => lb i k) n i
end
section
variable {lb : Nat → Nat → Bool}
theorem stepS_mono {a b k : Nat} {r : Sn} (h : r k = true) : stepS lb a r b k = true := by
  unfold stepS setS
  split
  · rename_i e; subst e; rw [h]; rfl
  · exact h
theorem foldl_mono {f : Sn → Nat → Sn} (hf : ∀ r b k, r k = true → f r b k = true) : ∀ (l : List Nat) (r : Sn) (k : Nat), r k = true → l.foldl f r k = true
  | [], _, _, h => h
  | b :: l, r, k, h => foldl_mono hf l (f r b) k (hf r b k h)
theorem rowS_mono {n a k : Nat} {r : Sn} (h : r k = true) : rowS lb n a r k = true := foldl_mono (fun _ _ _ => stepS_mono) _ _ _ h
theorem rndS_mono {n k : Nat} {r : Sn} (h : r k = true) : rndS lb n r k = true := foldl_mono (fun _ _ _ => rowS_mono) _ _ _ h
theorem rowS_hit {a : Nat} : ∀ (l : List Nat) (r : Sn) (b : Nat), b ∈ l → r a = true → lb a b = true → l.foldl (stepS lb a) r b = true
  | [], _, _, h, _, _ => by cases h
  | c :: l, r, b, h, ha, hl => by
    rw [List.foldl_cons]
    by_cases e : b = c
    · subst e
      refine foldl_mono (fun _ _ _ => stepS_mono) l _ _ ?_
      unfold stepS setS
      rw [if_pos rfl, ha, hl]; simp
    · exact rowS_hit l _ b (by rcases List.mem_cons.1 h with h | h; exact absurd h e; exact h) (stepS_mono ha) hl
theorem rndS_hit {n a b : Nat} (hb : b < n) (hl : lb a b = true) : ∀ (l : List Nat) (r : Sn), a ∈ l → r a = true → l.foldl (fun r a => rowS lb n a r) r b = true
  | [], _, h, _ => by cases h
  | c :: l, r, h, ha => by
    rw [List.foldl_cons]
    by_cases e : a = c
    · subst e
      exact foldl_mono (fun _ _ _ => rowS_mono) l _ _ (rowS_hit _ r b (List.mem_range.2 hb) ha hl)
    · exact rndS_hit hb hl l _ (by rcases List.mem_cons.1 h with h | h; exact absurd h e; exact h) (rowS_mono ha)
def Clo (lb : Nat → Nat → Bool) (n : Nat) (r : Sn) : Prop := ∀ a b, a < n → b < n → r a = true → lb a b = true → r b = true
theorem step_same {n a b : Nat} {r : Sn} (hc : Clo lb n r) (ha : a < n) (hb : b < n) : stepS lb a r b = r := by
  funext k
  unfold stepS setS
  split
  · rename_i e; subst e
    cases h1 : r k with
    | true => rfl
    | false =>
      cases h2 : r a with
      | false => rfl
      | true =>
        cases h3 : lb a k with
        | false => rfl
        | true => rw [hc a k ha hb h2 h3] at h1; cases h1
  · rfl
theorem row_same {n a : Nat} {r : Sn} (hc : Clo lb n r) (ha : a < n) : rowS lb n a r = r := by
  unfold rowS
  have : ∀ (l : List Nat), (∀ x ∈ l, x < n) → l.foldl (stepS lb a) r = r := by
    intro l
    induction l with
    | nil => intro _; rfl
    | cons b l ih => intro h; rw [List.foldl_cons, step_same hc ha (h b (by simp))]; exact ih fun x hx => h x (by simp [hx])
  exact this _ fun x hx => List.mem_range.1 hx
theorem rnd_same {n : Nat} {r : Sn} (hc : Clo lb n r) : rndS lb n r = r := by
  unfold rndS
  have : ∀ (l : List Nat), (∀ x ∈ l, x < n) → l.foldl (fun r a => rowS lb n a r) r = r := by
    intro l
    induction l with
    | nil => intro _; rfl
    | cons b l ih => intro h; rw [List.foldl_cons, row_same hc (h b (by simp))]; exact ih fun x hx => h x (by simp [hx])
  exact this _ fun x hx => List.mem_range.1 hx
/-- How many are seen. -/
def cntS (n : Nat) (r : Sn) : Nat := ((List.range n).filter r).length
theorem filter_le {f g : Nat → Bool} (h : ∀ x, f x = true → g x = true) : ∀ (l : List Nat), (l.filter f).length ≤ (l.filter g).length ∧ ((∃ x ∈ l, g x = true ∧ f x = false) → (l.filter f).length < (l.filter g).length)
  | [] => ⟨Nat.le_refl _, fun ⟨x, hx, _⟩ => by cases hx⟩
  | a :: l => by
    obtain ⟨h1, h2⟩ := filter_le h l
    rw [List.filter_cons, List.filter_cons]
    cases hf : f a with
    | true =>
      rw [h a hf]
      simp only [if_true, List.length_cons]
      refine ⟨by omega, fun ⟨x, hx, hg, hff⟩ => ?_⟩
      rcases List.mem_cons.1 hx with rfl | hx
      · rw [hf] at hff; cases hff
      · have := h2 ⟨x, hx, hg, hff⟩; omega
    | false =>
      cases hg : g a with
      | true =>
        simp only [if_true, Bool.false_eq_true, if_false, List.length_cons]
        exact ⟨by omega, fun _ => by omega⟩
      | false =>
        simp only [Bool.false_eq_true, if_false]
        refine ⟨h1, fun ⟨x, hx, hg', hff⟩ => ?_⟩
        rcases List.mem_cons.1 hx with rfl | hx
        · rw [hg] at hg'; cases hg'
        · exact h2 ⟨x, hx, hg', hff⟩
theorem it_mono {n : Nat} {r : Sn} {k : Nat} (h : r k = true) : ∀ t, itS lb n r t k = true
  | 0 => h
  | t + 1 => rndS_mono (it_mono h t)
theorem it_grows {n : Nat} {r : Sn} : ∀ t, Clo lb n (itS lb n r t) ∨ t ≤ cntS n (itS lb n r t)
  | 0 => .inr (Nat.zero_le _)
  | t + 1 => by
    show Clo lb n (rndS lb n (itS lb n r t)) ∨ t + 1 ≤ cntS n (rndS lb n (itS lb n r t))
    by_cases hc : Clo lb n (itS lb n r t)
    · rw [rnd_same hc]; exact .inl hc
    · rcases it_grows t with h | h
      · exact absurd h hc
      · refine .inr ?_
        obtain ⟨a, b, ha, hb, h1, h2, h3⟩ : ∃ a b, a < n ∧ b < n ∧ itS lb n r t a = true ∧ lb a b = true ∧ itS lb n r t b = false := by
          refine Classical.byContradiction fun hn => hc fun a b ha hb h1 h2 => ?_
          cases h3 : itS lb n r t b with
          | true => rfl
          | false => exact absurd ⟨a, b, ha, hb, h1, h2, h3⟩ hn
        have := (filter_le (f := itS lb n r t) (g := rndS lb n (itS lb n r t)) (fun x => rndS_mono) (List.range n)).2 ⟨b, List.mem_range.2 hb, rndS_hit hb h2 _ _ (List.mem_range.2 ha) h1, h3⟩
        unfold cntS at h ⊢
        omega
theorem it_clo {n : Nat} {r : Sn} : Clo lb n (itS lb n r n) := by
  rcases it_grows (lb := lb) (n := n) (r := r) n with h | h
  · exact h
  · intro a b ha hb _ _
    unfold cntS at h
    have h2 : ((List.range n).filter (itS lb n r n)) = List.range n := List.Sublist.eq_of_length_le List.filter_sublist (by simpa using h)
    have : b ∈ (List.range n).filter (itS lb n r n) := by rw [h2]; exact List.mem_range.2 hb
    exact (List.mem_filter.1 this).2
theorem stepS_sound {p : Nat → Prop} {n a b : Nat} {r : Sn} (hs : ∀ k, k < n → r k = true → p k) (hp : ∀ a b, a < n → b < n → p a → lb a b = true → p b) (ha : a < n) (hb : b < n) : ∀ k, k < n → stepS lb a r b k = true → p k := by
  intro k hk h
  unfold stepS setS at h
  split at h
  · rename_i e; subst e
    rw [Bool.or_eq_true, Bool.and_eq_true] at h
    rcases h with h | ⟨h1, h2⟩
    · exact hs k hk h
    · exact hp a k ha hb (hs a ha h1) h2
  · exact hs k hk h
theorem rowS_sound {p : Nat → Prop} {n a : Nat} {r : Sn} (hs : ∀ k, k < n → r k = true → p k) (hp : ∀ a b, a < n → b < n → p a → lb a b = true → p b) (ha : a < n) : ∀ k, k < n → rowS lb n a r k = true → p k := by
  unfold rowS
  have : ∀ (l : List Nat) (r : Sn), (∀ x ∈ l, x < n) → (∀ k, k < n → r k = true → p k) → ∀ k, k < n → l.foldl (stepS lb a) r k = true → p k := by
    intro l
    induction l with
    | nil => intro r _ h; exact h
    | cons b l ih => intro r h hr; exact ih _ (fun x hx => h x (by simp [hx])) (stepS_sound hr hp ha (h b (by simp)))
  exact this _ r (fun x hx => List.mem_range.1 hx) hs
theorem rndS_sound {p : Nat → Prop} {n : Nat} {r : Sn} (hs : ∀ k, k < n → r k = true → p k) (hp : ∀ a b, a < n → b < n → p a → lb a b = true → p b) : ∀ k, k < n → rndS lb n r k = true → p k := by
  unfold rndS
  have : ∀ (l : List Nat) (r : Sn), (∀ x ∈ l, x < n) → (∀ k, k < n → r k = true → p k) → ∀ k, k < n → l.foldl (fun r a => rowS lb n a r) r k = true → p k := by
    intro l
    induction l with
    | nil => intro r _ h; exact h
    | cons b l ih => intro r h hr; exact ih _ (fun x hx => h x (by simp [hx])) (rowS_sound hr hp (h b (by simp)))
  exact this _ r (fun x hx => List.mem_range.1 hx) hs
theorem it_sound {p : Nat → Prop} {n : Nat} {r : Sn} (hs : ∀ k, k < n → r k = true → p k) (hp : ∀ a b, a < n → b < n → p a → lb a b = true → p b) : ∀ t k, k < n → itS lb n r t k = true → p k
  | 0 => hs
  | t + 1 => rndS_sound (it_sound hs hp t) hp
end
/-- Does the text of one name another one? -/
def leansB (l : Ms) (i k : Nat) : Bool := decide ((outT (txM l i)).2.2 = 0) && (wrM l i).any fun w => decide (w.2.kind = 11) && decide (w.2.name = nmM l k)
theorem leansB_iff {l : Ms} (hr : Right l) {i k : Nat} (hi : i < l.length) (hk : k < l.length) : leansB l i k = true ↔ Leans l i k := by
  unfold leansB Leans onM
  rw [hr.words i hi, Bool.and_eq_true, List.any_eq_true, List.mem_filterMap]
  constructor
  · rintro ⟨-, w, hw, h⟩
    rw [Bool.and_eq_true, decide_eq_true_eq, decide_eq_true_eq] at h
    refine ⟨w, hw, ?_⟩
    unfold onW
    rw [if_pos h.1, h.2, idxM_at hr.dist hk]
  · rintro ⟨w, hw, h⟩
    refine ⟨by simp, w, hw, ?_⟩
    unfold onW at h
    split at h
    · rename_i hkind
      rw [Bool.and_eq_true, decide_eq_true_eq, decide_eq_true_eq]
      exact ⟨hkind, (idxM_some h).2.symm⟩
    · cases h
theorem way_lt {l : Ms} {i k : Nat} (h : Way l i k) : k < l.length := by
  induction h with
  | single h => exact onM_lt h
  | tail _ h _ => exact onM_lt h
/-- Does one lean on itself, by so many rounds? -/
def cycM (l : Ms) (i : Nat) : Bool := cycS (leansB l) l.length i
theorem cycM_iff {l : Ms} (hr : Right l) {i : Nat} (hi : i < l.length) : cycM l i = true ↔ Way l i i := by
  unfold cycM cycS
  constructor
  · intro h
    refine it_sound (p := fun k => Way l i k) (fun k hk h => ?_) (fun a b ha hb hw hl => ?_) l.length i hi h
    · exact .single ((leansB_iff hr hi hk).1 h)
    · exact .tail hw ((leansB_iff hr ha hb).1 hl)
  · intro h
    have key : ∀ k, Way l i k → itS (leansB l) l.length (fun k => leansB l i k) l.length k = true := by
      intro k hw
      induction hw with
      | single h => exact it_mono ((leansB_iff hr hi (onM_lt h)).2 h) _
      | tail h1 h2 ih => exact it_clo _ _ (way_lt h1) (onM_lt h2) ih ((leansB_iff hr (way_lt h1) (onM_lt h2)).2 h2)
    exact key i h
/-- What Expand has to answer, of what is wrong with names, words and ways. -/
def earlyM (l : Ms) : E3 := early l (cycM l)
theorem earlyM_zero {l : Ms} : (earlyM l).2.2 = 0 ↔ Right l ∧ ∀ i, i < l.length → ¬ Way l i i := by
  unfold earlyM
  rw [early_zero]
  constructor
  · rintro ⟨h1, h2⟩
    exact ⟨h1, fun i hi hw => by have := h2 i hi; rw [(cycM_iff h1 hi).2 hw] at this; cases this⟩
  · rintro ⟨h1, h2⟩
    refine ⟨h1, fun i hi => ?_⟩
    cases hc : cycM l i with
    | false => rfl
    | true => exact absurd ((cycM_iff h1 hi).1 hc) (h2 i hi)
theorem allE_first {f : Nat → E3} : ∀ {n i : Nat}, i < n → (∀ k, k < i → (f k).2.2 = 0) → (f i).2.2 ≠ 0 → allE f n = f i
  | 0, _, h, _, _ => by omega
  | n + 1, i, h, h0, h1 => by
    rw [allE]
    by_cases e : i = n
    · subst e
      unfold orE
      rw [if_neg (fun hn => hn (allE_zero.2 h0))]
    · rw [allE_first (by omega : i < n) h0 h1]
      unfold orE
      rw [if_pos h1]

/-! ### what is to do -/
/-- What may still come. -/
def leftS (l : Ms) (seen : Sn) : Nat := (((List.range l.length).filter fun k => !seen k).map fun k => (onM l k).length).sum
theorem sum_split {f : Nat → Nat} {p : Nat → Bool} {k : Nat} : ∀ (L : List Nat), L.Nodup → k ∈ L → p k = false → ((L.filter fun x => !p x).map f).sum = f k + ((L.filter fun x => !(setS p k true) x).map f).sum
  | [], _, h, _ => by cases h
  | a :: L, hn, h, hp => by
    obtain ⟨ha, hn⟩ := List.nodup_cons.1 hn
    rw [List.filter_cons, List.filter_cons]
    by_cases e : k = a
    · subst e
      have e2 : (setS p k true) k = true := by unfold setS; rw [if_pos rfl]
      rw [hp, e2]
      simp only [Bool.not_false, if_true, Bool.not_true, Bool.false_eq_true, if_false, List.map_cons, List.sum_cons]
      congr 2
      congr 1
      refine List.filter_congr fun x hx => ?_
      unfold setS
      rw [if_neg (fun (e : x = k) => ha (e ▸ hx))]
    · have hk : k ∈ L := by rcases List.mem_cons.1 h with h | h; exact absurd h e; exact h
      have e2 : (setS p k true) a = p a := by unfold setS; rw [if_neg (fun h => e h.symm)]
      rw [e2]
      have ih := sum_split (f := f) L hn hk hp
      cases hpa : p a with
      | true => simp only [Bool.not_true, Bool.false_eq_true, if_false]; exact ih
      | false =>
        simp only [Bool.not_false, if_true, List.map_cons, List.sum_cons]
        rw [ih]; omega
theorem leftS_take {l : Ms} {seen : Sn} {k : Nat} (hk : k < l.length) (hs : seen k = false) : leftS l seen = (onM l k).length + leftS l (setS seen k true) :=
  sum_split _ List.nodup_range (List.mem_range.2 hk) hs
/-- What is told, while something is to do. -/
structure Todo (l : Ms) (i : Nat) (seen : Sn) (todo : List Nat) : Prop where
  way : ∀ k, seen k = true → Way l i k
  ways : ∀ k ∈ todo, Way l i k
  first : ∀ k, Leans l i k → seen k = true ∨ k ∈ todo
  on_ : ∀ a b, seen a = true → Leans l a b → seen b = true ∨ b ∈ todo
theorem Todo.start (l : Ms) (i : Nat) : Todo l i (fun _ => false) (onM l i) :=
  ⟨fun _ h => (by cases h), fun _ h => .single h, fun _ h => .inr h, fun _ _ h => by cases h⟩
theorem Todo.skip {l : Ms} {i k : Nat} {seen : Sn} {todo : List Nat} (h : Todo l i seen (k :: todo)) (hs : seen k = true) : Todo l i seen todo := by
  have key : ∀ b, (seen b = true ∨ b ∈ k :: todo) → seen b = true ∨ b ∈ todo := by
    rintro b (hb | hb)
    · exact .inl hb
    · rcases List.mem_cons.1 hb with rfl | hb
      · exact .inl hs
      · exact .inr hb
  exact ⟨h.way, fun b hb => h.ways b (by simp [hb]), fun b hb => key b (h.first b hb), fun a b ha hb => key b (h.on_ a b ha hb)⟩
theorem Todo.take {l : Ms} {i k : Nat} {seen : Sn} {todo : List Nat} (h : Todo l i seen (k :: todo)) : Todo l i (setS seen k true) (todo ++ onM l k) := by
  have hk : Way l i k := h.ways k (by simp)
  have key : ∀ b, (seen b = true ∨ b ∈ k :: todo) → setS seen k true b = true ∨ b ∈ todo ++ onM l k := by
    rintro b hb
    unfold setS
    by_cases e : b = k
    · rw [if_pos e]; exact .inl rfl
    · rw [if_neg e]
      rcases hb with hb | hb
      · exact .inl hb
      · rcases List.mem_cons.1 hb with hb | hb
        · exact absurd hb e
        · exact .inr (List.mem_append_left _ hb)
  refine ⟨fun b hb => ?_, fun b hb => ?_, fun b hb => key b (h.first b hb), fun a b ha hb => ?_⟩
  · unfold setS at hb
    split at hb
    · rename_i e; subst e; exact hk
    · exact h.way b hb
  · rcases List.mem_append.1 hb with hb | hb
    · exact h.ways b (by simp [hb])
    · exact .tail hk hb
  · by_cases e : a = k
    · subst e; exact .inr (List.mem_append_right _ hb)
    · unfold setS at ha; rw [if_neg e] at ha
      exact key b (h.on_ a b ha hb)
theorem Todo.done {l : Ms} {i : Nat} {seen : Sn} (h : Todo l i seen []) (k : Nat) : seen k = true ↔ Way l i k := by
  refine ⟨h.way k, fun hw => ?_⟩
  induction hw with
  | single hl => rcases h.first _ hl with h | h; exact h; cases h
  | tail _ hl ih => rcases h.on_ _ _ ih hl with h | h; exact h; cases h
theorem sum_le {f : Nat → Nat} {B : Nat} : ∀ (L : List Nat), (∀ x ∈ L, f x ≤ B) → (L.map f).sum ≤ L.length * B
  | [], _ => by simp
  | a :: L, h => by
    have := sum_le L fun x hx => h x (by simp [hx])
    have h2 := h a (by simp)
    rw [List.map_cons, List.sum_cons, List.length_cons, Nat.add_mul]
    omega
theorem leftS_le {l : Ms} {seen : Sn} {B : Nat} (h : ∀ k, k < l.length → (onM l k).length ≤ B) : leftS l seen ≤ l.length * B := by
  unfold leftS
  refine Nat.le_trans (sum_le _ fun x hx => h x (List.mem_range.1 (List.mem_filter.1 hx).1)) ?_
  refine Nat.mul_le_mul_right _ ?_
  exact Nat.le_trans (List.length_filter_le _ _) (by simp)
end Go.Proofs.YtemdkfohlppckaaGreatDoor.ma
