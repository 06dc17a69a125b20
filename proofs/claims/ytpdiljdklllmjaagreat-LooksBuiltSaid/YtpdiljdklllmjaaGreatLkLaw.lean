/- Looks, plain law: what is gathered is found again; the bits of looks tell them apart. Conditions: none. -/
import Derived.Test.YtpdiljdklllmjaaGreatLooksMake
import Derived.Test.YtpdiljdklllmjaaGreatNoBound

namespace Go.Proofs.YtpdiljdklllmjaaGreat.looks
open Go Go.Ev Go.Proofs Go.Proofs.YtpdiljdklllmjaaGreat.tree Go.Proofs.YtpdiljdklllmjaaGreat.ar Go.Proofs.YtpdiljdklllmjaaGreat.tabs

/-- What is told alike is one pattern. -/
theorem same_eq : ∀ (k : Nat) (x y : Re), sameR k x y = true → x = y := by
  intro k
  induction k with
  | zero => intro x y h; cases h
  | succ k ih =>
    intro x y h
    obtain ⟨k1, s0, s1, s2, s3, rs, lo, hi, neg⟩ := x
    obtain ⟨k2, t0, t1, t2, t3, rs', lo', hi', neg'⟩ := y
    simp only [sameR, headEq, Re.parts, Bool.and_eq_true, decide_eq_true_eq] at h
    obtain ⟨⟨rfl, ⟨rfl, rfl, rfl, rfl⟩, rfl, rfl, rfl, hl⟩, hp⟩ := h
    have := (all_zip rs rs' hl).1 hp
    have e : rs = rs' := by
      apply List.ext_getElem hl
      intro i h1 h2
      exact ih _ _ (this i _ _ (List.getElem?_eq_getElem h1) (List.getElem?_eq_getElem h2))
    subst e; rfl
theorem like_eq {x r : Re} (h : likeR x r = true) : x = bareR r := by
  unfold likeR at h
  simp only [Bool.and_eq_true] at h
  exact same_eq _ _ _ h.2
theorem idxR_get {f : Re → Bool} : ∀ (l : List Re), 0 ≤ idxR f l → ∃ x, l[(idxR f l).toNat]? = some x ∧ f x = true := by
  intro l
  induction l with
  | nil => intro h; simp [idxR] at h
  | cons p l ih =>
    intro h
    simp only [idxR] at h ⊢
    by_cases hp : f p = true
    · rw [if_pos hp]; exact ⟨p, rfl, hp⟩
    · rw [if_neg hp] at h ⊢
      by_cases h2 : idxR f l < 0
      · rw [if_pos h2] at h; omega
      · rw [if_neg h2]
        obtain ⟨x, hx, hf⟩ := ih (by omega)
        refine ⟨x, ?_, hf⟩
        rw [show (idxR f l + 1).toNat = (idxR f l).toNat + 1 by omega]
        simpa using hx

/-- Which look of a list a pattern is. -/
def lkR (ls : List Re) (r : Re) : Int := idxR (fun y => likeR y r) ls
theorem lkR_lt {ls : List Re} {r : Re} (h : 0 ≤ lkR ls r) : lkR ls r < ls.length := by
  obtain ⟨x, hx, -⟩ := idxR_get ls h
  have := (List.getElem?_eq_some_iff.1 hx).1
  unfold lkR at h ⊢
  omega

/-! ### All looks of a pattern are found -/
mutual
def fndR (ls : List Re) : Re → Prop
  | .mk k s0 s1 s2 s3 rs lo hi neg => (8 ≤ k → 0 ≤ lkR ls (.mk k s0 s1 s2 s3 rs lo hi false)) ∧ fndL ls rs
def fndL (ls : List Re) : List Re → Prop
  | [] => True
  | r :: l => fndR ls r ∧ fndL ls l
end
mutual
theorem looks_sub : ∀ (r : Re) (ls : List Re), ∀ x ∈ ls, x ∈ looksR r ls
  | .mk k s0 s1 s2 s3 rs lo hi neg, ls, x, hx => by
    have ih := looks_subL rs ls x hx
    rw [looksR]
    split
    · exact ih
    split
    · exact ih
    · exact List.mem_append.2 (.inl ih)
theorem looks_subL : ∀ (l ls : List Re), ∀ x ∈ ls, x ∈ looksL l ls
  | [], ls, x, hx => hx
  | r :: l, ls, x, hx => looks_subL l _ x (looks_sub r ls x hx)
end
mutual
theorem looks_fnd (LS : List Re) : ∀ (r : Re) (ls : List Re), deepR 40 r ≤ 40 → (∀ x ∈ ls, deepR 40 x ≤ 40) → (∀ x ∈ looksR r ls, x ∈ LS) → fndR LS r
  | .mk k s0 s1 s2 s3 rs lo hi neg, ls, hd, hls, h => by
    have hp := deep40_part hd
    have hsub : ∀ x ∈ looksL rs ls, x ∈ looksR (.mk k s0 s1 s2 s3 rs lo hi neg) ls := fun x hx => by
      rw [looksR]
      split
      · exact hx
      split
      · exact hx
      · exact List.mem_append.2 (.inl hx)
    rw [fndR]
    refine ⟨fun hk => ?_, looks_fndL LS rs ls hp hls (fun x hx => h x (hsub x hx))⟩
    refine (idxR_neg (f := fun y => likeR y (.mk k s0 s1 s2 s3 rs lo hi false)) LS).2 (List.any_eq_true.2 ?_)
    have hdb : deepR 40 (bareR (.mk k s0 s1 s2 s3 rs lo hi neg)) ≤ 40 := by rw [deep_bare]; exact hd
    have hlike : ∀ x, x = bareR (.mk k s0 s1 s2 s3 rs lo hi neg) → likeR x (.mk k s0 s1 s2 s3 rs lo hi false) = true := fun x e => by
      subst e
      unfold likeR
      rw [decide_eq_true hdb, show bareR (.mk k s0 s1 s2 s3 rs lo hi false) = bareR (.mk k s0 s1 s2 s3 rs lo hi neg) from rfl, decide_eq_true hdb, sameR_refl 40 _ hdb]; rfl
    by_cases ha : (looksL rs ls).any (fun x => sameR 41 x (bareR (.mk k s0 s1 s2 s3 rs lo hi neg))) = true
    · obtain ⟨x, hx, hs⟩ := List.any_eq_true.1 ha
      exact ⟨x, h x (hsub x hx), hlike x (same_eq _ _ _ hs)⟩
    · refine ⟨_, h (bareR (.mk k s0 s1 s2 s3 rs lo hi neg)) ?_, hlike _ rfl⟩
      rw [looksR, if_neg (by omega), if_neg ha]
      simp
theorem looks_fndL (LS : List Re) : ∀ (l ls : List Re), (∀ p ∈ l, deepR 40 p ≤ 40) → (∀ x ∈ ls, deepR 40 x ≤ 40) → (∀ x ∈ looksL l ls, x ∈ LS) → fndL LS l
  | [], _, _, _, _ => by rw [fndL]; trivial
  | r :: l, ls, hd, hls, h => by
    rw [fndL]
    have hr := hd r (by simp)
    exact ⟨looks_fnd LS r ls hr hls fun x hx => h x (looks_subL l _ x hx), looks_fndL LS l _ (fun p hp => hd p (by simp [hp])) (looks_deep r ls hr hls) h⟩
end
theorem partsK0' {k : Int} (h : k = 0 ∨ k = 1 ∨ k = 2) : partsK k = 0 := by
  unfold partsK; rw [if_neg (by omega), if_neg (by omega)]
mutual
/-- Where all looks are found, none is amiss. -/
theorem err_fnd {ls : List Re} (h4 : ls.length ≤ 4) : ∀ r : Re, fndR ls r → ∀ (ns : List Nd) (e : Int), (∀ k s0 s1 s2 s3 rs lo hi neg, r = .mk k s0 s1 s2 s3 rs lo hi neg → True) → allR r = true → (bR (lkR ls) r ns e).1.2 = e
  | .mk k s0 s1 s2 s3 rs lo hi neg, hf, ns, e, _, hall => by
    simp only [allR, Bool.and_eq_true, decide_eq_true_eq] at hall
    obtain ⟨hOw, hall⟩ := hall
    rw [allL_eq, List.all_eq_true] at hall
    obtain ⟨⟨hk0, -⟩, -⟩ := hOw
    rw [fndR] at hf
    obtain ⟨hf1, hf2⟩ := hf
    have ih := err_fndL h4 rs hf2 hall
    rw [bR]
    split
    · rfl
    split
    · rfl
    split
    · rfl
    split
    · exact ih _ e
    split
    · exact ih _ e
    split
    · exact ih _ e
    split
    · exact ih _ e
    split
    · exact ih _ e
    · have h0 := hf1 (by omega)
      have h1 := lkR_lt h0
      unfold lookedN
      rw [if_neg (by omega)]
theorem err_fndL {ls : List Re} (h4 : ls.length ≤ 4) : ∀ l : List Re, fndL ls l → (∀ p ∈ l, allR p = true) → ∀ (ns : List Nd) (e : Int), (bL (lkR ls) l ns e).1.2 = e
  | [], _, _, ns, e => rfl
  | r :: l, hf, h, ns, e => by
    rw [fndL] at hf
    rw [bL]
    dsimp only
    rw [err_fndL h4 l hf.2 (fun p hp => h p (by simp [hp])), err_fnd h4 r hf.1 ns e (fun _ _ _ _ _ _ _ _ _ _ => trivial) (h r (by simp))]
end

mutual
/-- What the looks of a pattern have of it. -/
theorem looks_of {P : Re → Prop} (hb : ∀ r, P r → P (bareR r)) (hp : ∀ k s0 s1 s2 s3 rs lo hi neg, P (.mk k s0 s1 s2 s3 rs lo hi neg) → ∀ p ∈ rs, P p) : ∀ (r : Re) (ls : List Re), P r → (∀ x ∈ ls, P x) → ∀ x ∈ looksR r ls, P x
  | .mk k s0 s1 s2 s3 rs lo hi neg, ls, h, hl, x, hx => by
    have ih := looks_ofL hb hp rs ls (hp _ _ _ _ _ _ _ _ _ h) hl
    rw [looksR] at hx
    split at hx
    · exact ih x hx
    split at hx
    · exact ih x hx
    · rcases List.mem_append.1 hx with hx | hx
      · exact ih x hx
      · rw [List.mem_singleton.1 hx]; exact hb _ h
theorem looks_ofL {P : Re → Prop} (hb : ∀ r, P r → P (bareR r)) (hp : ∀ k s0 s1 s2 s3 rs lo hi neg, P (.mk k s0 s1 s2 s3 rs lo hi neg) → ∀ p ∈ rs, P p) : ∀ (l ls : List Re), (∀ p ∈ l, P p) → (∀ x ∈ ls, P x) → ∀ x ∈ looksL l ls, P x
  | [], _, _, hl, x, hx => hl x hx
  | r :: l, ls, h, hl, x, hx => looks_ofL hb hp l _ (fun p hm => h p (by simp [hm])) (looks_of hb hp r ls (h r (by simp)) hl) x hx
end
theorem all_bare (r : Re) (h : allR r = true) : allR (bareR r) = true := by
  obtain ⟨k, s0, s1, s2, s3, rs, lo, hi, neg⟩ := r
  simp only [bareR, allR, Bool.and_eq_true, decide_eq_true_eq] at h ⊢
  obtain ⟨⟨h1, h2, h3, h4, h5, h6⟩, h7⟩ := h
  exact ⟨⟨h1, h2, h3, fun h => (by cases h), h5, h6⟩, h7⟩
theorem all_part (k s0 s1 s2 s3 : Int) (rs : List Re) (lo hi : Int) (neg : Bool) (h : allR (.mk k s0 s1 s2 s3 rs lo hi neg) = true) : ∀ p ∈ rs, allR p = true := by
  simp only [allR, Bool.and_eq_true] at h
  have := h.2
  rw [allL_eq, List.all_eq_true] at this
  exact this

/-! ### The bits of looks -/
def bitN (f : Nat → Bool) : Nat → Int
  | 0 => 0
  | j + 1 => bitN f j + if f j then (2 ^ j : Nat) else 0
theorem bitN_rng (f : Nat → Bool) (j : Nat) (h : j ≤ 4) : 0 ≤ bitN f j ∧ bitN f j < (2 ^ j : Nat) := by
  have : j = 0 ∨ j = 1 ∨ j = 2 ∨ j = 3 ∨ j = 4 := by omega
  rcases this with rfl | rfl | rfl | rfl | rfl <;> simp only [bitN] <;> cases f 0 <;> cases f 1 <;> cases f 2 <;> cases f 3 <;> decide
theorem bitN_at (f : Nat → Bool) (j k : Nat) (h : j ≤ 4) (hk : k < j) : decide ((bitN f j).toNat / 2 ^ k % 2 = 1) = f k := by
  have h1 : j = 1 ∨ j = 2 ∨ j = 3 ∨ j = 4 := by omega
  have h2 : k = 0 ∨ k = 1 ∨ k = 2 ∨ k = 3 := by omega
  rcases h1 with rfl | rfl | rfl | rfl <;> rcases h2 with rfl | rfl | rfl | rfl <;> first | omega | (simp only [bitN]; cases f 0 <;> cases f 1 <;> cases f 2 <;> cases f 3 <;> decide)
/-- Is a look true at a place? -/
def atN (ls : List Re) (ws : List Int) (i k : Nat) : Bool := match ls[k]? with | some x => spansR ws x i i | none => false
/-- Which looks are true at each place, of the first ones. -/
def bitsR (ls : List Re) (ws : List Int) (j : Nat) : List Int := (List.range (ws.length + 1)).map fun i => bitN (atN ls ws i) j
theorem bits_ok {ls : List Re} {ws : List Int} (h4 : ls.length ≤ 4) : LooksOk ws (bitsR ls ws ls.length) (lkR ls) := by
  intro k s0 s1 s2 s3 lo hi rs hk h0 _ i hi'
  have hlt := lkR_lt h0
  obtain ⟨x, hx, hf⟩ := idxR_get ls h0
  change ls[(lkR ls (.mk k s0 s1 s2 s3 rs lo hi false)).toNat]? = some x at hx
  have hxe : x = .mk k s0 s1 s2 s3 rs lo hi false := like_eq hf
  generalize lkR ls (.mk k s0 s1 s2 s3 rs lo hi false) = q at *
  have e : (bitsR ls ws ls.length).getD i 0 = bitN (atN ls ws i) ls.length := by
    unfold bitsR
    rw [List.getD_eq_getElem?_getD, List.getElem?_map, List.getElem?_range hi']
    rfl
  rw [e, bitN_at _ _ _ h4 (by omega)]
  unfold atN
  rw [hx, hxe]
theorem bitsR_len (ls : List Re) (ws : List Int) (j : Nat) : (bitsR ls ws j).length = ws.length + 1 := by simp [bitsR]
theorem bitsR_rng {ls : List Re} {ws : List Int} {j : Nat} (h : j ≤ 4) : ∀ z ∈ bitsR ls ws j, 0 ≤ z ∧ z ≤ 255 := by
  intro z hz
  obtain ⟨i, -, rfl⟩ := List.mem_map.1 hz
  have := bitN_rng (atN ls ws i) j h
  have : (2 ^ j : Nat) ≤ 2 ^ 4 := Nat.pow_le_pow_right (by omega) h
  omega
/-- In the midst of a row. -/
def mixB (ls : List Re) (ws : List Int) (j i : Nat) : List Int := (List.range (ws.length + 1)).map fun p => bitN (atN ls ws p) (if p < i then j + 1 else j)
theorem mix_zero (ls : List Re) (ws : List Int) (j : Nat) : mixB ls ws j 0 = bitsR ls ws j := by simp [mixB, bitsR]
theorem mix_end (ls : List Re) (ws : List Int) (j : Nat) : mixB ls ws j (ws.length + 1) = bitsR ls ws (j + 1) := by
  unfold mixB bitsR
  refine List.map_congr_left fun p hp => ?_
  rw [if_pos (List.mem_range.1 hp)]
theorem mix_len (ls : List Re) (ws : List Int) (j i : Nat) : (mixB ls ws j i).length = ws.length + 1 := by simp [mixB]
theorem mix_get {ls : List Re} {ws : List Int} {j i : Nat} (h : i < ws.length + 1) : (mixB ls ws j i)[i]? = some (bitN (atN ls ws i) j) := by
  unfold mixB
  rw [List.getElem?_map, List.getElem?_range h]
  simp
theorem mix_next {ls : List Re} {ws : List Int} {j i : Nat} (h : i < ws.length + 1) : mixB ls ws j (i + 1) = (mixB ls ws j i).set i (bitN (atN ls ws i) (j + 1)) := by
  apply List.ext_getElem
  · simp [mixB]
  intro p h1 h2
  have hat : ∀ (i p : Nat) (h : p < (mixB ls ws j i).length), (mixB ls ws j i)[p] = bitN (atN ls ws p) (if p < i then j + 1 else j) := fun i p h => by simp [mixB]
  rw [List.getElem_set, hat, hat]
  by_cases e : i = p
  · subst e; rw [if_pos rfl, if_pos (by omega)]
  · rw [if_neg e]
    by_cases h3 : p < i
    · rw [if_pos h3, if_pos (by omega)]
    · rw [if_neg h3, if_neg (by omega)]
theorem mix_same {ls : List Re} {ws : List Int} {j i : Nat} (h : i < ws.length + 1) (hf : atN ls ws i j = false) : mixB ls ws j (i + 1) = mixB ls ws j i := by
  rw [mix_next h]
  have e : bitN (atN ls ws i) (j + 1) = bitN (atN ls ws i) j := by simp [bitN, hf]
  rw [e]
  apply List.ext_getElem?
  intro p
  rw [List.getElem?_set]
  split
  · rename_i h1
    subst h1
    rw [mix_get h, if_pos (by rw [mix_len]; exact h)]
  · rfl
end Go.Proofs.YtpdiljdklllmjaaGreat.looks
