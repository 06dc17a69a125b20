/- A plain pattern's text is read as its words, in plain Lean. Conditions: none. -/
import Derived.Test.YtjdfpdlcmkadnaaGreatDoorPaClass
import Derived.Test.YtjdfpdlcmkadnaaGreatDoorPrPlain
import Derived.Test.YtjdfpdlcmkadnaaGreatDoorLxPlain

namespace Go.Proofs.YtjdfpdlcmkadnaaGreatDoor.pa
open Go Go.Ev Go.Proofs Go.Proofs.YtjdfpdlcmkadnaaGreatDoor.lx Go.Proofs.YtjdfpdlcmkadnaaGreatDoor.tree
open Go.Proofs.YtjdfpdlcmkadnaaGreatDoor.tabs (hasR in64)
open Go.Proofs.YtjdfpdlcmkadnaaGreatDoor.bd (jn jnT jn_cons)
open Go.Proofs.YtjdfpdlcmkadnaaGreatDoor.pt (textR textR_eq topT par numT)

/-- Plain: nothing that stands for something else. -/
inductive Pl : Re → Prop
  | mk (k s0 s1 s2 s3 : Int) (rs : List Re) (lo hi : Int) (neg : Bool) (hk : k ≠ 0) (h2 : k = 3 ∨ k = 4 ∨ k = 5 → 2 ≤ rs.length) (hp : ∀ p ∈ rs, Pl p) : Pl (.mk k s0 s1 s2 s3 rs lo hi neg)
theorem Pl.leaf {k : Int} (h : k = 1 ∨ k = 2 ∨ k = 10 ∨ k = 11) : Pl (leafR k) := .mk _ _ _ _ _ _ _ _ _ (by omega) (by omega) (by simp)
theorem Pl.self (r : Re) : Pl r → plainR r = r := by
  induction r using Re.ind with
  | h k s0 s1 s2 s3 rs lo hi neg ih =>
    intro h
    cases h with
    | mk _ _ _ _ _ _ _ _ _ hk h2 hp =>
    have e : rs.map plainR = rs := by
      have : ∀ p ∈ rs, plainR p = p := fun p hm => ih p hm (hp p hm)
      clear ih hp h2
      induction rs with
      | nil => rfl
      | cons a l ih2 => rw [List.map_cons, this a (by simp), ih2 fun p hm => this p (by simp [hm])]
    rw [plainR_eq, e]
    exact topR_self hk (by by_cases h5 : k = 3 ∨ k = 4 ∨ k = 5; exact .inr (h2 h5); exact .inl h5)
/-- Readable: plain, and formed. -/
inductive Rd : Re → Prop
  | mk (k s0 s1 s2 s3 : Int) (rs : List Re) (lo hi : Int) (neg : Bool) (hk : k ≠ 0) (h2 : k = 3 ∨ k = 4 ∨ k = 5 → 2 ≤ rs.length) (ho : Own k s0 s1 s2 s3 rs.length lo hi neg) (h64 : in64 s0 ∧ in64 s1 ∧ in64 s2 ∧ in64 s3) (hp : ∀ p ∈ rs, Rd p) : Rd (.mk k s0 s1 s2 s3 rs lo hi neg)
theorem rd_of (r : Re) : ∀ (m : Mem) (cs : List Value), RepRe m cs r → Pl r → allR r = true → Rd r := by
  induction r using Re.ind with
  | h k s0 s1 s2 s3 rs lo hi neg ih =>
    intro m cs h hp ha
    obtain ⟨A, n, c, rfl, hs, hk0, h0, h1, h2, h3, hlo, hhi⟩ := h.open
    cases hp with
    | mk _ _ _ _ _ _ _ _ _ hk hk2 hp =>
    simp only [allR, Bool.and_eq_true, decide_eq_true_eq, allL_eq, List.all_eq_true] at ha
    refine .mk _ _ _ _ _ _ _ _ _ hk hk2 ha.1 ⟨h0, h1, h2, h3⟩ fun p hm => ?_
    obtain ⟨i, hi, rfl⟩ := List.getElem_of_mem hm
    obtain ⟨a, cs', -, -, -, hr⟩ := hs.elem i _ (List.getElem?_eq_getElem hi)
    exact ih _ hm m cs' hr (hp _ hm) (ha.2 _ hm)

def wpar (ws : List W) : List W := wK 2 :: (ws ++ [wK 3])
def wjn (sep : List W) : List (List W) → List W
  | [] => []
  | a :: r => a ++ (r.map fun s => sep ++ s).flatten
def whd : List (List W) → List W
  | [] => []
  | a :: _ => a
def lookK (k : Int) (neg : Bool) : Int := if k = 9 then (if neg = true then 15 else 14) else (if neg = true then 13 else 12)
def topW (k s0 s1 s2 s3 : Int) (ts : List (List W)) (lo hi : Int) (neg : Bool) : List W :=
  if k = 1 then [wK 2, wK 3] else if k = 2 then [wB (setF s0 s1 s2 s3)] else if k = 3 then wjn [] (ts.map wpar) else if k = 4 then wjn [wK 4] (ts.map wpar) else if k = 5 then wjn [wK 5] (ts.map wpar)
  else if k = 6 then wK 6 :: wjn [] (ts.map wpar) else if k = 7 then wjn [] (ts.map wpar) ++ [⟨10, zeroF, [], lo, hi⟩] else if k = 8 ∨ k = 9 then wK (lookK k neg) :: (whd ts ++ [wK 3]) else if k = 10 then [wK 16] else [wK 17]
mutual
/-- The words of a plain pattern's text. -/
def wsR : Re → List W
  | .mk k s0 s1 s2 s3 rs lo hi neg => topW k s0 s1 s2 s3 (wsL rs) lo hi neg
def wsL : List Re → List (List W)
  | [] => []
  | p :: l => wsR p :: wsL l
end
theorem wsL_eq (l : List Re) : wsL l = l.map wsR := by
  induction l with
  | nil => rfl
  | cons p l ih => simp only [wsL, List.map_cons, ih]
theorem wsR_eq (k s0 s1 s2 s3 : Int) (rs : List Re) (lo hi : Int) (neg : Bool) : wsR (.mk k s0 s1 s2 s3 rs lo hi neg) = topW k s0 s1 s2 s3 (rs.map wsR) lo hi neg := by
  simp only [wsR, wsL_eq]

/-- A text is read as words, whatever follows. -/
def Lx (t : List UInt8) (ws : List W) : Prop := ∀ (k : Nat) (z : List UInt8) (at_ : Nat) (out : List (Nat × W)), (t ++ z).length < k →
  ∃ k' l, z.length < k' ∧ l.map Prod.snd = ws ∧ goT k (t ++ z) at_ out = goT k' z (at_ + t.length) (out ++ l)
theorem Lx.nil : Lx [] [] := fun k z at_ out h => ⟨k, [], h, rfl, by simp⟩
theorem Lx.app {t u : List UInt8} {ws vs : List W} (h : Lx t ws) (g : Lx u vs) : Lx (t ++ u) (ws ++ vs) := by
  intro k z at_ out hk
  rw [List.append_assoc] at hk ⊢
  obtain ⟨k1, l1, h1, h2, h3⟩ := h k (u ++ z) at_ out hk
  obtain ⟨k2, l2, g1, g2, g3⟩ := g k1 z (at_ + t.length) (out ++ l1) h1
  exact ⟨k2, l1 ++ l2, g1, by rw [List.map_append, h2, g2], by rw [h3, g3, List.length_append, List.append_assoc, Nat.add_assoc]⟩
theorem go_one {k : Nat} {c : UInt8} {r : List UInt8} {at_ n : Nat} {out : List (Nat × W)} {x : W} (hb : blankT c = false) (h : lx.stepT (c :: r) = (x, n)) (hn : n ≠ 0) :
    goT (k + 1) (c :: r) at_ out = goT k ((c :: r).drop n) (at_ + n) (out ++ [(at_, x)]) := by
  rw [goT, hb, h, if_neg (by decide), if_neg hn]
theorem Lx.word {c : UInt8} {t : List UInt8} {x : W} (hb : blankT c = false) (h : ∀ z, lx.stepT (c :: t ++ z) = (x, (c :: t).length)) : Lx (c :: t) [x] := by
  intro k z at_ out hk
  cases k with
  | zero => omega
  | succ k =>
    have h1 := h z
    rw [List.cons_append] at h1 hk ⊢
    refine ⟨k, [(at_, x)], ?_, rfl, ?_⟩
    · rw [List.length_cons, List.length_append] at hk; omega
    · rw [go_one hb h1 (by simp)]
      congr 1
      rw [List.length_cons, List.drop_succ_cons, List.drop_append, Nat.sub_self, List.drop_zero, List.drop_eq_nil_of_le (Nat.le_refl _), List.nil_append]
theorem look_no {c : UInt8} (z : List UInt8) (h : c ≠ 40) : lx.lookT (c :: z) = (0, 0) := by
  have : ¬ 40 = c := fun e => h e.symm
  unfold lx.lookT; simp [List.isPrefixOf, this]
theorem look_no2 (z : List UInt8) (h : z.head? ≠ some 63) : lx.lookT (40 :: z) = (0, 0) := by
  cases z with
  | nil => rfl
  | cons c z =>
    have : ¬ 63 = c := fun e => h (by rw [← e]; rfl)
    unfold lx.lookT; simp [List.isPrefixOf, this]
theorem step_open (z : List UInt8) (h : z.head? ≠ some 63) : lx.stepT (40 :: z) = (wK 2, 1) := by
  unfold lx.stepT
  rw [look_no2 z h, if_neg (by decide)]
  simp only
  rw [if_neg (by decide), if_neg (by decide), if_neg (by decide), if_neg (by decide), if_pos (by decide)]; rfl
theorem lx_sign {c : UInt8} (h : c = 41 ∨ c = 124 ∨ c = 38 ∨ c = 126 ∨ c = 94 ∨ c = 36) : Lx [c] [wK (signT c.toNat)] := by
  refine Lx.word ?_ fun z => ?_
  · rcases h with rfl | rfl | rfl | rfl | rfl | rfl <;> decide
  · show lx.stepT (c :: z) = _
    unfold lx.stepT
    rw [look_no z (by rcases h with rfl | rfl | rfl | rfl | rfl | rfl <;> decide), if_neg (by decide)]
    simp only
    rw [if_neg (by rcases h with rfl | rfl | rfl | rfl | rfl | rfl <;> decide), if_neg (by rcases h with rfl | rfl | rfl | rfl | rfl | rfl <;> decide), if_neg (by rcases h with rfl | rfl | rfl | rfl | rfl | rfl <;> decide), if_neg (by rcases h with rfl | rfl | rfl | rfl | rfl | rfl <;> decide), if_pos (by rcases h with rfl | rfl | rfl | rfl | rfl | rfl <;> decide)]; rfl
theorem lx_par {t : List UInt8} {ws : List W} (h : Lx t ws) (h63 : t.head? ≠ some 63) : Lx (par t) (wpar ws) := by
  intro k z at_ out hk
  cases k with
  | zero => omega
  | succ k =>
    have e : par t ++ z = 40 :: (t ++ 41 :: z) := by simp [par]
    have el : (par t).length = t.length + 2 := by simp [par]
    have h63' : (t ++ 41 :: z).head? ≠ some 63 := by
      cases t with
      | nil => simp
      | cons c t => exact h63
    rw [e, List.length_cons] at hk
    obtain ⟨k1, l1, g1, g2, g3⟩ := h k (41 :: z) (at_ + 1) (out ++ [(at_, wK 2)]) (by omega)
    obtain ⟨k2, l2, f1, f2, f3⟩ := lx_sign (c := 41) (.inl rfl) k1 z (at_ + 1 + t.length) (out ++ [(at_, wK 2)] ++ l1) g1
    refine ⟨k2, (at_, wK 2) :: (l1 ++ l2), f1, ?_, ?_⟩
    · rw [List.map_cons, List.map_append, g2, f2]; rfl
    · rw [e, go_one (by decide) (step_open _ h63') (by decide)]
      show goT k (t ++ 41 :: z) (at_ + 1) _ = _
      rw [g3]
      show goT k1 ([41] ++ z) _ _ = _
      rw [f3, el]
      congr 1
      · show at_ + 1 + t.length + 1 = _; omega
      · simp
theorem lx_look (k : Int) (neg : Bool) : Lx (pt.lookT k neg) [wK (lookK k neg)] := by
  unfold pt.lookT lookK
  by_cases h9 : k = 9
  · rw [if_pos h9, if_pos h9]
    cases neg
    · exact Lx.word (c := 40) (t := [63, 60, 61]) (by decide) fun z => rfl
    · exact Lx.word (c := 40) (t := [63, 60, 33]) (by decide) fun z => rfl
  · rw [if_neg h9, if_neg h9]
    cases neg
    · exact Lx.word (c := 40) (t := [63, 61]) (by decide) fun z => rfl
    · exact Lx.word (c := 40) (t := [63, 33]) (by decide) fun z => rfl
theorem rep_text : ∀ (lo : Nat), lo < 21 → ∀ (hi : Nat), hi < 22 → ¬ (hi = 0 ∨ (lo + 1 ≤ hi ∧ 2 ≤ hi)) ∨
    namedT (numT lo ++ [44] ++ pt.hiT ((hi : Int) - 1)) = false ∧ repT (numT lo ++ [44] ++ pt.hiT ((hi : Int) - 1)) = some ((lo : Int), (hi : Int) - 1) ∧ 125 ∉ numT lo ++ [44] ++ pt.hiT ((hi : Int) - 1) := by decide +kernel
theorem tw_all : ∀ (t z : List UInt8), 125 ∉ t → tw 125 (t ++ 125 :: z) = t
  | [], z, _ => by unfold tw; rw [List.nil_append, List.takeWhile_cons]; simp
  | b :: l, z, h => by
    have h1 : (b == (125 : UInt8)) = false := by simp; exact fun e => h (by simp [e])
    have ih := tw_all l z (fun e => h (by simp [e]))
    unfold tw at ih ⊢
    rw [List.cons_append, List.takeWhile_cons, h1]
    simp only [Bool.not_false, if_true]
    rw [ih]
theorem lx_rep (lo hi : Int) (h : 0 ≤ lo ∧ lo ≤ 20 ∧ (hi = -1 ∨ (lo ≤ hi ∧ 1 ≤ hi ∧ hi ≤ 20))) : Lx ([123] ++ numT lo.toNat ++ [44] ++ pt.hiT hi ++ [125]) [⟨10, zeroF, [], lo, hi⟩] := by
  obtain ⟨h1, h2, h3⟩ := (rep_text lo.toNat (by omega) (hi + 1).toNat (by omega)).resolve_left (fun h => h (by omega))
  rw [show (((hi + 1).toNat : Nat) : Int) - 1 = hi by omega, show ((lo.toNat : Nat) : Int) = lo by omega] at h2
  rw [show (((hi + 1).toNat : Nat) : Int) - 1 = hi by omega] at h1 h3
  have e : ([123] ++ numT lo.toNat ++ [44] ++ pt.hiT hi ++ [125] : List UInt8) = 123 :: ((numT lo.toNat ++ [44] ++ pt.hiT hi) ++ [125]) := by simp
  rw [e]
  generalize numT lo.toNat ++ [44] ++ pt.hiT hi = t at h1 h2 h3
  refine Lx.word (by decide) fun z => ?_
  have e2 : 123 :: (t ++ [125]) ++ z = 123 :: (t ++ 125 :: z) := by simp
  rw [e2]
  have hb : braceT (t ++ 125 :: z) = (⟨10, zeroF, [], lo, hi⟩, t.length + 1) := by
    unfold braceT
    rw [if_neg (fun hh => hh (by simp)), tw_all t z h3, if_neg (by rw [h1]; decide), h2]
  unfold lx.stepT
  rw [look_no _ (by decide), if_neg (by decide)]
  simp only
  rw [if_neg (by decide), if_neg (by decide), if_pos (by decide), hb, if_neg (by simp)]
  simp
theorem lx_cls (s0 s1 s2 s3 : Int) : Lx (tabs.classT (hasR s0 s1 s2 s3)) [wB (setF s0 s1 s2 s3)] := by
  have h := class_step s0 s1 s2 s3
  obtain ⟨t, ht⟩ : ∃ t, tabs.classT (hasR s0 s1 s2 s3) = 91 :: t := ⟨_, rfl⟩
  rw [ht] at h ⊢
  exact Lx.word (by decide) h
theorem lx_jn {sep : List UInt8} {ws : List W} (hsep : Lx sep ws) (l : List Re) (h : ∀ p ∈ l, Lx (par (textR p)) (wpar (wsR p))) : Lx (jn sep ((l.map textR).map par)) (wjn ws ((l.map wsR).map wpar)) := by
  cases l with
  | nil => exact Lx.nil
  | cons a l =>
    rw [List.map_cons, List.map_cons, jn_cons, List.map_cons, List.map_cons, wjn]
    refine (h a (by simp)).app ?_
    have h2 : ∀ p ∈ l, Lx (par (textR p)) (wpar (wsR p)) := fun p hp => h p (List.mem_cons_of_mem _ hp)
    clear h
    induction l with
    | nil => exact Lx.nil
    | cons b l ih =>
      have := (hsep.app (h2 b (by simp))).app (ih fun p hp => h2 p (by simp [hp]))
      simpa [jnT] using this
theorem head63 (r : Re) (h : Rd r) : (textR r).head? ≠ some 63 := by
  cases h with
  | mk k s0 s1 s2 s3 rs lo hi neg hk h2 ho h64 hp =>
    have hj : ∀ sep : List UInt8, rs ≠ [] → ∃ t, jn sep ((rs.map textR).map par) = 40 :: t := by
      intro sep hne
      cases rs with
      | nil => exact absurd rfl hne
      | cons a l => rw [List.map_cons, List.map_cons, jn_cons]; exact ⟨_, rfl⟩
    have hne : (k = 3 ∨ k = 4 ∨ k = 5) ∨ k = 7 → rs ≠ [] := by
      intro hh e
      subst e
      rcases hh with hh | hh
      · exact absurd (h2 hh) (by simp)
      · obtain ⟨-, g2, -⟩ := ho
        subst hh
        exact absurd (g2 (by decide)) (by decide)
    rw [textR_eq]
    unfold topT
    split
    · decide
    split
    · unfold tabs.classT; simp
    split
    · obtain ⟨t, e⟩ := hj [] (hne (by omega)); rw [e]; simp
    split
    · obtain ⟨t, e⟩ := hj [124] (hne (by omega)); rw [e]; simp
    split
    · obtain ⟨t, e⟩ := hj [38] (hne (by omega)); rw [e]; simp
    split
    · simp
    split
    · obtain ⟨t, e⟩ := hj [] (hne (by omega)); rw [e]; simp
    split
    · unfold pt.lookT; split <;> simp
    split <;> decide
set_option linter.unusedVariables false in
theorem read_text (r : Re) : Rd r → Lx (textR r) (wsR r) := by
  induction r using Re.ind with
  | h k s0 s1 s2 s3 rs lo hi neg ih =>
    intro h
    cases h with
    | mk _ _ _ _ _ _ _ _ _ hk h2 ho h64 hp =>
    have hpar : ∀ p ∈ rs, Lx (par (textR p)) (wpar (wsR p)) := fun p hm => lx_par (ih p hm (hp p hm)) (head63 p (hp p hm))
    have g1 : ∀ c : UInt8, ∀ x, (c = 41 ∨ c = 124 ∨ c = 38 ∨ c = 126 ∨ c = 94 ∨ c = 36) → signT c.toNat = x → Lx [c] [wK x] := fun c x hc e => e ▸ lx_sign hc
    rw [textR_eq, wsR_eq]
    unfold topT topW
    by_cases k1 : k = 1
    · rw [if_pos k1, if_pos k1]; exact lx_par Lx.nil (by simp)
    rw [if_neg k1, if_neg k1]
    by_cases k2 : k = 2
    · rw [if_pos k2, if_pos k2]; exact lx_cls _ _ _ _
    rw [if_neg k2, if_neg k2]
    by_cases k3 : k = 3
    · rw [if_pos k3, if_pos k3]; exact lx_jn Lx.nil rs hpar
    rw [if_neg k3, if_neg k3]
    by_cases k4 : k = 4
    · rw [if_pos k4, if_pos k4]; exact lx_jn (g1 124 4 (by decide) (by decide)) rs hpar
    rw [if_neg k4, if_neg k4]
    by_cases k5 : k = 5
    · rw [if_pos k5, if_pos k5]; exact lx_jn (g1 38 5 (by decide) (by decide)) rs hpar
    rw [if_neg k5, if_neg k5]
    by_cases k6 : k = 6
    · rw [if_pos k6, if_pos k6]; exact (g1 126 6 (by decide) (by decide)).app (lx_jn Lx.nil rs hpar)
    rw [if_neg k6, if_neg k6]
    by_cases k7 : k = 7
    · rw [if_pos k7, if_pos k7]
      have := (lx_jn Lx.nil rs hpar).app (lx_rep lo hi (ho.2.2.2.2.1 k7))
      simpa only [List.append_assoc] using this
    rw [if_neg k7, if_neg k7]
    by_cases k8 : k = 8 ∨ k = 9
    · rw [if_pos k8, if_pos k8]
      have hl : rs.length = 1 := by
        have := ho.2.1
        rcases k8 with rfl | rfl
        · exact Int.ofNat.inj (this (by decide))
        · exact Int.ofNat.inj (this (by decide))
      match rs, hl with
      | [p], _ => 
        have := ((lx_look k neg).app (ih p (by simp) (hp p (by simp)))).app (g1 41 3 (by decide) (by decide))
        simpa [whd, pt.hd] using this
    rw [if_neg k8, if_neg k8]
    by_cases k10 : k = 10
    · rw [if_pos k10, if_pos k10]; exact g1 94 16 (by decide) (by decide)
    · rw [if_neg k10, if_neg k10]; exact g1 36 17 (by decide) (by decide)
end Go.Proofs.YtjdfpdlcmkadnaaGreatDoor.pa
