/- A name between braces is read as what it stands for, in plain Lean. Conditions: none. -/
import Derived.Test.YtemdkfohlppckaaGreatDoorPaParse
import Derived.Test.YtemdkfohlppckaaGreatDoorLxJoin

namespace Go.Proofs.YtemdkfohlppckaaGreatDoor.pa
open Go Go.Ev Go.Proofs Go.Proofs.YtemdkfohlppckaaGreatDoor.lx Go.Proofs.YtemdkfohlppckaaGreatDoor.tree

theorem nm_no (n : List UInt8) (h : namedT n = true) : 125 ∉ n := by
  unfold namedT at h
  simp only [Bool.and_eq_true, List.all_eq_true] at h
  intro hm
  exact absurd (h.1.1 125 hm) (by decide)
theorem nm_pos (n : List UInt8) (h : namedT n = true) : 0 < n.length ∧ n.length ≤ 20 := by
  unfold namedT at h
  simp only [Bool.and_eq_true, decide_eq_true_eq] at h
  refine ⟨?_, h.1.2⟩
  cases n with
  | nil => exact absurd h.2 (by decide)
  | cons c r => simp
def wN (n : List UInt8) : W := ⟨11, zeroF, n, 0, 0⟩
theorem step_name (n z : List UInt8) (h : namedT n = true) : lx.stepT (123 :: (n ++ 125 :: z)) = (wN n, n.length + 2) := by
  have hno := nm_no n h
  have hm : 125 ∈ n ++ 125 :: z := by simp
  have htw : tw 125 (n ++ 125 :: z) = n := by
    clear h hm
    unfold tw
    induction n with
    | nil => rw [List.nil_append, List.takeWhile_cons]; simp
    | cons b l ih =>
      have h1 : (b == (125 : UInt8)) = false := by simp; exact fun e => hno (by simp [e])
      rw [List.cons_append, List.takeWhile_cons, h1]
      simp only [Bool.not_false, if_true]
      rw [ih (fun e => hno (by simp [e]))]
  have hb : braceT (n ++ 125 :: z) = (wN n, n.length + 1) := by
    unfold braceT
    rw [if_neg (fun hh => hh hm), htw, if_pos h]; rfl
  have hl : lookT (123 :: (n ++ 125 :: z)) = (0, 0) := by unfold lookT; simp [List.isPrefixOf]
  unfold lx.stepT
  rw [hl, if_neg (by decide)]
  show (if (123 : UInt8).toNat = 92 then _ else if (123 : UInt8).toNat = 91 then _ else if (123 : UInt8).toNat = 123 then _ else _) = _
  rw [if_neg (by decide), if_neg (by decide), if_pos (by decide), hb, if_neg (by simp)]
theorem go_step {k : Nat} {c : UInt8} {r : List UInt8} {at_ n : Nat} {out : List (Nat × W)} {x : W} (hb : blankT c = false) (h : lx.stepT (c :: r) = (x, n)) (hn : n ≠ 0) :
    goT (k + 1) (c :: r) at_ out = goT k ((c :: r).drop n) (at_ + n) (out ++ [(at_, x)]) := by
  rw [goT, hb, h, if_neg (by decide), if_neg hn]
theorem drop_name (n z : List UInt8) : (123 :: (n ++ 125 :: z)).drop (n.length + 2) = z := by
  rw [show n.length + 2 = (n.length + 1) + 1 from rfl, List.drop_succ_cons, List.drop_append, show n.length + 1 - n.length = 1 by omega, List.drop_eq_nil_of_le (by omega)]
  rfl
theorem words_a (n : List UInt8) (h : namedT n = true) : outT ([123] ++ n ++ [125]) = ([(0, wN n)], 0, 0) := by
  have hp := nm_pos n h
  have e : ([123] ++ n ++ [125] : List UInt8) = 123 :: (n ++ 125 :: []) := by simp
  unfold outT wordsT
  rw [e, if_neg (by simp; omega), go_step (by decide) (step_name n [] h) (by omega), drop_name]
  rw [show (123 :: (n ++ 125 :: [])).length = n.length + 1 + 1 by simp, goT]
  rfl
theorem words_b (n : List UInt8) (h : namedT n = true) : outT ([32, 123] ++ n ++ [125, 124, 97]) = ([(1, wN n), (n.length + 3, wK 4), (n.length + 4, wB (putF zeroF 97))], 0, 0) := by
  have hp := nm_pos n h
  have e : ([32, 123] ++ n ++ [125, 124, 97] : List UInt8) = 32 :: 123 :: (n ++ 125 :: [124, 97]) := by simp
  unfold outT wordsT
  rw [e, if_neg (by simp; omega)]
  rw [show (32 :: 123 :: (n ++ 125 :: [124, 97])).length + 1 = (n.length + 3 + 1 + 1) + 1 by simp, goT, if_pos (by decide), go_step (by decide) (step_name n [124, 97] h) (by omega), drop_name]
  rw [show n.length + 3 + 1 = (n.length + 2 + 1 + 1) from rfl, go_step (by decide) (show lx.stepT [124, 97] = (wK 4, 1) from rfl) (by decide)]
  rw [show [124, 97].drop 1 = ([97] : List UInt8) from rfl, go_step (by decide) (show lx.stepT [97] = (wB (putF zeroF 97), 1) from rfl) (by decide)]
  rw [show [97].drop 1 = ([] : List UInt8) from rfl, show n.length + 2 = n.length + 1 + 1 from rfl, goT]
  simp only [List.nil_append, List.cons_append]
  rw [show 0 + 1 + (n.length + 2) = n.length + 3 by omega]
theorem words_c (n : List UInt8) (h : namedT (n ++ [113]) = true) : outT ([97, 123] ++ n ++ [113, 125]) = ([(0, wB (putF zeroF 97)), (1, wN (n ++ [113]))], 0, 0) := by
  have hp := nm_pos _ h
  rw [List.length_append, List.length_singleton] at hp
  have e : ([97, 123] ++ n ++ [113, 125] : List UInt8) = 97 :: 123 :: ((n ++ [113]) ++ 125 :: []) := by simp
  have h97 : lx.stepT (97 :: 123 :: ((n ++ [113]) ++ 125 :: [])) = (wB (putF zeroF 97), 1) := by
    unfold lx.stepT
    rw [show lookT (97 :: 123 :: ((n ++ [113]) ++ 125 :: [])) = (0, 0) by unfold lookT; simp [List.isPrefixOf], if_neg (by decide)]
    rfl
  unfold outT wordsT
  rw [e, if_neg (by simp; omega)]
  rw [show (97 :: 123 :: ((n ++ [113]) ++ 125 :: [])).length + 1 = (n.length + 2 + 1 + 1) + 1 by simp, go_step (by decide) h97 (by decide)]
  rw [show (97 :: 123 :: ((n ++ [113]) ++ 125 :: [])).drop 1 = 123 :: ((n ++ [113]) ++ 125 :: []) from rfl, go_step (by decide) (step_name (n ++ [113]) [] h) (by omega), drop_name]
  rw [show n.length + 2 + 1 = n.length + 2 + 1 from rfl, goT]
  rfl
theorem nm_q (n : List UInt8) (h : namedT n = true) (hl : n.length < 20) : namedT (n ++ [113]) = true := by
  unfold namedT at h ⊢
  simp only [Bool.and_eq_true, decide_eq_true_eq] at h ⊢
  obtain ⟨⟨h1, h2⟩, h3⟩ := h
  refine ⟨⟨?_, by simp; omega⟩, ?_⟩
  · rw [List.all_append, h1]; decide
  · cases n with
    | nil => exact absurd h3 (by decide)
    | cons c r => exact h3

theorem deep_mono : ∀ (k : Nat) (r : Re), deepR k r ≤ deepR (k + 1) r := by
  intro k
  induction k with
  | zero => intro r; simp only [deepR]; omega
  | succ k ih =>
    intro r
    rw [deepR, deepR]
    have : ∀ (l : List Re) (a b : Nat), a ≤ b → (l.map (deepR k)).foldl max a ≤ (l.map (deepR (k + 1))).foldl max b := by
      intro l
      induction l with
      | nil => intro a b h; exact h
      | cons p l ih2 =>
        intro a b h
        simp only [List.map_cons, List.foldl_cons]
        exact ih2 _ _ (by have := ih p; omega)
    have := this r.parts 0 0 (Nat.le_refl _)
    omega
def twoR (r : Re) : Re := .mk 4 0 0 0 0 [r, bytesR (putF zeroF 97)] 0 0 false
theorem formed_two (r : Re) (hf : formedR r = true) (hd : deepR 40 r ≤ 39) (hs : sizeR r ≤ 998) : deepR 40 (twoR r) ≤ 40 ∧ sizeR (twoR r) ≤ 1000 ∧ formedR (twoR r) = true := by
  have h1 : deepR 40 (twoR r) ≤ 40 := by
    have : deepR 39 r ≤ deepR 40 r := deep_mono 39 r
    show (([r, bytesR (putF zeroF 97)].map (deepR 39)).foldl max 0) + 1 ≤ 40
    have hb : deepR 39 (bytesR (putF zeroF 97)) = 1 := rfl
    simp only [List.map_cons, List.map_nil, List.foldl_cons, List.foldl_nil, hb]
    omega
  have h2 : sizeR (twoR r) ≤ 1000 := by
    have hb : sizeR (bytesR (putF zeroF 97)) = 1 := by decide +kernel
    show capR 4 0 0 (sizeR r + (sizeR (bytesR (putF zeroF 97)) + 0)) ≤ 1000
    rw [hb]
    unfold capR timesR
    rw [if_neg (by omega), if_neg (by decide)]
    omega
  refine ⟨h1, h2, ?_⟩
  simp only [formedR, Bool.and_eq_true, decide_eq_true_eq] at hf ⊢
  refine ⟨⟨h1, ?_⟩, h2⟩
  have hb : allR (bytesR (putF zeroF 97)) = true := by decide +kernel
  show (decide (Own 4 0 0 0 0 2 0 0 false) && (allR r && (allR (bytesR (putF zeroF 97)) && true))) = true
  rw [hf.1.2, hb]
  decide +kernel

section
variable {fin : Nat} {ds : List (List UInt8 × Re)} {k : Nat} {s s1 : PS} {r : Re}
theorem p_name (h : kindP s = 11) (hf : findD (headW s).2.name ds = some r) : P fin ds (k + 1) .atom s = some (r, nextP s) := by
  rw [P, h, if_neg (by decide), if_neg (by decide), if_neg (by decide), if_neg (by decide), if_neg (by decide), if_neg (by decide), if_pos rfl, hf]
theorem p_none (h : kindP s = 11) (hf : findD (headW s).2.name ds = none) : P fin ds (k + 1) .atom s = some (leafR 0, failP 5 (headW s).1 (nextP s)) := by
  rw [P, h, if_neg (by decide), if_neg (by decide), if_neg (by decide), if_neg (by decide), if_neg (by decide), if_neg (by decide), if_pos rfl, hf]
theorem p_bytes (h : kindP s = 1) : P fin ds (k + 1) .atom s = some (bytesR (headW s).2.set, nextP s) := by
  rw [P, h, if_neg (by decide), if_pos rfl]
theorem p_no (h : P fin ds (k + 1) .atom s = some (r, s1)) (h6 : kindP s ≠ 6) (hs : ¬ (kindP s1 = 7 ∨ kindP s1 = 8 ∨ kindP s1 = 9 ∨ kindP s1 = 10)) : P fin ds (k + 3) .no s = some (r, s1) := by
  rw [P, if_neg h6, P, h]
  show P fin ds (k + 1) (.postL r) s1 = _
  rw [P, if_neg hs]
theorem p_catL {acc : List Re} (h : P fin ds k .no s = some (r, s1)) (hk : kindP s ≠ 0 ∧ kindP s ≠ 4 ∧ kindP s ≠ 5 ∧ kindP s ≠ 3) : P fin ds (k + 1) (.catL acc) s = P fin ds k (.catL (acc ++ [r])) s1 := by
  rw [P, if_pos hk, h]; rfl
theorem p_catE {acc : List Re} (hk : kindP s = 0 ∨ kindP s = 4 ∨ kindP s = 5 ∨ kindP s = 3) (ha : acc ≠ []) : P fin ds (k + 1) (.catL acc) s = some (joinR 3 acc, s) := by
  rw [P, if_neg (by omega), if_neg ha]
theorem p_cat1 (h : P fin ds (k + 1) .atom s = some (r, s1)) (h6 : kindP s ≠ 6) (hk : kindP s ≠ 0 ∧ kindP s ≠ 4 ∧ kindP s ≠ 5 ∧ kindP s ≠ 3) (hs : kindP s1 = 0 ∨ kindP s1 = 4) : P fin ds (k + 5) .cat s = some (r, s1) := by
  rw [P, p_catL (p_no h h6 (by omega)) hk, p_catE (by omega) (by simp)]; rfl
theorem p_both (h : P fin ds (k + 1) .cat s = some (r, s1)) (hs : kindP s1 ≠ 5) : P fin ds (k + 2) .both s = some (r, s1) := by
  rw [P, h]
  show P fin ds (k + 1) (.bothL [r]) s1 = _
  rw [P, if_neg hs]; rfl
theorem p_alt1 (h : P fin ds (k + 1) .both s = some (r, s1)) (hs : kindP s1 ≠ 4) : P fin ds (k + 2) .alt s = some (r, s1) := by
  rw [P, h]
  show P fin ds (k + 1) (.altL [r]) s1 = _
  rw [P, if_neg hs]; rfl
theorem p_alt2 {b : Re} {s2 : PS} (h : P fin ds (k + 2) .both s = some (r, s1)) (hs : kindP s1 = 4) (h2 : P fin ds (k + 1) .both (nextP s1) = some (b, s2)) (hs2 : kindP s2 ≠ 4) : P fin ds (k + 3) .alt s = some (.mk 4 0 0 0 0 [r, b] 0 0 false, s2) := by
  rw [P, h]
  show P fin ds (k + 2) (.altL [r]) s1 = _
  rw [P, if_pos hs, h2]
  show P fin ds (k + 1) (.altL [r, b]) s2 = _
  rw [P, if_neg hs2]; rfl
end

theorem parse_a (n : List UInt8) (r : Re) (ds : List (List UInt8 × Re)) (h : namedT n = true) (hf : formedR r = true) : parseT ([123] ++ n ++ [125]) ((n, r) :: ds) = (r, 0, 0) := by
  unfold parseT
  rw [words_a n h, if_neg (fun h => h rfl)]
  simp only
  have hP : P ([123] ++ n ++ [125]).length ((n, r) :: ds) 24 .alt (startP [(0, wN n)]) = some (r, nextP (startP [(0, wN n)])) := by
    have k0 : kindP (startP [(0, wN n)]) = 11 := rfl
    have k1 : kindP (nextP (startP [(0, wN n)])) = 0 := rfl
    have hfd : findD (headW (startP [(0, wN n)])).2.name ((n, r) :: ds) = some r := by show (if n = n then some r else _) = _; rw [if_pos rfl]
    exact P_more _ _ (k := 7) (by decide) (p_alt1 (p_both (p_cat1 (p_name (k := 0) k0 hfd) (by rw [k0]; decide) (by rw [k0]; decide) (.inl k1)) (by rw [k1]; decide)) (by rw [k1]; decide))
  rw [show 16 * [(0, wN n)].length + 8 = 24 from rfl, hP]
  simp only
  have hfd := hf
  simp only [formedR, Bool.and_eq_true, decide_eq_true_eq] at hfd
  unfold endP
  rw [show kindP (nextP (startP [(0, wN n)])) = 0 from rfl, if_neg (by decide)]
  unfold checkP
  rw [if_neg (fun h => h rfl), if_neg (by omega), if_neg (by omega), if_pos hf]
theorem parse_b (n : List UInt8) (r : Re) (ds : List (List UInt8 × Re)) (h : namedT n = true) (hf : formedR r = true) (hd : deepR 40 r ≤ 39) (hs : sizeR r ≤ 998) : parseT ([32, 123] ++ n ++ [125, 124, 97]) ((n, r) :: ds) = (twoR r, 0, 0) := by
  obtain ⟨g1, g2, g3⟩ := formed_two r hf hd hs
  unfold parseT
  rw [words_b n h, if_neg (fun h => h rfl)]
  simp only
  generalize hS : startP [(1, wN n), (n.length + 3, wK 4), (n.length + 4, wB (putF zeroF 97))] = s
  have k0 : kindP s = 11 := by rw [← hS]; rfl
  have k1 : kindP (nextP s) = 4 := by rw [← hS]; rfl
  have k2 : kindP (nextP (nextP s)) = 1 := by rw [← hS]; rfl
  have k3 : kindP (nextP (nextP (nextP s))) = 0 := by rw [← hS]; rfl
  have hw : (headW (nextP (nextP s))).2.set = putF zeroF 97 := by rw [← hS]; rfl
  have hfd : findD (headW s).2.name ((n, r) :: ds) = some r := by rw [← hS]; show (if n = n then some r else _) = _; rw [if_pos rfl]
  have hP : P ([32, 123] ++ n ++ [125, 124, 97]).length ((n, r) :: ds) 56 .alt s = some (twoR r, nextP (nextP (nextP s))) := by
    have b1 := p_both (p_cat1 (p_name (fin := ([32, 123] ++ n ++ [125, 124, 97]).length) (k := 1) k0 hfd) (by rw [k0]; decide) (by rw [k0]; decide) (.inr k1)) (by rw [k1]; decide)
    have b2 := p_both (p_cat1 (p_bytes (fin := ([32, 123] ++ n ++ [125, 124, 97]).length) (ds := (n, r) :: ds) (k := 0) k2) (by rw [k2]; decide) (by rw [k2]; decide) (.inl k3)) (by rw [k3]; decide)
    rw [hw] at b2
    exact P_more _ _ (k := 8) (by decide) (p_alt2 b1 k1 b2 (by rw [k3]; decide))
  rw [show 16 * [(1, wN n), (n.length + 3, wK 4), (n.length + 4, wB (putF zeroF 97))].length + 8 = 56 from rfl, hP]
  simp only
  unfold endP
  rw [k3, if_neg (by decide)]
  unfold checkP
  rw [if_neg (by rw [← hS]; exact fun h => h rfl), if_neg (by omega), if_neg (by omega), if_pos g3]
theorem find_no (m : List UInt8) : ∀ (ds : List (List UInt8 × Re)), (∀ d ∈ ds, d.1 ≠ m) → findD m ds = none
  | [], _ => rfl
  | d :: ds, h => by rw [findD, if_neg (h d (by simp))]; exact find_no m ds fun x hx => h x (by simp [hx])
theorem parse_c (n : List UInt8) (ds : List (List UInt8 × Re)) (h : namedT n = true) (hl : n.length < 20) (hds : ∀ d ∈ ds, d.1 ≠ n ++ [113]) : parseT ([97, 123] ++ n ++ [113, 125]) ds = (leafR 0, 1, 5) := by
  unfold parseT
  rw [words_c n (nm_q n h hl), if_neg (fun h => h rfl)]
  simp only
  generalize hS : startP [(0, wB (putF zeroF 97)), (1, wN (n ++ [113]))] = s
  have k0 : kindP s = 1 := by rw [← hS]; rfl
  have k1 : kindP (nextP s) = 11 := by rw [← hS]; rfl
  have hfd : findD (headW (nextP s)).2.name ds = none := by rw [← hS]; exact find_no _ ds hds
  have hh : (headW (nextP s)).1 = 1 := by rw [← hS]; rfl
  have ke : (failP 5 1 (nextP (nextP s))).e = 5 ∧ (failP 5 1 (nextP (nextP s))).at_ = 1 := by rw [← hS]; exact ⟨rfl, rfl⟩
  have k2 : kindP (failP 5 1 (nextP (nextP s))) = 0 := by unfold kindP; rw [ke.1]; rfl
  have hP : ∃ q, P ([97, 123] ++ n ++ [113, 125]).length ds 40 .alt s = some (q, failP 5 1 (nextP (nextP s))) := by
    have n0 := p_no (p_bytes (fin := ([97, 123] ++ n ++ [113, 125]).length) (ds := ds) (k := 1) k0) (by rw [k0]; decide) (by rw [k1]; decide)
    have n1 := p_none (fin := ([97, 123] ++ n ++ [113, 125]).length) (k := 0) k1 hfd
    rw [hh] at n1
    have n1 := p_no n1 (by rw [k1]; decide) (by rw [show kindP (failP 5 (1 : Nat) (nextP (nextP s))) = 0 from k2]; decide)
    have c0 : P ([97, 123] ++ n ++ [113, 125]).length ds 6 .cat s = some (joinR 3 [bytesR (headW s).2.set, leafR 0], failP 5 1 (nextP (nextP s))) := by
      rw [P, p_catL n0 (by rw [k0]; decide), p_catL n1 (by rw [k1]; decide)]
      exact p_catE (.inl k2) (by simp)
    exact ⟨_, P_more _ _ (k := 8) (by decide) (p_alt1 (p_both c0 (by rw [k2]; decide)) (by rw [k2]; decide))⟩
  obtain ⟨q, hP⟩ := hP
  rw [show 16 * [(0, wB (putF zeroF 97)), (1, wN (n ++ [113]))].length + 8 = 40 from rfl, hP]
  simp only
  unfold endP
  rw [k2, if_neg (by decide)]
  unfold checkP
  rw [ke.1, ke.2, if_pos (by decide)]
end Go.Proofs.YtemdkfohlppckaaGreatDoor.pa
