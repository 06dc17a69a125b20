/- The words of a plain pattern are parsed as the pattern, in plain Lean. Conditions: none. -/
import Derived.Test.YtjdfpdlcmkadnaaGreatDoorPaRead
import Derived.Test.YtjdfpdlcmkadnaaGreatDoorPaTotal

namespace Go.Proofs.YtjdfpdlcmkadnaaGreatDoor.pa
open Go Go.Ev Go.Proofs Go.Proofs.YtjdfpdlcmkadnaaGreatDoor.lx Go.Proofs.YtjdfpdlcmkadnaaGreatDoor.tree
open Go.Proofs.YtjdfpdlcmkadnaaGreatDoor.tabs (hasR in64)

mutual
/-- How many brackets are open at most. -/
def openR : Re → Nat
  | .mk k _ _ _ _ rs _ _ _ => openL rs 0 + (if k = 6 ∨ k = 1 then 1 else 0)
def openL : List Re → Nat → Nat
  | [], n => n
  | p :: l, n => openL l (max n (openR p + 1))
end
theorem openL_ge : ∀ (l : List Re) (n : Nat), n ≤ openL l n
  | [], n => Nat.le_refl _
  | p :: l, n => by have := openL_ge l (max n (openR p + 1)); rw [openL]; omega
theorem openL_mem : ∀ (l : List Re) (n : Nat) (p : Re), p ∈ l → openR p + 1 ≤ openL l n
  | [], n, p, h => by simp at h
  | q :: l, n, p, h => by
    rw [openL]
    rcases List.mem_cons.1 h with rfl | h
    · have := openL_ge l (max n (openR p + 1)); omega
    · exact openL_mem l _ p h

def S (l : List (Nat × W)) (d : Nat) (a : Int) : PS := ⟨l, d, a, 0⟩
def kk : List (Nat × W) → Int
  | [] => 0
  | x :: _ => x.2.kind
theorem kind_S (l : List (Nat × W)) (d : Nat) (a : Int) : kindP (S l d a) = kk l := by
  cases l <;> rfl

section
variable {fin : Nat} {ds : List (List UInt8 × Re)}
def Q (fin : Nat) (ds : List (List UInt8 × Re)) (t : Task) (s : PS) (x : Re × PS) : Prop := ∃ k, P fin ds k t s = some x
variable {s s1 : PS} {r : Re} {x : Re × PS} {acc : List Re}
theorem q_alt (h : Q fin ds .both s (r, s1)) (g : Q fin ds (.altL [r]) s1 x) : Q fin ds .alt s x := by
  obtain ⟨k1, h⟩ := h
  obtain ⟨k2, g⟩ := g
  refine ⟨max k1 k2 + 1, ?_⟩
  rw [P, P_more _ _ (Nat.le_max_left k1 k2) h]
  exact P_more _ _ (Nat.le_max_right k1 k2) g
theorem q_altL (hk : kindP s = 4) (h : Q fin ds .both (nextP s) (r, s1)) (g : Q fin ds (.altL (acc ++ [r])) s1 x) : Q fin ds (.altL acc) s x := by
  obtain ⟨k1, h⟩ := h
  obtain ⟨k2, g⟩ := g
  refine ⟨max k1 k2 + 1, ?_⟩
  rw [P, if_pos hk, P_more _ _ (Nat.le_max_left k1 k2) h]
  exact P_more _ _ (Nat.le_max_right k1 k2) g
theorem q_altE (hk : kindP s ≠ 4) : Q fin ds (.altL acc) s (joinR 4 acc, s) := ⟨1, by rw [P, if_neg hk]⟩
theorem q_both (h : Q fin ds .cat s (r, s1)) (g : Q fin ds (.bothL [r]) s1 x) : Q fin ds .both s x := by
  obtain ⟨k1, h⟩ := h
  obtain ⟨k2, g⟩ := g
  refine ⟨max k1 k2 + 1, ?_⟩
  rw [P, P_more _ _ (Nat.le_max_left k1 k2) h]
  exact P_more _ _ (Nat.le_max_right k1 k2) g
theorem q_bothL (hk : kindP s = 5) (h : Q fin ds .cat (nextP s) (r, s1)) (g : Q fin ds (.bothL (acc ++ [r])) s1 x) : Q fin ds (.bothL acc) s x := by
  obtain ⟨k1, h⟩ := h
  obtain ⟨k2, g⟩ := g
  refine ⟨max k1 k2 + 1, ?_⟩
  rw [P, if_pos hk, P_more _ _ (Nat.le_max_left k1 k2) h]
  exact P_more _ _ (Nat.le_max_right k1 k2) g
theorem q_bothE (hk : kindP s ≠ 5) : Q fin ds (.bothL acc) s (joinR 5 acc, s) := ⟨1, by rw [P, if_neg hk]⟩
theorem q_cat (h : Q fin ds (.catL []) s x) : Q fin ds .cat s x := by
  obtain ⟨k1, h⟩ := h
  exact ⟨k1 + 1, by rw [P]; exact h⟩
theorem q_catL (hk : kindP s ≠ 0 ∧ kindP s ≠ 4 ∧ kindP s ≠ 5 ∧ kindP s ≠ 3) (h : Q fin ds .no s (r, s1)) (g : Q fin ds (.catL (acc ++ [r])) s1 x) : Q fin ds (.catL acc) s x := by
  obtain ⟨k1, h⟩ := h
  obtain ⟨k2, g⟩ := g
  refine ⟨max k1 k2 + 1, ?_⟩
  rw [P, if_pos hk, P_more _ _ (Nat.le_max_left k1 k2) h]
  exact P_more _ _ (Nat.le_max_right k1 k2) g
theorem q_catE (hk : kindP s = 0 ∨ kindP s = 4 ∨ kindP s = 5 ∨ kindP s = 3) (ha : acc ≠ []) : Q fin ds (.catL acc) s (joinR 3 acc, s) := ⟨1, by rw [P, if_neg (by omega), if_neg ha]⟩
theorem q_cat0 (hk : kindP s = 0 ∨ kindP s = 4 ∨ kindP s = 5 ∨ kindP s = 3) : Q fin ds (.catL []) s (leafR 1, s) := ⟨1, by rw [P, if_neg (by omega), if_pos rfl]⟩
theorem q_not (hk : kindP s = 6) (h : Q fin ds .no (enterP (headW s).1 (nextP s)) (r, s1)) : Q fin ds .no s (.mk 6 0 0 0 0 [r] 0 0 false, closeP s1) := by
  obtain ⟨k1, h⟩ := h
  exact ⟨k1 + 1, by rw [P, if_pos hk, h]; rfl⟩
theorem q_no (hk : kindP s ≠ 6) (h : Q fin ds .post s x) : Q fin ds .no s x := by
  obtain ⟨k1, h⟩ := h
  exact ⟨k1 + 1, by rw [P, if_neg hk, h]⟩
theorem q_post (h : Q fin ds .atom s (r, s1)) (g : Q fin ds (.postL r) s1 x) : Q fin ds .post s x := by
  obtain ⟨k1, h⟩ := h
  obtain ⟨k2, g⟩ := g
  refine ⟨max k1 k2 + 1, ?_⟩
  rw [P, P_more _ _ (Nat.le_max_left k1 k2) h]
  exact P_more _ _ (Nat.le_max_right k1 k2) g
theorem q_postL (hk : kindP s = 10) (g : Q fin ds (.postL (.mk 7 0 0 0 0 [r] (loT (headW s).2) (hiT (headW s).2) false)) (nextP s) x) : Q fin ds (.postL r) s x := by
  obtain ⟨k1, g⟩ := g
  exact ⟨k1 + 1, by rw [P, if_pos (by omega), g]⟩
theorem q_postE (hk : ¬ (kindP s = 7 ∨ kindP s = 8 ∨ kindP s = 9 ∨ kindP s = 10)) : Q fin ds (.postL r) s (r, s) := ⟨1, by rw [P, if_neg hk]⟩
theorem q_inner {n : Nat} (h : Q fin ds .alt (enterP n s) (r, s1)) (hk : kindP (closeP s1) = 3) : Q fin ds (.inner n) s (r, nextP (closeP s1)) := by
  obtain ⟨k1, h⟩ := h
  refine ⟨k1 + 1, ?_⟩
  rw [P, h]
  show (if kindP (closeP s1) ≠ 3 then _ else _) = _
  rw [if_neg (by omega)]
theorem q_open (hk : kindP s = 2) (h : Q fin ds (.inner (headW s).1) (nextP s) x) : Q fin ds .atom s x := by
  obtain ⟨k1, h⟩ := h
  exact ⟨k1 + 1, by rw [P, if_neg (by omega), if_neg (by omega), if_pos hk, h]⟩
theorem q_look (hk : kindP s = 12 ∨ kindP s = 13 ∨ kindP s = 14 ∨ kindP s = 15) (h : Q fin ds (.inner (headW s).1) (nextP s) (r, s1)) :
    Q fin ds .atom s (.mk (if 14 ≤ kindP s then 9 else 8) 0 0 0 0 [r] 0 0 (decide (kindP s = 13 ∨ kindP s = 15)), s1) := by
  obtain ⟨k1, h⟩ := h
  exact ⟨k1 + 1, by rw [P, if_neg (by omega), if_neg (by omega), if_neg (by omega), if_pos hk, h]; rfl⟩
theorem q_bytes (hk : kindP s = 1) : Q fin ds .atom s (bytesR (headW s).2.set, nextP s) := ⟨1, by rw [P, if_neg (by omega), if_pos hk]⟩
theorem q_begin (hk : kindP s = 16) : Q fin ds .atom s (leafR 10, nextP s) := ⟨1, by rw [P, if_neg (by omega), if_neg (by omega), if_neg (by omega), if_neg (by omega), if_pos hk]⟩
theorem q_end (hk : kindP s = 17) : Q fin ds .atom s (leafR 11, nextP s) := ⟨1, by rw [P, if_neg (by omega), if_neg (by omega), if_neg (by omega), if_neg (by omega), if_neg (by omega), if_pos hk]⟩

/-- One thing alone. -/
theorem q_cat1 (h : Q fin ds .no s (r, s1)) (hk : kindP s ≠ 0 ∧ kindP s ≠ 4 ∧ kindP s ≠ 5 ∧ kindP s ≠ 3) (h1 : kindP s1 = 0 ∨ kindP s1 = 4 ∨ kindP s1 = 5 ∨ kindP s1 = 3) : Q fin ds .cat s (r, s1) :=
  q_cat (q_catL (acc := []) hk h (q_catE h1 (by simp)))
theorem q_both1 (h : Q fin ds .cat s (r, s1)) (h1 : kindP s1 ≠ 5) : Q fin ds .both s (r, s1) := q_both h (q_bothE h1)
theorem q_alt1 (h : Q fin ds .both s (r, s1)) (h1 : kindP s1 ≠ 4) : Q fin ds .alt s (r, s1) := q_alt h (q_altE h1)
theorem q_up (h : Q fin ds .no s (r, s1)) (hk : kindP s ≠ 0 ∧ kindP s ≠ 4 ∧ kindP s ≠ 5 ∧ kindP s ≠ 3) (h1 : kindP s1 = 0 ∨ kindP s1 = 3) : Q fin ds .alt s (r, s1) :=
  q_alt1 (q_both1 (q_cat1 h hk (by omega)) (by omega)) (by omega)
theorem q_leaf (h : Q fin ds .atom s (r, s1)) (hk : kindP s ≠ 0 ∧ kindP s ≠ 4 ∧ kindP s ≠ 5 ∧ kindP s ≠ 3 ∧ kindP s ≠ 6) (h1 : kindP s1 = 0 ∨ kindP s1 = 3) : Q fin ds .alt s (r, s1) :=
  q_up (q_no (by omega) (q_post h (q_postE (by omega)))) (by omega) h1

theorem enter_S (n : Int) (l : List (Nat × W)) (d : Nat) (a : Int) (h : d + 1 ≤ 40) : enterP n (S l d a) = S l (d + 1) a := by
  unfold enterP
  rw [if_neg (by show ¬ 40 < d + 1; omega)]; rfl
theorem close_S (l : List (Nat × W)) (d : Nat) (a : Int) : closeP (S l (d + 1) a) = S l d a := rfl
theorem next_S (x : Nat × W) (l : List (Nat × W)) (d : Nat) (a : Int) : nextP (S (x :: l) d a) = S l d a := rfl

/-- A pattern's words are parsed as the pattern. -/
def Back (fin : Nat) (ds : List (List UInt8 × Re)) (r : Re) : Prop := ∀ (l rest : List (Nat × W)) (d : Nat) (a : Int), l.map Prod.snd = wsR r → d + openR r ≤ 40 → (kk rest = 0 ∨ kk rest = 3) → Q fin ds .alt (S (l ++ rest) d a) (r, S rest d a)
/-- Behind what opens: the words, and what closes. -/
theorem inner_back {p : Re} (hB : Back fin ds p) {n : Nat} {l rest : List (Nat × W)} {d : Nat} {a : Int} (hl : l.map Prod.snd = wsR p ++ [wK 3]) (hd : d + 1 + openR p ≤ 40) : Q fin ds (.inner n) (S (l ++ rest) d a) (p, S rest d a) := by
  obtain ⟨l1, l2, rfl, h1, h2⟩ := List.map_eq_append_iff.1 hl
  obtain ⟨y, l3, rfl, hy, h3⟩ := List.map_eq_cons_iff.1 h2
  obtain rfl := List.map_eq_nil_iff.1 h3
  have hk : y.2.kind = 3 := by rw [hy]; rfl
  have hq := hB l1 (y :: rest) (d + 1) a h1 (by omega) (.inr hk)
  rw [List.append_assoc]
  have := q_inner (fin := fin) (ds := ds) (n := n) (s := S (l1 ++ y :: rest) d a) (s1 := S (y :: rest) (d + 1) a) (r := p) (by rw [enter_S _ _ _ _ (by omega)]; exact hq) (by rw [close_S, kind_S]; exact hk)
  exact this
theorem par_atom {p : Re} (hB : Back fin ds p) {l rest : List (Nat × W)} {d : Nat} {a : Int} (hl : l.map Prod.snd = wpar (wsR p)) (hd : d + 1 + openR p ≤ 40) : Q fin ds .atom (S (l ++ rest) d a) (p, S rest d a) := by
  obtain ⟨y, l3, rfl, hy, h3⟩ := List.map_eq_cons_iff.1 hl
  have hk : y.2.kind = 2 := by rw [hy]; rfl
  exact q_open (by rw [List.cons_append, kind_S]; exact hk) (inner_back hB h3 hd)
theorem kk_par {l rest : List (Nat × W)} {ws : List W} (hl : l.map Prod.snd = wpar ws) : kk (l ++ rest) = 2 := by
  obtain ⟨y, l3, rfl, hy, h3⟩ := List.map_eq_cons_iff.1 hl
  show y.2.kind = 2
  rw [hy]; rfl
theorem par_no {p : Re} (hB : Back fin ds p) {l rest : List (Nat × W)} {d : Nat} {a : Int} (hl : l.map Prod.snd = wpar (wsR p)) (hd : d + 1 + openR p ≤ 40) (hr : ¬ (kk rest = 7 ∨ kk rest = 8 ∨ kk rest = 9 ∨ kk rest = 10)) : Q fin ds .no (S (l ++ rest) d a) (p, S rest d a) :=
  q_no (by rw [kind_S, kk_par hl]; decide) (q_post (par_atom hB hl hd) (q_postE (by rw [kind_S]; exact hr)))
theorem par_cat {p : Re} (hB : Back fin ds p) {l rest : List (Nat × W)} {d : Nat} {a : Int} (hl : l.map Prod.snd = wpar (wsR p)) (hd : d + 1 + openR p ≤ 40) (hr : kk rest = 0 ∨ kk rest = 4 ∨ kk rest = 5 ∨ kk rest = 3) : Q fin ds .cat (S (l ++ rest) d a) (p, S rest d a) :=
  q_cat1 (par_no hB hl hd (by omega)) (by rw [kind_S, kk_par hl]; decide) (by rw [kind_S]; exact hr)

theorem wjn_nil (l : List (List W)) : wjn [] l = l.flatten := by
  cases l with
  | nil => rfl
  | cons a l => simp [wjn]
theorem kk_app {l rest : List (Nat × W)} (ls : List (List W)) (pre : W) (hl : l.map Prod.snd = (ls.map fun s => pre :: s).flatten) (h : ls = [] → kk rest = 0 ∨ kk rest = 3) : kk (l ++ rest) = 0 ∨ kk (l ++ rest) = 3 ∨ kk (l ++ rest) = pre.kind := by
  cases ls with
  | nil =>
    obtain rfl := List.map_eq_nil_iff.1 hl
    have := h rfl
    rw [List.nil_append]; omega
  | cons s ls =>
    rw [List.map_cons, List.flatten_cons, List.cons_append] at hl
    obtain ⟨y, l3, rfl, hy, h3⟩ := List.map_eq_cons_iff.1 hl
    refine .inr (.inr ?_)
    show y.2.kind = _
    rw [hy]
theorem cat_back : ∀ (rs : List Re) (acc : List Re) (l rest : List (Nat × W)) (d : Nat) (a : Int), (∀ p ∈ rs, Back fin ds p ∧ d + 1 + openR p ≤ 40) → l.map Prod.snd = ((rs.map wsR).map wpar).flatten → acc ++ rs ≠ [] → (kk rest = 0 ∨ kk rest = 3) →
    Q fin ds (.catL acc) (S (l ++ rest) d a) (joinR 3 (acc ++ rs), S rest d a)
  | [], acc, l, rest, d, a, _, hl, hne, hr => by
    obtain rfl := List.map_eq_nil_iff.1 hl
    rw [List.append_nil] at hne ⊢
    exact q_catE (by rw [List.nil_append, kind_S]; omega) hne
  | p :: rs, acc, l, rest, d, a, hp, hl, hne, hr => by
    rw [List.map_cons, List.map_cons, List.flatten_cons] at hl
    obtain ⟨l1, l2, rfl, h1, h2⟩ := List.map_eq_append_iff.1 hl
    obtain ⟨hB, hd⟩ := hp p (by simp)
    have ih := cat_back rs (acc ++ [p]) l2 rest d a (fun q hq => hp q (by simp [hq])) h2 (by simp) hr
    rw [List.append_assoc] at ih ⊢
    have hk2 : kk (l2 ++ rest) = 0 ∨ kk (l2 ++ rest) = 3 ∨ kk (l2 ++ rest) = 2 := by
      cases rs with
      | nil =>
        obtain rfl := List.map_eq_nil_iff.1 h2
        rw [List.nil_append]; omega
      | cons q rs =>
        rw [List.map_cons, List.map_cons, List.flatten_cons] at h2
        obtain ⟨l3, l4, rfl, g1, -⟩ := List.map_eq_append_iff.1 h2
        rw [List.append_assoc, kk_par g1]; omega
    exact q_catL (by rw [kind_S, kk_par h1]; decide) (par_no hB h1 hd (by omega)) ih
theorem alt_back : ∀ (rs : List Re) (acc : List Re) (l rest : List (Nat × W)) (d : Nat) (a : Int), (∀ p ∈ rs, Back fin ds p ∧ d + 1 + openR p ≤ 40) → l.map Prod.snd = (((rs.map wsR).map wpar).map fun s => wK 4 :: s).flatten → (kk rest = 0 ∨ kk rest = 3) →
    Q fin ds (.altL acc) (S (l ++ rest) d a) (joinR 4 (acc ++ rs), S rest d a)
  | [], acc, l, rest, d, a, _, hl, hr => by
    obtain rfl := List.map_eq_nil_iff.1 hl
    rw [List.append_nil]
    exact q_altE (by rw [List.nil_append, kind_S]; omega)
  | p :: rs, acc, l, rest, d, a, hp, hl, hr => by
    rw [List.map_cons, List.map_cons, List.map_cons, List.flatten_cons, List.cons_append] at hl
    obtain ⟨y, l0, rfl, hy, hl⟩ := List.map_eq_cons_iff.1 hl
    obtain ⟨l1, l2, rfl, h1, h2⟩ := List.map_eq_append_iff.1 hl
    obtain ⟨hB, hd⟩ := hp p (by simp)
    have ih := alt_back rs (acc ++ [p]) l2 rest d a (fun q hq => hp q (by simp [hq])) h2 hr
    have hk2 : kk (l2 ++ rest) = 0 ∨ kk (l2 ++ rest) = 3 ∨ kk (l2 ++ rest) = 4 := kk_app _ (wK 4) h2 fun _ => hr
    have hy4 : y.2.kind = 4 := by rw [hy]; rfl
    rw [List.append_assoc] at ih
    rw [List.cons_append, List.append_assoc]
    exact q_altL (by rw [kind_S]; exact hy4) (q_both1 (par_cat hB h1 hd (by omega)) (by rw [kind_S]; omega)) ih
theorem and_back : ∀ (rs : List Re) (acc : List Re) (l rest : List (Nat × W)) (d : Nat) (a : Int), (∀ p ∈ rs, Back fin ds p ∧ d + 1 + openR p ≤ 40) → l.map Prod.snd = (((rs.map wsR).map wpar).map fun s => wK 5 :: s).flatten → (kk rest = 0 ∨ kk rest = 3) →
    Q fin ds (.bothL acc) (S (l ++ rest) d a) (joinR 5 (acc ++ rs), S rest d a)
  | [], acc, l, rest, d, a, _, hl, hr => by
    obtain rfl := List.map_eq_nil_iff.1 hl
    rw [List.append_nil]
    exact q_bothE (by rw [List.nil_append, kind_S]; omega)
  | p :: rs, acc, l, rest, d, a, hp, hl, hr => by
    rw [List.map_cons, List.map_cons, List.map_cons, List.flatten_cons, List.cons_append] at hl
    obtain ⟨y, l0, rfl, hy, hl⟩ := List.map_eq_cons_iff.1 hl
    obtain ⟨l1, l2, rfl, h1, h2⟩ := List.map_eq_append_iff.1 hl
    obtain ⟨hB, hd⟩ := hp p (by simp)
    have ih := and_back rs (acc ++ [p]) l2 rest d a (fun q hq => hp q (by simp [hq])) h2 hr
    have hk2 : kk (l2 ++ rest) = 0 ∨ kk (l2 ++ rest) = 3 ∨ kk (l2 ++ rest) = 5 := kk_app _ (wK 5) h2 fun _ => hr
    have hy5 : y.2.kind = 5 := by rw [hy]; rfl
    rw [List.append_assoc] at ih
    rw [List.cons_append, List.append_assoc]
    exact q_bothL (by rw [kind_S]; exact hy5) (par_cat hB h1 hd (by omega)) ih
theorem join_two (k : Int) {l : List Re} (h : 2 ≤ l.length) : joinR k l = .mk k 0 0 0 0 l 0 0 false := by
  match l, h with
  | _ :: _ :: _, _ => rfl

theorem back (r : Re) : Rd r → Back fin ds r := by
  induction r using Re.ind with
  | h k s0 s1 s2 s3 rs lo hi neg ih =>
    intro h
    cases h with
    | mk _ _ _ _ _ _ _ _ _ hk h2 ho h64 hp =>
    intro l rest d a hl hd hr
    have hB : ∀ p ∈ rs, Back fin ds p := fun p hm => ih p hm (hp p hm)
    have hop : ∀ p ∈ rs, d + 1 + openR p + (if k = 6 ∨ k = 1 then 1 else 0) ≤ 40 := fun p hm => by
      have := openL_mem rs 0 p hm
      rw [openR] at hd
      omega
    have hop' : ∀ p ∈ rs, Back fin ds p ∧ d + 1 + openR p ≤ 40 := fun p hm => ⟨hB p hm, by have := hop p hm; omega⟩
    obtain ⟨o1, o2, o3, o4, o5, o6⟩ := ho
    have hneg : ¬ (k = 8 ∨ k = 9) → neg = false := fun h => by cases neg with | false => rfl | true => exact absurd (o4 rfl) h
    have hone : k = 6 ∨ k = 7 ∨ k = 8 ∨ k = 9 → ∃ p, rs = [p] := fun h => by
      have : rs.length = 1 := by
        rcases h with rfl | rfl | rfl | rfl <;> exact Int.ofNat.inj (o2 (by decide))
      exact List.length_eq_one_iff.1 this
    have hnone : k = 1 ∨ k = 2 ∨ k = 10 ∨ k = 11 → rs = [] := fun h => by
      have : rs.length = 0 := by
        rcases h with rfl | rfl | rfl | rfl <;> exact Int.ofNat.inj (o2 (by decide))
      exact List.eq_nil_of_length_eq_zero this
    rw [wsR_eq] at hl
    unfold topW at hl
    by_cases k1 : k = 1
    · rw [if_pos k1] at hl
      obtain rfl := hnone (.inl k1)
      subst k1
      obtain ⟨e1, e2, e3, e4⟩ := o3.resolve_left (by decide)
      obtain ⟨e5, e6⟩ := o6 (by decide)
      subst e1 e2 e3 e4 e5 e6
      rw [hneg (by decide)]
      obtain ⟨y, l0, rfl, hy, hl⟩ := List.map_eq_cons_iff.1 hl
      obtain ⟨z, l1, rfl, hz, hl⟩ := List.map_eq_cons_iff.1 hl
      obtain rfl := List.map_eq_nil_iff.1 hl
      have hy2 : y.2.kind = 2 := by rw [hy]; rfl
      have hz3 : z.2.kind = 3 := by rw [hz]; rfl
      have hd1 : d + 1 ≤ 40 := by rw [openR] at hd; rw [if_pos (.inr rfl)] at hd; omega
      have hi := q_inner (fin := fin) (ds := ds) (n := y.1) (s := S (z :: rest) d a) (s1 := S (z :: rest) (d + 1) a) (r := leafR 1) (by
        rw [enter_S _ _ _ _ hd1]
        exact q_alt1 (q_both1 (q_cat (q_cat0 (by rw [kind_S]; exact .inr (.inr (.inr hz3))))) (by rw [kind_S]; show z.2.kind ≠ 5; omega)) (by rw [kind_S]; show z.2.kind ≠ 4; omega)) (by rw [close_S, kind_S]; exact hz3)
      have hat : Q fin ds .atom (S (y :: z :: rest) d a) (leafR 1, S rest d a) := q_open (by rw [kind_S]; exact hy2) hi
      exact q_leaf hat (by rw [kind_S]; show y.2.kind ≠ 0 ∧ y.2.kind ≠ 4 ∧ y.2.kind ≠ 5 ∧ y.2.kind ≠ 3 ∧ y.2.kind ≠ 6; omega) (by rw [kind_S]; exact hr)
    rw [if_neg k1] at hl
    by_cases k2 : k = 2
    · rw [if_pos k2] at hl
      obtain rfl := hnone (by omega)
      subst k2
      obtain ⟨e5, e6⟩ := o6 (by decide)
      subst e5 e6
      rw [hneg (by decide)]
      obtain ⟨y, l0, rfl, hy, hl⟩ := List.map_eq_cons_iff.1 hl
      obtain rfl := List.map_eq_nil_iff.1 hl
      have hy2 : y.2.kind = 1 := by rw [hy]; rfl
      have hat := q_bytes (fin := fin) (ds := ds) (s := S (y :: rest) d a) (by rw [kind_S]; exact hy2)
      have e : (headW (S (y :: rest) d a)).2.set = setF s0 s1 s2 s3 := by show y.2.set = _; rw [hy]; rfl
      rw [e, bytes_set s0 s1 s2 s3 h64.1 h64.2.1 h64.2.2.1 h64.2.2.2] at hat
      exact q_leaf hat (by rw [kind_S]; show y.2.kind ≠ 0 ∧ y.2.kind ≠ 4 ∧ y.2.kind ≠ 5 ∧ y.2.kind ≠ 3 ∧ y.2.kind ≠ 6; omega) (by rw [kind_S]; exact hr)
    rw [if_neg k2] at hl
    obtain ⟨e1, e2, e3, e4⟩ := o3.resolve_left k2
    subst e1 e2 e3 e4
    by_cases k7 : k = 7
    · subst k7
      rw [if_neg (by decide), if_neg (by decide), if_neg (by decide), if_neg (by decide), if_pos rfl] at hl
      rw [hneg (by decide)]
      obtain ⟨p, rfl⟩ := hone (by omega)
      rw [wjn_nil] at hl
      simp only [List.map_cons, List.map_nil, List.flatten_cons, List.flatten_nil, List.append_nil] at hl
      obtain ⟨l1, l2, rfl, h1, hl2⟩ := List.map_eq_append_iff.1 hl
      obtain ⟨y, l3, rfl, hy, hl3⟩ := List.map_eq_cons_iff.1 hl2
      obtain rfl := List.map_eq_nil_iff.1 hl3
      have hy2 : y.2.kind = 10 := by rw [hy]
      have hat := par_atom (rest := y :: rest) (a := a) (hB p (by simp)) h1 (hop' p (by simp)).2
      have e : loT (headW (S (y :: rest) d a)).2 = lo ∧ hiT (headW (S (y :: rest) d a)).2 = hi := by
        show loT y.2 = lo ∧ hiT y.2 = hi
        rw [hy]; exact ⟨rfl, rfl⟩
      have hp7 := q_postL (fin := fin) (ds := ds) (r := p) (s := S (y :: rest) d a) (by rw [kind_S]; exact hy2) (q_postE (by rw [next_S, kind_S]; omega))
      rw [e.1, e.2] at hp7
      rw [List.append_assoc]
      exact q_up (q_no (by rw [kind_S, kk_par h1]; decide) (q_post hat hp7)) (by rw [kind_S, kk_par h1]; decide) (by rw [kind_S]; exact hr)
    obtain ⟨e5, e6⟩ := o6 k7
    subst e5 e6
    by_cases k3 : k = 3
    · subst k3
      rw [if_pos rfl, wjn_nil] at hl
      rw [hneg (by decide), ← join_two 3 (h2 (by omega))]
      have hne : rs ≠ [] := fun e => by have := h2 (.inl rfl); rw [e] at this; simp at this
      exact q_alt1 (q_both1 (q_cat (cat_back rs [] l rest d a hop' hl hne hr)) (by rw [kind_S]; omega)) (by rw [kind_S]; omega)
    rw [if_neg k3] at hl
    by_cases k4 : k = 4
    · subst k4
      rw [if_pos rfl] at hl
      rw [hneg (by decide), ← join_two 4 (h2 (by omega))]
      cases rs with
      | nil => exact absurd (h2 (by omega)) (by simp)
      | cons p rs =>
        rw [List.map_cons, List.map_cons, wjn] at hl
        obtain ⟨l1, l2, rfl, h1, hl2⟩ := List.map_eq_append_iff.1 hl
        have hk2 : kk (l2 ++ rest) = 0 ∨ kk (l2 ++ rest) = 3 ∨ kk (l2 ++ rest) = 4 := kk_app _ (wK 4) hl2 fun _ => hr
        have ha := alt_back (fin := fin) (ds := ds) rs [p] l2 rest d a (fun q hq => hop' q (by simp [hq])) hl2 hr
        rw [List.append_assoc]
        exact q_alt (q_both1 (par_cat (hB p (by simp)) h1 (hop' p (by simp)).2 (by omega)) (by rw [kind_S]; omega)) ha
    rw [if_neg k4] at hl
    by_cases k5 : k = 5
    · subst k5
      rw [if_pos rfl] at hl
      rw [hneg (by decide), ← join_two 5 (h2 (by omega))]
      cases rs with
      | nil => exact absurd (h2 (by omega)) (by simp)
      | cons p rs =>
        rw [List.map_cons, List.map_cons, wjn] at hl
        obtain ⟨l1, l2, rfl, h1, hl2⟩ := List.map_eq_append_iff.1 hl
        have hk2 : kk (l2 ++ rest) = 0 ∨ kk (l2 ++ rest) = 3 ∨ kk (l2 ++ rest) = 5 := kk_app _ (wK 5) hl2 fun _ => hr
        have ha := and_back (fin := fin) (ds := ds) rs [p] l2 rest d a (fun q hq => hop' q (by simp [hq])) hl2 hr
        rw [List.append_assoc]
        exact q_alt1 (q_both (par_cat (hB p (by simp)) h1 (hop' p (by simp)).2 (by omega)) ha) (by rw [kind_S]; omega)
    rw [if_neg k5] at hl
    by_cases k6 : k = 6
    · subst k6
      rw [if_pos rfl, wjn_nil] at hl
      rw [hneg (by decide)]
      obtain ⟨p, rfl⟩ := hone (by omega)
      simp only [List.map_cons, List.map_nil, List.flatten_cons, List.flatten_nil, List.append_nil] at hl
      obtain ⟨y, l1, rfl, hy, h1⟩ := List.map_eq_cons_iff.1 hl
      have hy2 : y.2.kind = 6 := by rw [hy]; rfl
      have hop6 := hop p (by simp)
      rw [if_pos (.inl rfl)] at hop6
      have hn := par_no (fin := fin) (ds := ds) (rest := rest) (d := d + 1) (a := a) (hB p (by simp)) h1 (by omega) (by omega)
      have hq := q_not (fin := fin) (ds := ds) (s := S (y :: (l1 ++ rest)) d a) (r := p) (s1 := S rest (d + 1) a) (by rw [kind_S]; exact hy2) (by rw [next_S, enter_S _ _ _ _ (by omega)]; exact hn)
      rw [close_S] at hq
      exact q_up hq (by rw [kind_S]; show y.2.kind ≠ 0 ∧ y.2.kind ≠ 4 ∧ y.2.kind ≠ 5 ∧ y.2.kind ≠ 3; omega) (by rw [kind_S]; exact hr)
    rw [if_neg k6, if_neg k7] at hl
    by_cases k8 : k = 8 ∨ k = 9
    · rw [if_pos k8] at hl
      obtain ⟨p, rfl⟩ := hone (by omega)
      simp only [List.map_cons, List.map_nil, whd] at hl
      obtain ⟨y, l1, rfl, hy, h1⟩ := List.map_eq_cons_iff.1 hl
      have hi := inner_back (fin := fin) (ds := ds) (n := y.1) (rest := rest) (a := a) (hB p (by simp)) h1 (hop' p (by simp)).2
      have hy2 : y.2.kind = lookK k neg := by rw [hy]; rfl
      have hq := q_look (fin := fin) (ds := ds) (s := S (y :: (l1 ++ rest)) d a) (r := p) (s1 := S rest d a) (by
        rw [kind_S]; show y.2.kind = 12 ∨ y.2.kind = 13 ∨ y.2.kind = 14 ∨ y.2.kind = 15; rw [hy2]; unfold lookK
        rcases k8 with rfl | rfl <;> cases neg <;> decide) hi
      have ek : kindP (S (y :: (l1 ++ rest)) d a) = lookK k neg := by rw [kind_S]; exact hy2
      rw [ek] at hq
      have e1 : (if 14 ≤ lookK k neg then (9 : Int) else 8) = k := by rcases k8 with rfl | rfl <;> cases neg <;> rfl
      have e2 : decide (lookK k neg = 13 ∨ lookK k neg = 15) = neg := by rcases k8 with rfl | rfl <;> cases neg <;> rfl
      rw [e1, e2] at hq
      exact q_leaf hq (by rw [List.cons_append, ek]; rcases k8 with rfl | rfl <;> cases neg <;> decide) (by rw [kind_S]; exact hr)
    rw [if_neg k8] at hl
    obtain rfl := hnone (by omega)
    rw [hneg k8]
    by_cases k10 : k = 10
    · subst k10
      rw [if_pos rfl] at hl
      obtain ⟨y, l0, rfl, hy, hl⟩ := List.map_eq_cons_iff.1 hl
      obtain rfl := List.map_eq_nil_iff.1 hl
      have hy2 : y.2.kind = 16 := by rw [hy]; rfl
      have hat := q_begin (fin := fin) (ds := ds) (s := S (y :: rest) d a) (by rw [kind_S]; exact hy2)
      exact q_leaf hat (by rw [kind_S]; show y.2.kind ≠ 0 ∧ y.2.kind ≠ 4 ∧ y.2.kind ≠ 5 ∧ y.2.kind ≠ 3 ∧ y.2.kind ≠ 6; omega) (by rw [kind_S]; exact hr)
    · rw [if_neg k10] at hl
      obtain rfl : k = 11 := by omega
      obtain ⟨y, l0, rfl, hy, hl⟩ := List.map_eq_cons_iff.1 hl
      obtain rfl := List.map_eq_nil_iff.1 hl
      have hy2 : y.2.kind = 17 := by rw [hy]; rfl
      have hat := q_end (fin := fin) (ds := ds) (s := S (y :: rest) d a) (by rw [kind_S]; exact hy2)
      exact q_leaf hat (by rw [kind_S]; show y.2.kind ≠ 0 ∧ y.2.kind ≠ 4 ∧ y.2.kind ≠ 5 ∧ y.2.kind ≠ 3 ∧ y.2.kind ≠ 6; omega) (by rw [kind_S]; exact hr)
end
end Go.Proofs.YtjdfpdlcmkadnaaGreatDoor.pa
